/- Ctx. -/
import Derived.Test.YtjejpdfldmempaaGreatDooragan
import Derived.Test.YtjejpdfldmempaaGreatDoorRows
import Derived.Test.YtjejpdfldmempaaGreatDooragao
namespace Go.Proofs.YtjejpdfldmempaaGreatDoor
open Go.Sx Go.RowKit Go.Reg
set_option maxRecDepth 100000
noncomputable def C1:Cx:=⟨Tryz.prog,[(0,.raw (.iface 293 (.agg #[.pointer (some ⟨5,39,none⟩)])))]⟩
theorem J2:C1.Ok tab:=⟨by kernel_rfl,by kernel_rfl⟩
section
variable {n:Nat} {c:Code}
theorem Fw {K:KE} {fr:Fr} {σ:Sg}(G:List FuncId)(pl:List (Nat×Plan))(h:CU C1 tab n pl c K fr σ)(hk:BA C1.P G pl c=true:=by kernel_rfl):DN C1 n c K fr σ:=Cq J2 c K fr σ hk h
variable {f:FuncId} {fn:Func} {xs:List Da}
theorem CI {Q:Da->Prop}(hf:C1.P.funcs[f]? =some fn)(hn:fn.ntmps=n)(G:List FuncId)(pl:List (Nat×Plan))(h:CU C1 tab n pl c (Iz tab fn.results.toList (SR tab Q)) (params (Cf xs) 0) [])(hb:fn.body=some c:=by rfl)(hrun:∀(vs:Array Value) (w:World),(callFunc f vs).run C1.P w=.ok (.enter f vs) w:=by intros;kernel_rfl)(hk:BA C1.P G pl c=true:=by kernel_rfl)(hl:xs.length<=n:=by simp):Pure C1 f xs Q:=Sf J2 hf hb hn hrun hk hl h
theorem X0 {E k:Nat} {Q:List Da->Prop}(hf:C1.P.funcs[f]? =some fn)(hn:fn.ntmps=n)(G:List FuncId)(pl:List (Nat×Plan))(h:CU C1 tab n pl c (Iz tab fn.results.toList (Iu E k Q)) (params (Cf xs) 0) [])(hb:fn.body=some c:=by rfl)(hrun:∀(vs:Array Value) (w:World),(callFunc f vs).run C1.P w=.ok (.enter f vs) w:=by intros;kernel_rfl)(hk:BA C1.P G pl c=true:=by kernel_rfl)(hl:xs.length<=n:=by simp):DF C1 f xs E k Q:=OL J2 hf hb hn hrun hk hl h
end
end Go.Proofs.YtjejpdfldmempaaGreatDoor
