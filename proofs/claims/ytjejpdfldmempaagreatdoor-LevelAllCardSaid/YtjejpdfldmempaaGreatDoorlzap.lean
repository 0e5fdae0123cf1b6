/- Ctx. -/
import Derived.Test.YtjejpdfldmempaaGreatDoorlzan
import Derived.Test.YtjejpdfldmempaaGreatDoorRows
import Derived.Test.YtjejpdfldmempaaGreatDoorlzao
namespace Go.Proofs.YtjejpdfldmempaaGreatDoor
open Go.Sx Go.RowKit Go.Reg
set_option maxRecDepth 100000
noncomputable def C1:Cx:=⟨Tryz.prog,[(0,.raw (.iface 293 (.agg #[.pointer (some ⟨5,39,none⟩)])))]⟩
theorem Fb:C1.Ok tab:=⟨by kernel_rfl,by kernel_rfl⟩
section
variable {n:Nat} {c:Code}
theorem Bj {K:KE} {fr:Fr} {σ:Sg}(G:List FuncId)(pl:List (Nat×Plan))(h:D1 C1 tab n pl c K fr σ)(hk:Cu C1.P G pl c=true:=by kernel_rfl):DJ C1 n c K fr σ:=Dh Fb c K fr σ hk h
variable {f:FuncId} {fn:Func} {xs:List Da}
theorem AK {Q:Da->Prop}(hf:C1.P.funcs[f]? =some fn)(hn:fn.ntmps=n)(G:List FuncId)(pl:List (Nat×Plan))(h:D1 C1 tab n pl c (Jg tab fn.results.toList (ZK tab Q)) (params (BO xs) 0) [])(hb:fn.body=some c:=by rfl)(hrun:∀(vs:Array Value) (w:World),(callFunc f vs).run C1.P w=.ok (.enter f vs) w:=by intros;kernel_rfl)(hk:Cu C1.P G pl c=true:=by kernel_rfl)(hl:xs.length<=n:=by simp):Pure C1 f xs Q:=Zi Fb hf hb hn hrun hk hl h
theorem Vt {E k:Nat} {Q:List Da->Prop}(hf:C1.P.funcs[f]? =some fn)(hn:fn.ntmps=n)(G:List FuncId)(pl:List (Nat×Plan))(h:D1 C1 tab n pl c (Jg tab fn.results.toList (Jd E k Q)) (params (BO xs) 0) [])(hb:fn.body=some c:=by rfl)(hrun:∀(vs:Array Value) (w:World),(callFunc f vs).run C1.P w=.ok (.enter f vs) w:=by intros;kernel_rfl)(hk:Cu C1.P G pl c=true:=by kernel_rfl)(hl:xs.length<=n:=by simp):DV C1 f xs E k Q:=Zt Fb hf hb hn hrun hk hl h
end
end Go.Proofs.YtjejpdfldmempaaGreatDoor
