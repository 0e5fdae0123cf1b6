/- Ctx. -/
import Derived.Test.YtjejpdfldmempaaGreatDoorltan
import Derived.Test.YtjejpdfldmempaaGreatDoorRows
import Derived.Test.YtjejpdfldmempaaGreatDoorltao
namespace Go.Proofs.YtjejpdfldmempaaGreatDoor
open Go.Sx Go.RowKit Go.Reg
set_option maxRecDepth 100000
noncomputable def C1:Cx:=⟨Tryz.prog,[(0,.raw (.iface 293 (.agg #[.pointer (some ⟨5,39,none⟩)])))]⟩
theorem EN:C1.Ok tab:=⟨by kernel_rfl,by kernel_rfl⟩
section
variable {n:Nat} {c:Code}
theorem BV {K:KE} {fr:Fr} {σ:Sg}(G:List FuncId)(pl:List (Nat×Plan))(h:Dj C1 tab n pl c K fr σ)(hk:BQ C1.P G pl c=true:=by kernel_rfl):EJ C1 n c K fr σ:=CR EN c K fr σ hk h
variable {f:FuncId} {fn:Func} {xs:List Da}
theorem AT {Q:Da->Prop}(hf:C1.P.funcs[f]? =some fn)(hn:fn.ntmps=n)(G:List FuncId)(pl:List (Nat×Plan))(h:Dj C1 tab n pl c (Hr tab fn.results.toList (YS tab Q)) (params (B8 xs) 0) [])(hb:fn.body=some c:=by rfl)(hrun:∀(vs:Array Value) (w:World),(callFunc f vs).run C1.P w=.ok (.enter f vs) w:=by intros;kernel_rfl)(hk:BQ C1.P G pl c=true:=by kernel_rfl)(hl:xs.length<=n:=by simp):Pure C1 f xs Q:=Yu EN hf hb hn hrun hk hl h
theorem UB {E k:Nat} {Q:List Da->Prop}(hf:C1.P.funcs[f]? =some fn)(hn:fn.ntmps=n)(G:List FuncId)(pl:List (Nat×Plan))(h:Dj C1 tab n pl c (Hr tab fn.results.toList (Hc E k Q)) (params (B8 xs) 0) [])(hb:fn.body=some c:=by rfl)(hrun:∀(vs:Array Value) (w:World),(callFunc f vs).run C1.P w=.ok (.enter f vs) w:=by intros;kernel_rfl)(hk:BQ C1.P G pl c=true:=by kernel_rfl)(hl:xs.length<=n:=by simp):D4 C1 f xs E k Q:=SL EN hf hb hn hrun hk hl h
end
end Go.Proofs.YtjejpdfldmempaaGreatDoor
