/- Ctx. -/
import Derived.Test.YtjpmmkodoeipmaaGreatDoorrkan
import Derived.Test.YtjpmmkodoeipmaaGreatDoorRows
import Derived.Test.YtjpmmkodoeipmaaGreatDoorrkao
namespace Go.Proofs.YtjpmmkodoeipmaaGreatDoor
open Go.Sx Go.RowKit Go.Reg
set_option maxRecDepth 100000
noncomputable def C1:Cx:=⟨Tryz.prog,[]⟩
theorem EO:C1.Ok tab:=⟨by kernel_rfl,by kernel_rfl⟩
section
variable {n:Nat} {c:Code}
theorem Cd {K:KE} {fr:Fr} {σ:Sg}(G:List FuncId)(pl:List (Nat×Plan))(h:En C1 tab n pl c K fr σ)(hk:CH C1.P G pl c=true:=by kernel_rfl):FB C1 n c K fr σ:=DE EO c K fr σ hk h
variable {f:FuncId} {fn:Func} {xs:List Da}
theorem AW {Q:Da->Prop}(hf:C1.P.funcs[f]? =some fn)(hn:fn.ntmps=n)(G:List FuncId)(pl:List (Nat×Plan))(h:En C1 tab n pl c (J8 tab fn.results.toList (oM tab Q)) (params (Ct xs) 0) [])(hb:fn.body=some c:=by rfl)(hrun:∀(vs:Array Value) (w:World),(callFunc f vs).run C1.P w=.ok (.enter f vs) w:=by intros;kernel_rfl)(hk:CH C1.P G pl c=true:=by kernel_rfl)(hl:xs.length<=n:=by simp):Pure C1 f xs Q:=mQ EO hf hb hn hrun hk hl h
theorem WI {E k:Nat} {Q:List Da->Prop}(hf:C1.P.funcs[f]? =some fn)(hn:fn.ntmps=n)(G:List FuncId)(pl:List (Nat×Plan))(h:En C1 tab n pl c (J8 tab fn.results.toList (L9 E k Q)) (params (Ct xs) 0) [])(hb:fn.body=some c:=by rfl)(hrun:∀(vs:Array Value) (w:World),(callFunc f vs).run C1.P w=.ok (.enter f vs) w:=by intros;kernel_rfl)(hk:CH C1.P G pl c=true:=by kernel_rfl)(hl:xs.length<=n:=by simp):E5 C1 f xs E k Q:=nC EO hf hb hn hrun hk hl h
end
end Go.Proofs.YtjpmmkodoeipmaaGreatDoor
