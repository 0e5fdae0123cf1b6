/- fretworklaw23.RenderKeeps returns true and leaves its input as it was, whatever the input. Provided that the listed variables hold what the text lays in them (the row lists them). The walk: rkeeps_pure. -/
import Derived.Test.YtjpmmkodoeipmaaGreatDoorrkba
section
namespace Go.Proofs.YtjpmmkodoeipmaaGreatDoor
open Go.ChangeShapes Go.WideShapes Go.ChangeAt Go.RowKit Go.Reg Go.Gr Go.ChangeMaps
theorem SF:Rows.RenderKeepsSaid:=
 OpenClaim.holds_of_cond 3 Tryz.f3 rfl rfl rfl rfl rfl rfl rfl ⟨rfl,rfl,rfl,rfl,rfl⟩ rfl rfl rfl rfl rfl (by kernel_rfl) Tryz.func3 Q3
  (of_decide_eq_true (by kernel_rfl)) (by unfold Func.isWrapper;first|(rw[if_pos (by decide+kernel)];kernel_rfl)|(rw[if_neg (by decide+kernel)];exact⟨rfl,rfl⟩))
  (λos started H enc _ F=>by rw[OpenClaim.pre_eq_preRow];exact Qf os started H enc F)
theorem Rf(f:FuncId)(fn:Func)(hf:Tryz.pinned.checked.prog.funcNamed "fretwork/fretworklaw23.RenderKeeps" =some f)(hfn:Tryz.pinned.checked.prog.funcs[f]? =some fn):
  true=Tryz.pinned.checked.prog.looks []/\∀(j:Nat) t,fn.params[j]? =some t->Tryz.pinned.checked.prog.wantsStandIn t=false:=by
 obtain rfl:f=3:=Ce ((show Tryz.prog.funcNamed "fretwork/fretworklaw23.RenderKeeps" =some 3 by kernel_rfl).symm.trans hf)|>.symm
 obtain rfl:fn=Tryz.f3:=(Ce (Tryz.func3.symm.trans hfn)).symm
 refine⟨by kernel_rfl,λj t ht=>?_⟩
 rw[Tryz.params3]at ht
 have hm:=Array.mem_of_getElem? ht
 simp at hm
 rcases hm with rfl|rfl|rfl
 ·exact(show Tryz.prog.wantsStandIn 22=false by kernel_rfl)
 ·exact(show Tryz.prog.wantsStandIn 23=false by kernel_rfl)
 ·exact(show Tryz.prog.wantsStandIn 26=false by kernel_rfl)
theorem cardRenderKeeps:Rows.RenderKeepsCardSaid:=
 Claim7.holds_tied_plain_at .later [] _ _ _ _ SF (λ_ h=>by cases h) (by kernel_rfl) (λ_ h=>by cases h) renderKeeps_row_tie rfl ⟨rfl,rfl⟩ (by kernel_rfl) rfl Rf (by kernel_rfl)
#print axioms cardRenderKeeps
end Go.Proofs.YtjpmmkodoeipmaaGreatDoor
end
