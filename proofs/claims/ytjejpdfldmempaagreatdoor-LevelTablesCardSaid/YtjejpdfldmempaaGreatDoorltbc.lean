/- fretworklaw18.LevelTables returns true and leaves its input as it was, whatever the input. Provided that the listed variables hold what the text lays in them (the row lists them). The walk: ltabs_pure. -/
import Derived.Test.YtjejpdfldmempaaGreatDoorltbb
section
namespace Go.Proofs.YtjejpdfldmempaaGreatDoor
open Go.ChangeShapes Go.WideShapes Go.ChangeAt Go.RowKit Go.Reg Go.Gr Go.ChangeMaps
theorem Oz:Rows.LevelTablesSaid:=
 OpenClaim.holds_of_cond 8 Tryz.f8 rfl rfl rfl rfl rfl rfl rfl ⟨rfl,rfl,rfl,rfl,rfl⟩ rfl rfl rfl rfl rfl (by kernel_rfl) Tryz.func8 MA
  (of_decide_eq_true (by kernel_rfl)) (by unfold Func.isWrapper;first|(rw[if_pos (by decide+kernel)];kernel_rfl)|(rw[if_neg (by decide+kernel)];exact⟨rfl,rfl⟩))
  (λos started H enc _ F=>by rw[OpenClaim.pre_eq_preRow];exact Mm os started H enc F)
theorem Nf(f:FuncId)(fn:Func)(hf:Tryz.pinned.checked.prog.funcNamed "fretwork/fretworklaw18.LevelTables" =some f)(hfn:Tryz.pinned.checked.prog.funcs[f]? =some fn):
  true=Tryz.pinned.checked.prog.looks []/\∀(j:Nat) t,fn.params[j]? =some t->Tryz.pinned.checked.prog.wantsStandIn t=false:=by
 obtain rfl:f=8:=BG ((show Tryz.prog.funcNamed "fretwork/fretworklaw18.LevelTables" =some 8 by kernel_rfl).symm.trans hf)|>.symm
 obtain rfl:fn=Tryz.f8:=(BG (Tryz.func8.symm.trans hfn)).symm
 refine⟨by kernel_rfl,λj t ht=>?_⟩
 rw[Tryz.params8]at ht
 have hm:=Array.mem_of_getElem? ht
 simp at hm
 rcases hm with rfl|rfl|rfl|rfl|rfl|rfl
 ·exact(show Tryz.prog.wantsStandIn 28=false by kernel_rfl)
 ·exact(show Tryz.prog.wantsStandIn 33=false by kernel_rfl)
 ·exact(show Tryz.prog.wantsStandIn 4=false by kernel_rfl)
 ·exact(show Tryz.prog.wantsStandIn 3=false by kernel_rfl)
 ·exact(show Tryz.prog.wantsStandIn 53=false by kernel_rfl)
 ·exact(show Tryz.prog.wantsStandIn 5=false by kernel_rfl)
theorem cardLevelTables:Rows.LevelTablesCardSaid:=
 Claim7.holds_tied_plain_at .later [] _ _ _ _ Oz (λ_ h=>by cases h) (by kernel_rfl) (λ_ h=>by cases h) levelTables_row_tie rfl ⟨rfl,rfl⟩ (by kernel_rfl) rfl Nf (by kernel_rfl)
#print axioms cardLevelTables
end Go.Proofs.YtjejpdfldmempaaGreatDoor
end
