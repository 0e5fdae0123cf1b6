/- fretworklaw18.LevelGrows returns true and leaves its input as it was, whatever the input. Provided that the listed variables hold what the text lays in them (the row lists them). The walk: lgrows_pure. -/
import Derived.Test.YtjejpdfldmempaaGreatDoorlgbh
section
namespace Go.Proofs.YtjejpdfldmempaaGreatDoor
open Go.ChangeShapes Go.WideShapes Go.ChangeAt Go.RowKit Go.Reg Go.Gr Go.ChangeMaps
theorem saidLevelGrows : Rows.LevelGrowsSaid :=
 OpenClaim.holds_of_cond 5 Tryz.f5 rfl rfl rfl rfl rfl rfl rfl ⟨rfl, rfl, rfl, rfl, rfl⟩ rfl rfl rfl rfl rfl (by kernel_rfl) Tryz.func5 closedLevelGrows
  (of_decide_eq_true (by kernel_rfl)) (by unfold Func.isWrapper; first | (rw [if_pos (by decide +kernel)]; kernel_rfl) | (rw [if_neg (by decide +kernel)]; exact ⟨rfl, rfl⟩))
  (fun os started H enc _ F => by rw [OpenClaim.pre_eq_preRow]; exact liftedLevelGrows os started H enc F)
theorem plainLevelGrows (f : FuncId) (fn : Func) (hf : Tryz.pinned.checked.prog.funcNamed "fretwork/fretworklaw18.LevelGrows" = some f) (hfn : Tryz.pinned.checked.prog.funcs[f]? = some fn) :
  true = Tryz.pinned.checked.prog.looks [] ∧ ∀ (j : Nat) t, fn.params[j]? = some t → Tryz.pinned.checked.prog.wantsStandIn t = false := by
 obtain rfl : f = 5 := Option.some.inj ((show Tryz.prog.funcNamed "fretwork/fretworklaw18.LevelGrows" = some 5 by kernel_rfl).symm.trans hf) |>.symm
 obtain rfl : fn = Tryz.f5 := (Option.some.inj (Tryz.func5.symm.trans hfn)).symm
 refine ⟨by kernel_rfl, fun j t ht => ?_⟩
 rw [Tryz.params5] at ht
 have hm := Array.mem_of_getElem? ht
 simp at hm
 rcases hm with rfl | rfl | rfl | rfl | rfl | rfl
 ·exact (show Tryz.prog.wantsStandIn 28 = false by kernel_rfl)
 ·exact (show Tryz.prog.wantsStandIn 33 = false by kernel_rfl)
 ·exact (show Tryz.prog.wantsStandIn 4 = false by kernel_rfl)
 ·exact (show Tryz.prog.wantsStandIn 3 = false by kernel_rfl)
 ·exact (show Tryz.prog.wantsStandIn 53 = false by kernel_rfl)
 ·exact (show Tryz.prog.wantsStandIn 28 = false by kernel_rfl)
theorem cardLevelGrows : Rows.LevelGrowsCardSaid :=
 Claim7.holds_tied_plain_at .later [] _ _ _ _ saidLevelGrows (fun _ h => by cases h) (by kernel_rfl) (fun _ h => by cases h) levelGrows_row_tie rfl ⟨rfl, rfl⟩ (by kernel_rfl) rfl plainLevelGrows (by kernel_rfl)
#print axioms cardLevelGrows
end Go.Proofs.YtjejpdfldmempaaGreatDoor
end
