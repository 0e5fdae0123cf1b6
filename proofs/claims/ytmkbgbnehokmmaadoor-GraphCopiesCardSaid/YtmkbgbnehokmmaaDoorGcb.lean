/- fretworklaw04.GraphCopies returns true and leaves its input as it was, whatever the input. Provided that the variable errors.errorType holds what the text lays in it (the row lists it). The walk: gcopies_pure. -/
import Derived.Test.YtmkbgbnehokmmaaDoorGxd
import Derived.Test.YtmkbgbnehokmmaaDoorGca
namespace Go.Proofs.YtmkbgbnehokmmaaDoor
open Go.ChangeShapes Go.WideShapes Go.ChangeAt Go.RowKit Go.Reg

set_option maxRecDepth 100000 in
theorem contractGraphCopies (H : Type) (enc : TypeId × Value → H) (W : World) (base : Nat) (args : Array Value) (ds gs : List (DataW H)) (before : List MemPlace)
    (hval : ∀ (j : Nat) t v, Tryd.f8.params[j]? = some t → args[j]? = some v → Value.okWide Tryd.prog W .any base t v)
    (hW : DataW.Whole enc Tryd.prog Tryd.f8.params.toList Rows.graphCopiesSpec.vars false W args.toList ds gs before) (hL : laidMetH Tryd.prog Rows.graphCopiesRow.laid W) :
    Calls Tryd.prog 8 args W fun e W' => ∃ v, e = .returned v ∧ Rows.graphCopiesSpec.post enc Tryd.prog Tryd.f8 false true false false W args v W' := by
  have hW' := hW
  obtain ⟨p, q, hA0, hV, rfl, hfz, hnd⟩ := hW
  have hA : DataW.TrodAll enc Tryd.prog W 0 (fun _ => true) true Tryd.f8.params.toList args.toList ds p := hA0
  rw [Tryd.params8] at hA hval
  obtain ⟨v0, v1, d0, d1, p0, p1, rfl, rfl, rfl, h0, h1⟩ := trodAll_two hA
  obtain ⟨rfl, rfl⟩ := trodVars_none hV
  have c0 := Sx.cap_of Tryd.underlying29 (hval 0 _ _ rfl rfl) h0
  obtain ⟨x0, a0, _⟩ := argSl_of (enc := eI.enc) (fun _ => True) Tryd.underlying29 (k := 1) (by kernel_rfl) (by decide) (fun _ => rfl) int_el (hval 0 _ _ rfl rfl) h0
  have c1 := Sx.cap_of Tryd.underlying56 (hval 1 _ _ rfl rfl) h1
  obtain ⟨x1, a1, _⟩ := argSl_of (enc := eE.enc) (fun _ => True) Tryd.underlying56 (k := 2) (by kernel_rfl) (by decide) (fun _ => rfl) edge_el (hval 1 _ _ rfl rfl) h1
  have hg := glob_errT (errT_of_laid hL)
  have l0 : ∀ x ∈ p0, x.block < W.heap.size := fun x hx => by have := hW'.lt x (by simp [hx]); simpa using this
  have l1 : ∀ x ∈ p1, x.block < W.heap.size := fun x hx => by have := hW'.lt x (by simp [hx]); simpa using this
  refine ((gcopies_pure x0 x1).calls hg (Sx.reps_cons (eI.rep_arg (by decide) a0 c0) (Sx.reps_cons (eE.rep_arg (by decide) a1 c1) Sx.reps_nil))).mono fun e W' ⟨u, y, he, hy, hr, ht⟩ => ?_
  subst hy
  obtain rfl := rep_bool hr
  subst he
  refine ⟨_, rfl, _, _, _, [], p0 ++ p1, [], hW', ?_, ?_, ?_, ?_, fun h => by cases h⟩
  · exact trodAll_mk1 (shut_bool Tryd.underlying4 true)
  · exact trodAll_mk2 (Below.trod laidOut (by kernel_rfl) (of_decide_eq_true (by kernel_rfl)) h0 ht.below l0) (Below.trod laidOut (by kernel_rfl) (of_decide_eq_true (by kernel_rfl)) h1 ht.below l1)
  · rfl
  · refine ⟨ht.os, ht.output, fun i hi => ?_⟩
    rw [ht.blk i hi (by simp)]
    have hsome : ∃ o, W.heap[i]? = some o := ⟨_, Array.getElem?_eq_getElem hi⟩
    obtain ⟨o, ho⟩ := hsome
    rw [ho]
    cases o <;> simp

theorem readsGraphCopies (os : Os) {H : Type} (enc : TypeId × Value → H) : ∃ places, DataW.whole enc Tryd.prog ((laidWorld os).forCall (fun _ _ => 0) ⟨#[], #[.slice none 0 0, .slice none 0 0], []⟩).memory Tryd.f8.params.toList Rows.graphCopiesSpec.vars false #[.slice none 0 0, .slice none 0 0].toList 8 = some ([.nil, .nil], [], places) :=
  ⟨[], by kernel_rfl⟩

set_option maxRecDepth 100000 in
theorem liftedGraphCopies (os : Os) (started : os.Started) (H : Type) (enc : TypeId × Value → H) (F : Stop.Interp) :
    ReturnsInHanded {} Tryd.checked os 8 .any ((OpenSpec.ofChange Rows.graphCopiesSpec).preRow enc Tryd.prog Tryd.f8 Rows.graphCopiesRow.domain false Rows.graphCopiesRow.laid) (((OpenSpec.ofChange Rows.graphCopiesSpec).at F).post enc Tryd.prog Tryd.f8 false true false false) := by
  obtain ⟨places, hx⟩ := readsGraphCopies os enc
  refine returnsInHanded_of_row (C := Tryd.checked) (s := OpenSpec.ofChange Rows.graphCopiesSpec) own started (by kernel_rfl) Tryd.func8
    (witness_row_at (enc := enc) (C := Tryd.checked) false (laidWorld os) #[.slice none 0 0, .slice none 0 0] rfl (by kernel_rfl) (by kernel_rfl) (by kernel_rfl)
      (OpenSpec.preRow_of_cond 8 hx (by kernel_rfl) (fun k hk => by cases hk) (by kernel_rfl) (laidWorld_met os _))) ?_
  intro W base args ds gs before hval hW _ _ _ hL _ _
  exact contractGraphCopies H enc W base args ds gs before hval hW hL

theorem saidGraphCopies : Rows.GraphCopiesSaid :=
  OpenClaim.holds_of_cond 8 Tryd.f8 rfl rfl rfl rfl rfl rfl rfl ⟨rfl, rfl, rfl, rfl, rfl⟩ rfl rfl rfl rfl rfl (by kernel_rfl) Tryd.func8 (by kernel_rfl)
    (of_decide_eq_true (by kernel_rfl)) (by unfold Func.isWrapper; first | (rw [if_pos (by decide +kernel)]; kernel_rfl) | (rw [if_neg (by decide +kernel)]; exact ⟨rfl, rfl⟩))
    (fun os started H enc _ F => by rw [OpenClaim.pre_eq_preRow]; exact liftedGraphCopies os started H enc F)

theorem plainGraphCopies (f : FuncId) (fn : Func) (hf : Tryd.pinned.checked.prog.funcNamed "fretwork/fretworklaw04.GraphCopies" = some f) (hfn : Tryd.pinned.checked.prog.funcs[f]? = some fn) :
    true = Tryd.pinned.checked.prog.looks [] ∧ ∀ (j : Nat) t, fn.params[j]? = some t → Tryd.pinned.checked.prog.wantsStandIn t = false := by
  obtain rfl : f = 8 := Option.some.inj ((show Tryd.prog.funcNamed "fretwork/fretworklaw04.GraphCopies" = some 8 by kernel_rfl).symm.trans hf) |>.symm
  obtain rfl : fn = Tryd.f8 := (Option.some.inj (Tryd.func8.symm.trans hfn)).symm
  refine ⟨by kernel_rfl, fun j t ht => ?_⟩
  rw [Tryd.params8] at ht
  have hm := Array.mem_of_getElem? ht
  simp at hm
  rcases hm with rfl | rfl
  · exact (show Tryd.prog.wantsStandIn 29 = false by kernel_rfl)
  · exact (show Tryd.prog.wantsStandIn 56 = false by kernel_rfl)

theorem cardGraphCopies : Rows.GraphCopiesCardSaid :=
  Claim7.holds_tied_plain_at .later [] _ _ _ _ saidGraphCopies (fun _ h => by cases h) (by kernel_rfl) (fun _ h => by cases h) graphCopies_row_tie rfl ⟨rfl, rfl⟩ (by kernel_rfl) rfl plainGraphCopies (by kernel_rfl)
#print axioms cardGraphCopies
end Go.Proofs.YtmkbgbnehokmmaaDoor
