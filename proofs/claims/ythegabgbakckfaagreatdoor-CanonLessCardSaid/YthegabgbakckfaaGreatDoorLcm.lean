/- fretworklaw09.CanonLess returns true and leaves its input as it was, whatever the input. Provided that the listed variables hold what the text lays in them (the row lists them). The walk: lless_pure. -/
import Derived.Test.YthegabgbakckfaaGreatDoorLcl
import Derived.Test.YthegabgbakckfaaGreatDoorCdx
namespace Go.Proofs.YthegabgbakckfaaGreatDoor
open Go.ChangeShapes Go.WideShapes Go.ChangeAt Go.RowKit Go.Reg Go.Gr Go.ChangeMaps

set_option maxRecDepth 100000 in
theorem contractCanonLess (H : Type) (enc : TypeId × Value → H) (W : World) (base : Nat) (args : Array Value) (ds gs : List (DataW H)) (before : List MemPlace)
    (hval : ∀ (j : Nat) t v, Tryz.f4.params[j]? = some t → args[j]? = some v → Value.okWide Tryz.prog W .any base t v)
    (hW : DataW.Whole enc Tryz.prog Tryz.f4.params.toList Rows.canonLessSpec.vars false W args.toList ds gs before) (hsz0 : (DataW.weightsEach Tryz.prog (Tryz.f4.params.toList ++ (OpenSpec.ofChange Rows.canonLessSpec).bare.plain.varTypes Tryz.prog) (ds ++ gs)).all (· ≤ reachBytes) = true) (hL : laidMetH Tryz.prog Rows.canonLessRow.laid W) (_hsh : W.ShapedOpen Tryz.prog) :
    Calls Tryz.prog 4 args W fun e W' => ∃ v, e = .returned v ∧ Rows.canonLessSpec.post enc Tryz.prog Tryz.f4 false true false false W args v W' := by
  have hsz := hsz0
  clear hsz0
  have hW' := hW
  obtain ⟨p, q, hA0, hV, rfl, hfz, hnd⟩ := hW
  have hA : DataW.TrodAll enc Tryz.prog W 0 (fun _ => true) true Tryz.f4.params.toList args.toList ds p := hA0
  rw [Tryz.params4] at hA hval hsz
  obtain ⟨v0, v1, v2, v3, d0, d1, d2, d3, p0, p1, p2, p3, rfl, rfl, rfl, h0, h1, h2, h3⟩ := trodAll_four hA
  obtain ⟨rfl, rfl⟩ := trodVars_none hV
  obtain ⟨x0, r0⟩ := open_pat (hval 0 _ _ rfl rfl) h0
  obtain ⟨x1, r1⟩ := open_pat (hval 1 _ _ rfl rfl) h1
  obtain ⟨x2, rfl, rfl, rfl, w2⟩ := open_int Tryz.underlying42 (hval 2 _ _ rfl rfl) h2
  have b2 : 0 ≤ x2 ∧ x2 ≤ 65535 := by
    have e1 : IntKind.u16.min = 0 := by decide
    have e2 : IntKind.u16.max = 65535 := by decide
    have := w2
    simp [Lit.wf, e1, e2] at this; omega
  obtain ⟨x3, rfl, rfl, rfl, w3⟩ := open_int Tryz.underlying42 (hval 3 _ _ rfl rfl) h3
  have b3 : 0 ≤ x3 ∧ x3 ≤ 65535 := by
    have e1 : IntKind.u16.min = 0 := by decide
    have e2 : IntKind.u16.max = 65535 := by decide
    have := w3
    simp [Lit.wf, e1, e2] at this; omega
  have hg := globs_of (show laidMetH Tryz.prog laidAll W from hL)
  have l0 : ∀ x ∈ p0, x.block < W.heap.size := fun x hx => by have := hW'.lt x (by simp [hx]); simpa using this
  have l1 : ∀ x ∈ p1, x.block < W.heap.size := fun x hx => by have := hW'.lt x (by simp [hx]); simpa using this
  refine ((lless_pure x0 x1 x2 x3 b2 b3).calls hg (Sx.reps_cons r0 (Sx.reps_cons r1 (Sx.reps_cons (Sx.rep_of_int .u16 x2) (Sx.reps_cons (Sx.rep_of_int .u16 x3) Sx.reps_nil))))).mono fun e W' ⟨u, y, he, hy, hr, ht⟩ => ?_
  subst hy
  obtain rfl := rep_bool hr
  subst he
  refine ⟨_, rfl, _, _, _, [], p0 ++ (p1 ++ ([] ++ [])), [], hW', ?_, ?_, ?_, ?_, fun h => by cases h⟩
  · exact trodAll_mk1 (shut_bool Tryz.underlying4 true)
  · exact trodAll_mk4 (Below.trod laidOut (by kernel_rfl) (of_decide_eq_true (by kernel_rfl)) h0 ht.below l0) (Below.trod laidOut (by kernel_rfl) (of_decide_eq_true (by kernel_rfl)) h1 ht.below l1) (shut_int Tryz.underlying42 w2) (shut_int Tryz.underlying42 w3)
  · rfl
  · refine ⟨ht.os, ht.output, fun i hi => ?_⟩
    rw [ht.blk i hi (by simp)]
    have hsome : ∃ o, W.heap[i]? = some o := ⟨_, Array.getElem?_eq_getElem hi⟩
    obtain ⟨o, ho⟩ := hsome
    rw [ho]
    cases o <;> simp

theorem readsCanonLess (os : Os) {H : Type} (enc : TypeId × Value → H) : ∃ places, DataW.whole enc Tryz.prog ((laidWorld os).forCall (fun _ _ => 0) ⟨#[], #[.agg #[.slice none 0 0, .slice none 0 0], .agg #[.slice none 0 0, .slice none 0 0], .int .u16 0, .int .u16 0], []⟩).memory Tryz.f4.params.toList Rows.canonLessSpec.vars false #[.agg #[.slice none 0 0, .slice none 0 0], .agg #[.slice none 0 0, .slice none 0 0], .int .u16 0, .int .u16 0].toList 8 = some ([.agg [.nil, .nil], .agg [.nil, .nil], .lit (.int .u16 0), .lit (.int .u16 0)], [], places) :=
  ⟨[], by kernel_rfl⟩

set_option maxRecDepth 100000 in
theorem liftedCanonLess (os : Os) (started : os.Started) (H : Type) (enc : TypeId × Value → H) (F : Stop.Interp) :
    ReturnsInHanded {} Tryz.checked os 4 .any ((OpenSpec.ofChange Rows.canonLessSpec).preRow enc Tryz.prog Tryz.f4 Rows.canonLessRow.domain false Rows.canonLessRow.laid) (((OpenSpec.ofChange Rows.canonLessSpec).at F).post enc Tryz.prog Tryz.f4 false true false false) := by
  obtain ⟨places, hx⟩ := readsCanonLess os enc
  refine returnsInHanded_of_row (C := Tryz.checked) (s := OpenSpec.ofChange Rows.canonLessSpec) own started (by kernel_rfl) Tryz.func4
    (witness_row_at (enc := enc) (C := Tryz.checked) false (laidWorld os) #[.agg #[.slice none 0 0, .slice none 0 0], .agg #[.slice none 0 0, .slice none 0 0], .int .u16 0, .int .u16 0] rfl (by kernel_rfl) (by kernel_rfl) (by kernel_rfl)
      (OpenSpec.preRow_of_cond 8 hx (by kernel_rfl) (fun k hk => by cases hk) (by kernel_rfl) (laidWorld_met os _))) ?_
  intro W base args ds gs before hval hW _ _ hsz hL hsh _
  exact contractCanonLess H enc W base args ds gs before hval hW hsz hL hsh

theorem saidCanonLess : Rows.CanonLessSaid :=
  OpenClaim.holds_of_cond 4 Tryz.f4 rfl rfl rfl rfl rfl rfl rfl ⟨rfl, rfl, rfl, rfl, rfl⟩ rfl rfl rfl rfl rfl (by kernel_rfl) Tryz.func4 (by kernel_rfl)
    (of_decide_eq_true (by kernel_rfl)) (by unfold Func.isWrapper; first | (rw [if_pos (by decide +kernel)]; kernel_rfl) | (rw [if_neg (by decide +kernel)]; exact ⟨rfl, rfl⟩))
    (fun os started H enc _ F => by rw [OpenClaim.pre_eq_preRow]; exact liftedCanonLess os started H enc F)

theorem plainCanonLess (f : FuncId) (fn : Func) (hf : Tryz.pinned.checked.prog.funcNamed "fretwork/fretworklaw09.CanonLess" = some f) (hfn : Tryz.pinned.checked.prog.funcs[f]? = some fn) :
    true = Tryz.pinned.checked.prog.looks [] ∧ ∀ (j : Nat) t, fn.params[j]? = some t → Tryz.pinned.checked.prog.wantsStandIn t = false := by
  obtain rfl : f = 4 := Option.some.inj ((show Tryz.prog.funcNamed "fretwork/fretworklaw09.CanonLess" = some 4 by kernel_rfl).symm.trans hf) |>.symm
  obtain rfl : fn = Tryz.f4 := (Option.some.inj (Tryz.func4.symm.trans hfn)).symm
  refine ⟨by kernel_rfl, fun j t ht => ?_⟩
  rw [Tryz.params4] at ht
  have hm := Array.mem_of_getElem? ht
  simp at hm
  rcases hm with rfl | rfl
  · exact (show Tryz.prog.wantsStandIn 25 = false by kernel_rfl)
  · exact (show Tryz.prog.wantsStandIn 42 = false by kernel_rfl)

theorem cardCanonLess : Rows.CanonLessCardSaid :=
  Claim7.holds_tied_plain_at .later [] _ _ _ _ saidCanonLess (fun _ h => by cases h) (by kernel_rfl) (fun _ h => by cases h) canonLess_row_tie rfl ⟨rfl, rfl⟩ (by kernel_rfl) rfl plainCanonLess (by kernel_rfl)
#print axioms cardCanonLess
end Go.Proofs.YthegabgbakckfaaGreatDoor
