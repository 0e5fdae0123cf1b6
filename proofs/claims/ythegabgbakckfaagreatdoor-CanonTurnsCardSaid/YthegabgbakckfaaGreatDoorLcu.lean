/- fretworklaw09.CanonTurns returns true and leaves its input as it was, whatever the input. Provided that the listed variables hold what the text lays in them (the row lists them). The walk: lturns_pure. -/
import Derived.Test.YthegabgbakckfaaGreatDoorLct
import Derived.Test.YthegabgbakckfaaGreatDoorCdx
namespace Go.Proofs.YthegabgbakckfaaGreatDoor
open Go.ChangeShapes Go.WideShapes Go.ChangeAt Go.RowKit Go.Reg Go.Gr Go.ChangeMaps

set_option maxRecDepth 100000 in
theorem contractCanonTurns (H : Type) (enc : TypeId × Value → H) (W : World) (base : Nat) (args : Array Value) (ds gs : List (DataW H)) (before : List MemPlace)
    (hval : ∀ (j : Nat) t v, Tryz.f6.params[j]? = some t → args[j]? = some v → Value.okWide Tryz.prog W .any base t v)
    (hW : DataW.Whole enc Tryz.prog Tryz.f6.params.toList Rows.canonTurnsSpec.vars false W args.toList ds gs before) (hsz0 : (DataW.weightsEach Tryz.prog (Tryz.f6.params.toList ++ (OpenSpec.ofChange Rows.canonTurnsSpec).bare.plain.varTypes Tryz.prog) (ds ++ gs)).all (· ≤ reachBytes) = true) (hL : laidMetH Tryz.prog Rows.canonTurnsRow.laid W) (hsh : W.ShapedOpen Tryz.prog) :
    Calls Tryz.prog 6 args W fun e W' => ∃ v, e = .returned v ∧ Rows.canonTurnsSpec.post enc Tryz.prog Tryz.f6 false true false false W args v W' := by
  have hsz := hsz0
  clear hsz0
  have hW' := hW
  obtain ⟨p, q, hA0, hV, rfl, hfz, hnd⟩ := hW
  have hA : DataW.TrodAll enc Tryz.prog W 0 (fun _ => true) true Tryz.f6.params.toList args.toList ds p := hA0
  rw [Tryz.params6] at hA hval hsz
  obtain ⟨v0, v1, d0, d1, p0, p1, rfl, rfl, rfl, h0, h1⟩ := trodAll_two hA
  obtain ⟨rfl, rfl⟩ := trodVars_none hV
  obtain ⟨x0, r0⟩ := open_pat (hval 0 _ _ rfl rfl) h0
  obtain ⟨x1, rfl, rfl, rfl, w1⟩ := open_int Tryz.underlying42 (hval 1 _ _ rfl rfl) h1
  have b1 : 0 ≤ x1 ∧ x1 ≤ 65535 := by
    have e1 : IntKind.u16.min = 0 := by decide
    have e2 : IntKind.u16.max = 65535 := by decide
    have := w1
    simp [Lit.wf, e1, e2] at this; omega
  have hg := globs_of (show laidMetH Tryz.prog laidAll W from hL)
  have l0 : ∀ x ∈ p0, x.block < W.heap.size := fun x hx => by have := hW'.lt x (by simp [hx]); simpa using this
  refine ((lturns_pure x0 x1 b1).calls hg (Sx.reps_cons r0 (Sx.reps_cons (Sx.rep_of_int .u16 x1) Sx.reps_nil))).mono fun e W' ⟨u, y, he, hy, hr, ht⟩ => ?_
  subst hy
  obtain rfl := rep_bool hr
  subst he
  refine ⟨_, rfl, _, _, _, [], p0 ++ [], [], hW', ?_, ?_, ?_, ?_, fun h => by cases h⟩
  · exact trodAll_mk1 (shut_bool Tryz.underlying4 true)
  · exact trodAll_mk2 (Below.trod laidOut (by kernel_rfl) (of_decide_eq_true (by kernel_rfl)) h0 ht.below l0) (shut_int Tryz.underlying42 w1)
  · rfl
  · refine ⟨ht.os, ht.output, fun i hi => ?_⟩
    rw [ht.blk i hi (by simp)]
    have hsome : ∃ o, W.heap[i]? = some o := ⟨_, Array.getElem?_eq_getElem hi⟩
    obtain ⟨o, ho⟩ := hsome
    rw [ho]
    cases o <;> simp

theorem readsCanonTurns (os : Os) {H : Type} (enc : TypeId × Value → H) : ∃ places, DataW.whole enc Tryz.prog ((laidWorld os).forCall (fun _ _ => 0) ⟨#[], #[.agg #[.slice none 0 0, .slice none 0 0], .int .u16 0], []⟩).memory Tryz.f6.params.toList Rows.canonTurnsSpec.vars false #[.agg #[.slice none 0 0, .slice none 0 0], .int .u16 0].toList 8 = some ([.agg [.nil, .nil], .lit (.int .u16 0)], [], places) :=
  ⟨[], by kernel_rfl⟩

set_option maxRecDepth 100000 in
theorem liftedCanonTurns (os : Os) (started : os.Started) (H : Type) (enc : TypeId × Value → H) (F : Stop.Interp) :
    ReturnsInHanded {} Tryz.checked os 6 .any ((OpenSpec.ofChange Rows.canonTurnsSpec).preRow enc Tryz.prog Tryz.f6 Rows.canonTurnsRow.domain false Rows.canonTurnsRow.laid) (((OpenSpec.ofChange Rows.canonTurnsSpec).at F).post enc Tryz.prog Tryz.f6 false true false false) := by
  obtain ⟨places, hx⟩ := readsCanonTurns os enc
  refine returnsInHanded_of_row (C := Tryz.checked) (s := OpenSpec.ofChange Rows.canonTurnsSpec) own started (by kernel_rfl) Tryz.func6
    (witness_row_at (enc := enc) (C := Tryz.checked) false (laidWorld os) #[.agg #[.slice none 0 0, .slice none 0 0], .int .u16 0] rfl (by kernel_rfl) (by kernel_rfl) (by kernel_rfl)
      (OpenSpec.preRow_of_cond 8 hx (by kernel_rfl) (fun k hk => by cases hk) (by kernel_rfl) (laidWorld_met os _))) ?_
  intro W base args ds gs before hval hW _ _ hsz hL hsh _
  exact contractCanonTurns H enc W base args ds gs before hval hW hsz hL hsh

theorem saidCanonTurns : Rows.CanonTurnsSaid :=
  OpenClaim.holds_of_cond 6 Tryz.f6 rfl rfl rfl rfl rfl rfl rfl ⟨rfl, rfl, rfl, rfl, rfl⟩ rfl rfl rfl rfl rfl (by kernel_rfl) Tryz.func6 (by kernel_rfl)
    (of_decide_eq_true (by kernel_rfl)) (by unfold Func.isWrapper; first | (rw [if_pos (by decide +kernel)]; kernel_rfl) | (rw [if_neg (by decide +kernel)]; exact ⟨rfl, rfl⟩))
    (fun os started H enc _ F => by rw [OpenClaim.pre_eq_preRow]; exact liftedCanonTurns os started H enc F)

theorem plainCanonTurns (f : FuncId) (fn : Func) (hf : Tryz.pinned.checked.prog.funcNamed "fretwork/fretworklaw09.CanonTurns" = some f) (hfn : Tryz.pinned.checked.prog.funcs[f]? = some fn) :
    true = Tryz.pinned.checked.prog.looks [] ∧ ∀ (j : Nat) t, fn.params[j]? = some t → Tryz.pinned.checked.prog.wantsStandIn t = false := by
  obtain rfl : f = 6 := Option.some.inj ((show Tryz.prog.funcNamed "fretwork/fretworklaw09.CanonTurns" = some 6 by kernel_rfl).symm.trans hf) |>.symm
  obtain rfl : fn = Tryz.f6 := (Option.some.inj (Tryz.func6.symm.trans hfn)).symm
  refine ⟨by kernel_rfl, fun j t ht => ?_⟩
  rw [Tryz.params6] at ht
  have hm := Array.mem_of_getElem? ht
  simp at hm
  rcases hm with rfl | rfl
  · exact (show Tryz.prog.wantsStandIn 25 = false by kernel_rfl)
  · exact (show Tryz.prog.wantsStandIn 42 = false by kernel_rfl)

theorem cardCanonTurns : Rows.CanonTurnsCardSaid :=
  Claim7.holds_tied_plain_at .later [] _ _ _ _ saidCanonTurns (fun _ h => by cases h) (by kernel_rfl) (fun _ h => by cases h) canonTurns_row_tie rfl ⟨rfl, rfl⟩ (by kernel_rfl) rfl plainCanonTurns (by kernel_rfl)
#print axioms cardCanonTurns
end Go.Proofs.YthegabgbakckfaaGreatDoor
