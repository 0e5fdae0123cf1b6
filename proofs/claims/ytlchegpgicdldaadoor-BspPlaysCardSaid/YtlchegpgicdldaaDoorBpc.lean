/- fretworklaw20.BspPlays returns true and leaves its input as it was, whatever the input. Provided that the listed variables hold what the text lays in them (the row lists them). The walk: lplay_pure. -/
import Derived.Test.YtlchegpgicdldaaDoorBpy
import Derived.Test.YtlchegpgicdldaaDoorBdx
namespace Go.Proofs.YtlchegpgicdldaaDoor
open Go.ChangeShapes Go.WideShapes Go.ChangeAt Go.RowKit Go.Reg Go.ChangeMaps

set_option maxRecDepth 100000 in
theorem contractBspPlays (H : Type) (enc : TypeId × Value → H) (W : World) (base : Nat) (args : Array Value) (ds gs : List (DataW H)) (before : List MemPlace)
    (hval : ∀ (j : Nat) t v, Tryd.f6.params[j]? = some t → args[j]? = some v → Value.okWide Tryd.prog W .any base t v)
    (hW : DataW.Whole enc Tryd.prog Tryd.f6.params.toList Rows.bspPlaysSpec.vars false W args.toList ds gs before) (hsz0 : (DataW.weightsEach Tryd.prog (Tryd.f6.params.toList ++ (OpenSpec.ofChange Rows.bspPlaysSpec).bare.plain.varTypes Tryd.prog) (ds ++ gs)).all (· ≤ reachBytes) = true) (hL : laidMetH Tryd.prog Rows.bspPlaysRow.laid W) (_hsh : W.ShapedOpen Tryd.prog) :
    Calls Tryd.prog 6 args W fun e W' => ∃ v, e = .returned v ∧ Rows.bspPlaysSpec.post enc Tryd.prog Tryd.f6 false true false false W args v W' := by
  have hsz := hsz0
  clear hsz0
  have hW' := hW
  obtain ⟨p, q, hA0, hV, rfl, hfz, hnd⟩ := hW
  have hA : DataW.TrodAll enc Tryd.prog W 0 (fun _ => true) true Tryd.f6.params.toList args.toList ds p := hA0
  rw [Tryd.params6] at hA hval hsz
  obtain ⟨v0, v1, v2, d0, d1, d2, p0, p1, p2, rfl, rfl, rfl, h0, h1, h2⟩ := trodAll_three hA
  obtain ⟨rfl, rfl⟩ := trodVars_none hV
  have c0 := Sx.cap_of Tryd.underlying22 (hval 0 _ _ rfl rfl) h0
  obtain ⟨x0, a0, _⟩ := argSl_of (enc := eTx.enc) (fun _ => True) Tryd.underlying22 (k := 1) (by kernel_rfl) (by decide) (fun _ => rfl) str_el (hval 0 _ _ rfl rfl) h0
  obtain ⟨x1, r1⟩ := open_intss (hval 1 _ _ rfl rfl) h1
  have c2 := Sx.cap_of Tryd.underlying45 (hval 2 _ _ rfl rfl) h2
  obtain ⟨x2, a2, _⟩ := argSl_of (enc := eAB.enc) (fun _ => True) Tryd.underlying45 (k := 2) (by kernel_rfl) (by decide) (fun _ => rfl) act_el (hval 2 _ _ rfl rfl) h2
  have hg := globs_of (show laidMetH Tryd.prog laidAll W from hL)
  have l0 : ∀ x ∈ p0, x.block < W.heap.size := fun x hx => by have := hW'.lt x (by simp [hx]); simpa using this
  have l1 : ∀ x ∈ p1, x.block < W.heap.size := fun x hx => by have := hW'.lt x (by simp [hx]); simpa using this
  have l2 : ∀ x ∈ p2, x.block < W.heap.size := fun x hx => by have := hW'.lt x (by simp [hx]); simpa using this
  refine ((lplay_pure x0 x1 x2).calls hg (Sx.reps_cons (eTx.rep_arg (by decide) a0 c0) (Sx.reps_cons r1 (Sx.reps_cons (eAB.rep_arg (by decide) a2 c2) Sx.reps_nil)))).mono fun e W' ⟨u, y, he, hy, hr, ht⟩ => ?_
  subst hy
  obtain rfl := rep_bool hr
  subst he
  refine ⟨_, rfl, _, _, _, [], p0 ++ (p1 ++ p2), [], hW', ?_, ?_, ?_, ?_, fun h => by cases h⟩
  · exact trodAll_mk1 (shut_bool Tryd.underlying4 true)
  · exact trodAll_mk3 (Below.trod laidOut (by kernel_rfl) (of_decide_eq_true (by kernel_rfl)) h0 ht.below l0) (Below.trod laidOut (by kernel_rfl) (of_decide_eq_true (by kernel_rfl)) h1 ht.below l1) (Below.trod laidOut (by kernel_rfl) (of_decide_eq_true (by kernel_rfl)) h2 ht.below l2)
  · rfl
  · refine ⟨ht.os, ht.output, fun i hi => ?_⟩
    rw [ht.blk i hi (by simp)]
    have hsome : ∃ o, W.heap[i]? = some o := ⟨_, Array.getElem?_eq_getElem hi⟩
    obtain ⟨o, ho⟩ := hsome
    rw [ho]
    cases o <;> simp

theorem readsBspPlays (os : Os) {H : Type} (enc : TypeId × Value → H) : ∃ places, DataW.whole enc Tryd.prog ((laidWorld os).forCall (fun _ _ => 0) ⟨#[], #[.slice none 0 0, .slice none 0 0, .slice none 0 0], []⟩).memory Tryd.f6.params.toList Rows.bspPlaysSpec.vars false #[.slice none 0 0, .slice none 0 0, .slice none 0 0].toList 8 = some ([.nil, .nil, .nil], [], places) :=
  ⟨[], by kernel_rfl⟩

set_option maxRecDepth 100000 in
theorem liftedBspPlays (os : Os) (started : os.Started) (H : Type) (enc : TypeId × Value → H) (F : Stop.Interp) :
    ReturnsInHanded {} Tryd.checked os 6 .any ((OpenSpec.ofChange Rows.bspPlaysSpec).preRow enc Tryd.prog Tryd.f6 Rows.bspPlaysRow.domain false Rows.bspPlaysRow.laid) (((OpenSpec.ofChange Rows.bspPlaysSpec).at F).post enc Tryd.prog Tryd.f6 false true false false) := by
  obtain ⟨places, hx⟩ := readsBspPlays os enc
  refine returnsInHanded_of_row (C := Tryd.checked) (s := OpenSpec.ofChange Rows.bspPlaysSpec) own started (by kernel_rfl) Tryd.func6
    (witness_row_at (enc := enc) (C := Tryd.checked) false (laidWorld os) #[.slice none 0 0, .slice none 0 0, .slice none 0 0] rfl (by kernel_rfl) (by kernel_rfl) (by kernel_rfl)
      (OpenSpec.preRow_of_cond 8 hx (by kernel_rfl) (fun k hk => by cases hk) (by kernel_rfl) (laidWorld_met os _))) ?_
  intro W base args ds gs before hval hW _ _ hsz hL hsh _
  exact contractBspPlays H enc W base args ds gs before hval hW hsz hL hsh

theorem saidBspPlays : Rows.BspPlaysSaid :=
  OpenClaim.holds_of_cond 6 Tryd.f6 rfl rfl rfl rfl rfl rfl rfl ⟨rfl, rfl, rfl, rfl, rfl⟩ rfl rfl rfl rfl rfl (by kernel_rfl) Tryd.func6 (by kernel_rfl)
    (of_decide_eq_true (by kernel_rfl)) (by unfold Func.isWrapper; first | (rw [if_pos (by decide +kernel)]; kernel_rfl) | (rw [if_neg (by decide +kernel)]; exact ⟨rfl, rfl⟩))
    (fun os started H enc _ F => by rw [OpenClaim.pre_eq_preRow]; exact liftedBspPlays os started H enc F)

theorem plainBspPlays (f : FuncId) (fn : Func) (hf : Tryd.pinned.checked.prog.funcNamed "fretwork/fretworklaw20.BspPlays" = some f) (hfn : Tryd.pinned.checked.prog.funcs[f]? = some fn) :
    true = Tryd.pinned.checked.prog.looks [] ∧ ∀ (j : Nat) t, fn.params[j]? = some t → Tryd.pinned.checked.prog.wantsStandIn t = false := by
  obtain rfl : f = 6 := Option.some.inj ((show Tryd.prog.funcNamed "fretwork/fretworklaw20.BspPlays" = some 6 by kernel_rfl).symm.trans hf) |>.symm
  obtain rfl : fn = Tryd.f6 := (Option.some.inj (Tryd.func6.symm.trans hfn)).symm
  refine ⟨by kernel_rfl, fun j t ht => ?_⟩
  rw [Tryd.params6] at ht
  have hm := Array.mem_of_getElem? ht
  simp at hm
  rcases hm with rfl | rfl | rfl
  · exact (show Tryd.prog.wantsStandIn 22 = false by kernel_rfl)
  · exact (show Tryd.prog.wantsStandIn 29 = false by kernel_rfl)
  · exact (show Tryd.prog.wantsStandIn 45 = false by kernel_rfl)

theorem cardBspPlays : Rows.BspPlaysCardSaid :=
  Claim7.holds_tied_plain_at .later [] _ _ _ _ saidBspPlays (fun _ h => by cases h) (by kernel_rfl) (fun _ h => by cases h) bspPlays_row_tie rfl ⟨rfl, rfl⟩ (by kernel_rfl) rfl plainBspPlays (by kernel_rfl)
#print axioms cardBspPlays
end Go.Proofs.YtlchegpgicdldaaDoor
