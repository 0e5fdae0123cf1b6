/- fretworklaw19.NetAll returns true and leaves its input as it was, whatever the input, provided that the variable errors.errorType holds what the text lays in it (the row lists it). The walk: all_pure. -/
import Derived.Test.YtlpjdngjmknniaaDoorNxg
import Derived.Test.YtlpjdngjmknniaaDoorNxd
namespace Go.Proofs.YtlpjdngjmknniaaDoor
open Go.ChangeShapes Go.WideShapes Go.ChangeAt Go.RowKit Go.Reg

set_option maxRecDepth 100000 in
theorem contractNetAll (H : Type) (enc : TypeId × Value → H) (W : World) (base : Nat) (args : Array Value) (ds gs : List (DataW H)) (before : List MemPlace)
    (hval : ∀ (j : Nat) t v, Tryd.f4.params[j]? = some t → args[j]? = some v → Value.okWide Tryd.prog W .any base t v)
    (hW : DataW.Whole enc Tryd.prog Tryd.f4.params.toList Rows.netAllSpec.vars false W args.toList ds gs before) (hL : laidMetH Tryd.prog Rows.netAllRow.laid W) :
    Calls Tryd.prog 4 args W fun e W' => ∃ v, e = .returned v ∧ Rows.netAllSpec.post enc Tryd.prog Tryd.f4 false true false false W args v W' := by
  have hW' := hW
  obtain ⟨p, q, hA0, hV, rfl, hfz, hnd⟩ := hW
  have hA : DataW.TrodAll enc Tryd.prog W 0 (fun _ => true) true Tryd.f4.params.toList args.toList ds p := hA0
  rw [Tryd.params4] at hA hval
  obtain ⟨v0, v1, v2, v3, d0, d1, d2, d3, p0, p1, p2, p3, rfl, rfl, rfl, h0, h1, h2, h3⟩ := trodAll_four hA
  obtain ⟨rfl, rfl⟩ := trodVars_none hV
  obtain ⟨x0, rfl, rfl, rfl, w0⟩ := open_int Tryd.underlying5 (hval 0 _ _ rfl rfl) h0
  have b0 : 0 ≤ x0 ∧ x0 ≤ 255 := by
    have e1 : IntKind.u8.min = 0 := by decide
    have e2 : IntKind.u8.max = 255 := by decide
    have := w0
    simp [Lit.wf, e1, e2] at this; omega
  have c1 := Sx.cap_of Tryd.underlying22 (hval 1 _ _ rfl rfl) h1
  obtain ⟨x1, a1, _⟩ := argSl_of (enc := encA) (fun _ => True) Tryd.underlying22 (k := 4) (by kernel_rfl) (by decide) (fun _ => rfl) act_el (hval 1 _ _ rfl rfl) h1
  have c2 := Sx.cap_of Tryd.underlying46 (hval 2 _ _ rfl rfl) h2
  obtain ⟨x2, a2, b2⟩ := argSl_of (enc := eU16.enc) (fun x => 0 ≤ x ∧ x ≤ 65535) Tryd.underlying46 (k := 1) (by kernel_rfl) (by decide) (fun _ => rfl) u16_el (hval 2 _ _ rfl rfl) h2
  obtain ⟨x3, rfl, rfl, rfl, w3⟩ := open_int Tryd.underlying5 (hval 3 _ _ rfl rfl) h3
  have b3 : 0 ≤ x3 ∧ x3 ≤ 255 := by
    have e1 : IntKind.u8.min = 0 := by decide
    have e2 : IntKind.u8.max = 255 := by decide
    have := w3
    simp [Lit.wf, e1, e2] at this; omega
  have hg := glob_errT (errT_of_laid hL)
  have l1 : ∀ x ∈ p1, x.block < W.heap.size := fun x hx => by have := hW'.lt x (by simp [hx]); simpa using this
  have l2 : ∀ x ∈ p2, x.block < W.heap.size := fun x hx => by have := hW'.lt x (by simp [hx]); simpa using this
  refine ((all_pure x0 x1 x2 x3 b0 b2 b3).calls hg (Sx.reps_cons (Sx.rep_of_int .u8 x0) (Sx.reps_cons (eA.rep_arg (by decide) a1 c1) (Sx.reps_cons (eU16.rep_arg (by decide) a2 c2) (Sx.reps_cons (Sx.rep_of_int .u8 x3) Sx.reps_nil))))).mono fun e W' ⟨u, y, he, hy, hr, ht⟩ => ?_
  subst hy
  obtain rfl := rep_bool hr
  subst he
  refine ⟨_, rfl, _, _, _, [], [] ++ (p1 ++ (p2 ++ [])), [], hW', ?_, ?_, ?_, ?_, fun h => by cases h⟩
  · exact trodAll_mk1 (shut_bool Tryd.underlying4 true)
  · exact trodAll_mk4 (shut_int Tryd.underlying5 w0) (Below.trod laidOut (by kernel_rfl) (of_decide_eq_true (by kernel_rfl)) h1 ht.below l1) (Below.trod laidOut (by kernel_rfl) (of_decide_eq_true (by kernel_rfl)) h2 ht.below l2) (shut_int Tryd.underlying5 w3)
  · rfl
  · refine ⟨ht.os, ht.output, fun i hi => ?_⟩
    rw [ht.blk i hi (by simp)]
    have hsome : ∃ o, W.heap[i]? = some o := ⟨_, Array.getElem?_eq_getElem hi⟩
    obtain ⟨o, ho⟩ := hsome
    rw [ho]
    cases o <;> simp

theorem readsNetAll (os : Os) {H : Type} (enc : TypeId × Value → H) : ∃ places, DataW.whole enc Tryd.prog ((laidWorld os).forCall (fun _ _ => 0) ⟨#[], #[.int .u8 0, .slice none 0 0, .slice none 0 0, .int .u8 0], []⟩).memory Tryd.f4.params.toList Rows.netAllSpec.vars false #[.int .u8 0, .slice none 0 0, .slice none 0 0, .int .u8 0].toList 8 = some ([.lit (.int .u8 0), .nil, .nil, .lit (.int .u8 0)], [], places) :=
  ⟨[], by kernel_rfl⟩

set_option maxRecDepth 100000 in
theorem liftedNetAll (os : Os) (started : os.Started) (H : Type) (enc : TypeId × Value → H) (F : Stop.Interp) :
    ReturnsInHanded {} Tryd.checked os 4 .any ((OpenSpec.ofChange Rows.netAllSpec).preRow enc Tryd.prog Tryd.f4 Rows.netAllRow.domain false Rows.netAllRow.laid) (((OpenSpec.ofChange Rows.netAllSpec).at F).post enc Tryd.prog Tryd.f4 false true false false) := by
  obtain ⟨places, hx⟩ := readsNetAll os enc
  refine returnsInHanded_of_row (C := Tryd.checked) (s := OpenSpec.ofChange Rows.netAllSpec) own started (by kernel_rfl) Tryd.func4
    (witness_row_at (enc := enc) (C := Tryd.checked) false (laidWorld os) #[.int .u8 0, .slice none 0 0, .slice none 0 0, .int .u8 0] rfl (by kernel_rfl) (by kernel_rfl) (by kernel_rfl)
      (OpenSpec.preRow_of_cond 8 hx (by kernel_rfl) (fun k hk => by cases hk) (by kernel_rfl) (laidWorld_met os _))) ?_
  intro W base args ds gs before hval hW _ _ _ hL _ _
  exact contractNetAll H enc W base args ds gs before hval hW hL

theorem saidNetAll : Rows.NetAllSaid :=
  OpenClaim.holds_of_cond 4 Tryd.f4 rfl rfl rfl rfl rfl rfl rfl ⟨rfl, rfl, rfl, rfl, rfl⟩ rfl rfl rfl rfl rfl (by kernel_rfl) Tryd.func4 (by kernel_rfl)
    (of_decide_eq_true (by kernel_rfl)) (by unfold Func.isWrapper; first | (rw [if_pos (by decide +kernel)]; kernel_rfl) | (rw [if_neg (by decide +kernel)]; exact ⟨rfl, rfl⟩))
    (fun os started H enc _ F => by rw [OpenClaim.pre_eq_preRow]; exact liftedNetAll os started H enc F)

theorem plainNetAll (f : FuncId) (fn : Func) (hf : Tryd.pinned.checked.prog.funcNamed "fretwork/fretworklaw19.NetAll" = some f) (hfn : Tryd.pinned.checked.prog.funcs[f]? = some fn) :
    true = Tryd.pinned.checked.prog.looks [] ∧ ∀ (j : Nat) t, fn.params[j]? = some t → Tryd.pinned.checked.prog.wantsStandIn t = false := by
  obtain rfl : f = 4 := Option.some.inj ((show Tryd.prog.funcNamed "fretwork/fretworklaw19.NetAll" = some 4 by kernel_rfl).symm.trans hf) |>.symm
  obtain rfl : fn = Tryd.f4 := (Option.some.inj (Tryd.func4.symm.trans hfn)).symm
  refine ⟨by kernel_rfl, fun j t ht => ?_⟩
  rw [Tryd.params4] at ht
  have hm := Array.mem_of_getElem? ht
  simp at hm
  rcases hm with rfl | rfl | rfl | rfl
  · exact (show Tryd.prog.wantsStandIn 5 = false by kernel_rfl)
  · exact (show Tryd.prog.wantsStandIn 22 = false by kernel_rfl)
  · exact (show Tryd.prog.wantsStandIn 46 = false by kernel_rfl)
  · exact (show Tryd.prog.wantsStandIn 5 = false by kernel_rfl)

theorem cardNetAll : Rows.NetAllCardSaid :=
  Claim7.holds_tied_plain_at .later [] _ _ _ _ saidNetAll (fun _ h => by cases h) (by kernel_rfl) (fun _ h => by cases h) netAll_row_tie rfl ⟨rfl, rfl⟩ (by kernel_rfl) rfl plainNetAll (by kernel_rfl)
#print axioms cardNetAll
end Go.Proofs.YtlpjdngjmknniaaDoor
