/- fretworklaw25.ScriptOrder returns true and leaves its input as it was, whatever the input. Provided that the listed variables hold what the text lays in them (the row lists them). The walk: sorder_pure. -/
import Derived.Test.YtdbafjjmdgdjgaaDoorSdx
import Derived.Test.YtdbafjjmdgdjgaaDoorSch
namespace Go.Proofs.YtdbafjjmdgdjgaaDoor
open Go.ChangeShapes Go.WideShapes Go.ChangeAt Go.RowKit Go.Reg Go.Gr Go.ChangeMaps

set_option maxRecDepth 100000 in
theorem contractScriptOrder (H : Type) (enc : TypeId × Value → H) (W : World) (base : Nat) (args : Array Value) (ds gs : List (DataW H)) (before : List MemPlace)
    (hval : ∀ (j : Nat) t v, Tryd.f4.params[j]? = some t → args[j]? = some v → Value.okWide Tryd.prog W .any base t v)
    (hW : DataW.Whole enc Tryd.prog Tryd.f4.params.toList Rows.scriptOrderSpec.vars false W args.toList ds gs before) (hsz0 : (DataW.weightsEach Tryd.prog (Tryd.f4.params.toList ++ (OpenSpec.ofChange Rows.scriptOrderSpec).bare.plain.varTypes Tryd.prog) (ds ++ gs)).all (· ≤ reachBytes) = true) (hL : laidMetH Tryd.prog Rows.scriptOrderRow.laid W) (hsh : W.ShapedOpen Tryd.prog) :
    Calls Tryd.prog 4 args W fun e W' => ∃ v, e = .returned v ∧ Rows.scriptOrderSpec.post enc Tryd.prog Tryd.f4 false true false false W args v W' := by
  have hsz := hsz0
  clear hsz0
  have hW' := hW
  obtain ⟨p, q, hA0, hV, rfl, hfz, hnd⟩ := hW
  have hA : DataW.TrodAll enc Tryd.prog W 0 (fun _ => true) true Tryd.f4.params.toList args.toList ds p := hA0
  rw [Tryd.params4] at hA hval hsz
  obtain ⟨v0, v1, v2, v3, d0, d1, d2, d3, p0, p1, p2, p3, rfl, rfl, rfl, h0, h1, h2, h3⟩ := trodAll_four hA
  obtain ⟨rfl, rfl⟩ := trodVars_none hV
  have c0 := Sx.cap_of Tryd.underlying28 (hval 0 _ _ rfl rfl) h0
  obtain ⟨x0, a0, _⟩ := argSl_of (enc := eA.enc) (fun _ => True) Tryd.underlying28 (k := 2) (by kernel_rfl) (by decide) (fun _ => rfl) act_el (hval 0 _ _ rfl rfl) h0
  have b0 : x0.length ≤ 8796093022207 := by
    obtain ⟨aa, cc, e1, _, _⟩ := a0
    have hh := h0
    have e4 : v0 = _ := e1
    rw [e4] at hh
    have e2 := sized_len Tryd.underlying28 hh hsz (j := 0) rfl rfl
    rw [show Tryd.prog.bytesOf 35 = 16 by kernel_rfl] at e2
    omega
  obtain ⟨x1, rfl, rfl, rfl, w1⟩ := open_int Tryd.underlying5 (hval 1 _ _ rfl rfl) h1
  have b1 : 0 ≤ x1 ∧ x1 ≤ 255 := by
    have e1 : IntKind.u8.min = 0 := by decide
    have e2 : IntKind.u8.max = 255 := by decide
    have := w1
    simp [Lit.wf, e1, e2] at this; omega
  obtain ⟨x2, rfl, rfl, rfl, w2⟩ := open_int Tryd.underlying5 (hval 2 _ _ rfl rfl) h2
  have b2 : 0 ≤ x2 ∧ x2 ≤ 255 := by
    have e1 : IntKind.u8.min = 0 := by decide
    have e2 : IntKind.u8.max = 255 := by decide
    have := w2
    simp [Lit.wf, e1, e2] at this; omega
  obtain ⟨x3, rfl, rfl, rfl, w3⟩ := open_string Tryd.underlying9 (hval 3 _ _ rfl rfl) h3
  obtain ⟨X, hg⟩ := globs_of (show laidMetH Tryd.prog laidAll W from hL) hsh
  have l0 : ∀ x ∈ p0, x.block < W.heap.size := fun x hx => by have := hW'.lt x (by simp [hx]); simpa using this
  refine ((sorder_pure (X := X) x0 x1 x2 x3.data.toList b0 b1 b2).calls hg (Sx.reps_cons (eA.rep_arg (by decide) a0 c0) (Sx.reps_cons (Sx.rep_of_int .u8 x1) (Sx.reps_cons (Sx.rep_of_int .u8 x2) (Sx.reps_cons (rep_of_str [] W x3) Sx.reps_nil))))).mono fun e W' ⟨u, y, he, hy, hr, ht⟩ => ?_
  subst hy
  obtain rfl := rep_bool hr
  subst he
  refine ⟨_, rfl, _, _, _, [], p0 ++ ([] ++ ([] ++ [])), [], hW', ?_, ?_, ?_, ?_, fun h => by cases h⟩
  · exact trodAll_mk1 (shut_bool Tryd.underlying4 true)
  · exact trodAll_mk4 (Below.trod laidOut (by kernel_rfl) (of_decide_eq_true (by kernel_rfl)) h0 ht.below l0) (shut_int Tryd.underlying5 w1) (shut_int Tryd.underlying5 w2) (shut_string Tryd.underlying9 w3)
  · rfl
  · refine ⟨ht.os, ht.output, fun i hi => ?_⟩
    rw [ht.blk i hi (by simp)]
    have hsome : ∃ o, W.heap[i]? = some o := ⟨_, Array.getElem?_eq_getElem hi⟩
    obtain ⟨o, ho⟩ := hsome
    rw [ho]
    cases o <;> simp

theorem readsScriptOrder (os : Os) {H : Type} (enc : TypeId × Value → H) : ∃ places, DataW.whole enc Tryd.prog ((laidWorld os).forCall (fun _ _ => 0) ⟨#[], #[.slice none 0 0, .int .u8 0, .int .u8 0, .string ⟨#[]⟩], []⟩).memory Tryd.f4.params.toList Rows.scriptOrderSpec.vars false #[.slice none 0 0, .int .u8 0, .int .u8 0, .string ⟨#[]⟩].toList 8 = some ([.nil, .lit (.int .u8 0), .lit (.int .u8 0), .lit (.string [])], [], places) :=
  ⟨[], by kernel_rfl⟩

set_option maxRecDepth 100000 in
theorem liftedScriptOrder (os : Os) (started : os.Started) (H : Type) (enc : TypeId × Value → H) (F : Stop.Interp) :
    ReturnsInHanded {} Tryd.checked os 4 .any ((OpenSpec.ofChange Rows.scriptOrderSpec).preRow enc Tryd.prog Tryd.f4 Rows.scriptOrderRow.domain false Rows.scriptOrderRow.laid) (((OpenSpec.ofChange Rows.scriptOrderSpec).at F).post enc Tryd.prog Tryd.f4 false true false false) := by
  obtain ⟨places, hx⟩ := readsScriptOrder os enc
  refine returnsInHanded_of_row (C := Tryd.checked) (s := OpenSpec.ofChange Rows.scriptOrderSpec) own started (by kernel_rfl) Tryd.func4
    (witness_row_at (enc := enc) (C := Tryd.checked) false (laidWorld os) #[.slice none 0 0, .int .u8 0, .int .u8 0, .string ⟨#[]⟩] rfl (by kernel_rfl) (by kernel_rfl) (by kernel_rfl)
      (OpenSpec.preRow_of_cond 8 hx (by kernel_rfl) (fun k hk => by cases hk) (by kernel_rfl) (laidWorld_met os _))) ?_
  intro W base args ds gs before hval hW _ _ hsz hL hsh _
  exact contractScriptOrder H enc W base args ds gs before hval hW hsz hL hsh

theorem saidScriptOrder : Rows.ScriptOrderSaid :=
  OpenClaim.holds_of_cond 4 Tryd.f4 rfl rfl rfl rfl rfl rfl rfl ⟨rfl, rfl, rfl, rfl, rfl⟩ rfl rfl rfl rfl rfl (by kernel_rfl) Tryd.func4 (by kernel_rfl)
    (of_decide_eq_true (by kernel_rfl)) (by unfold Func.isWrapper; first | (rw [if_pos (by decide +kernel)]; kernel_rfl) | (rw [if_neg (by decide +kernel)]; exact ⟨rfl, rfl⟩))
    (fun os started H enc _ F => by rw [OpenClaim.pre_eq_preRow]; exact liftedScriptOrder os started H enc F)

theorem plainScriptOrder (f : FuncId) (fn : Func) (hf : Tryd.pinned.checked.prog.funcNamed "fretwork/fretworklaw25.ScriptOrder" = some f) (hfn : Tryd.pinned.checked.prog.funcs[f]? = some fn) :
    true = Tryd.pinned.checked.prog.looks [] ∧ ∀ (j : Nat) t, fn.params[j]? = some t → Tryd.pinned.checked.prog.wantsStandIn t = false := by
  obtain rfl : f = 4 := Option.some.inj ((show Tryd.prog.funcNamed "fretwork/fretworklaw25.ScriptOrder" = some 4 by kernel_rfl).symm.trans hf) |>.symm
  obtain rfl : fn = Tryd.f4 := (Option.some.inj (Tryd.func4.symm.trans hfn)).symm
  refine ⟨by kernel_rfl, fun j t ht => ?_⟩
  rw [Tryd.params4] at ht
  have hm := Array.mem_of_getElem? ht
  simp at hm
  rcases hm with rfl | rfl | rfl
  · exact (show Tryd.prog.wantsStandIn 28 = false by kernel_rfl)
  · exact (show Tryd.prog.wantsStandIn 5 = false by kernel_rfl)
  · exact (show Tryd.prog.wantsStandIn 9 = false by kernel_rfl)

theorem cardScriptOrder : Rows.ScriptOrderCardSaid :=
  Claim7.holds_tied_plain_at .later [] _ _ _ _ saidScriptOrder (fun _ h => by cases h) (by kernel_rfl) (fun _ h => by cases h) scriptOrder_row_tie rfl ⟨rfl, rfl⟩ (by kernel_rfl) rfl plainScriptOrder (by kernel_rfl)
#print axioms cardScriptOrder
end Go.Proofs.YtdbafjjmdgdjgaaDoor
