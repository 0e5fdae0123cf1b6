/- fretworklaw04.GraphLarge returns true and leaves its input as it was, whatever the input. Provided that the variable errors.errorType holds what the text lays in it (the row lists it). The walk: glarge_pure. -/
import Derived.Test.YtfkkfaociofkjaaDoorGla
import Derived.Test.YtfkkfaociofkjaaDoorGxd
namespace Go.Proofs.YtfkkfaociofkjaaDoor
open Go.ChangeShapes Go.WideShapes Go.ChangeAt Go.RowKit Go.Reg

set_option maxRecDepth 100000 in
theorem contractGraphLarge (H : Type) (enc : TypeId × Value → H) (W : World) (base : Nat) (args : Array Value) (ds gs : List (DataW H)) (before : List MemPlace)
    (hval : ∀ (j : Nat) t v, Tryd.f3.params[j]? = some t → args[j]? = some v → Value.okWide Tryd.prog W .any base t v)
    (hW : DataW.Whole enc Tryd.prog Tryd.f3.params.toList Rows.graphLargeSpec.vars false W args.toList ds gs before) (hL : laidMetH Tryd.prog Rows.graphLargeRow.laid W) :
    Calls Tryd.prog 3 args W fun e W' => ∃ v, e = .returned v ∧ Rows.graphLargeSpec.post enc Tryd.prog Tryd.f3 false true false false W args v W' := by
  have hW' := hW
  obtain ⟨p, q, hA0, hV, rfl, hfz, hnd⟩ := hW
  have hA : DataW.TrodAll enc Tryd.prog W 0 (fun _ => true) true Tryd.f3.params.toList args.toList ds p := hA0
  rw [Tryd.params3] at hA hval
  obtain ⟨v0, v1, d0, d1, p0, p1, rfl, rfl, rfl, h0, h1⟩ := trodAll_two hA
  obtain ⟨rfl, rfl⟩ := trodVars_none hV
  obtain ⟨x0, rfl, rfl, rfl, w0⟩ := open_int Tryd.underlying22 (hval 0 _ _ rfl rfl) h0
  have b0 : 0 ≤ x0 ∧ x0 ≤ 65535 := by
    have e1 : IntKind.u16.min = 0 := by decide
    have e2 : IntKind.u16.max = 65535 := by decide
    have := w0
    simp [Lit.wf, e1, e2] at this; omega
  obtain ⟨x1, rfl, rfl, rfl, w1⟩ := open_int Tryd.underlying22 (hval 1 _ _ rfl rfl) h1
  have b1 : 0 ≤ x1 ∧ x1 ≤ 65535 := by
    have e1 : IntKind.u16.min = 0 := by decide
    have e2 : IntKind.u16.max = 65535 := by decide
    have := w1
    simp [Lit.wf, e1, e2] at this; omega
  have hg := glob_errT (errT_of_laid hL)
  refine ((glarge_pure x0 x1 b0 b1).calls hg (Sx.reps_cons (Sx.rep_of_int .u16 x0) (Sx.reps_cons (Sx.rep_of_int .u16 x1) Sx.reps_nil))).mono fun e W' ⟨u, y, he, hy, hr, ht⟩ => ?_
  subst hy
  obtain rfl := rep_bool hr
  subst he
  refine ⟨_, rfl, _, _, _, [], [] ++ [], [], hW', ?_, ?_, ?_, ?_, fun h => by cases h⟩
  · exact trodAll_mk1 (shut_bool Tryd.underlying4 true)
  · exact trodAll_mk2 (shut_int Tryd.underlying22 w0) (shut_int Tryd.underlying22 w1)
  · rfl
  · refine ⟨ht.os, ht.output, fun i hi => ?_⟩
    rw [ht.blk i hi (by simp)]
    have hsome : ∃ o, W.heap[i]? = some o := ⟨_, Array.getElem?_eq_getElem hi⟩
    obtain ⟨o, ho⟩ := hsome
    rw [ho]
    cases o <;> simp

theorem readsGraphLarge (os : Os) {H : Type} (enc : TypeId × Value → H) : ∃ places, DataW.whole enc Tryd.prog ((laidWorld os).forCall (fun _ _ => 0) ⟨#[], #[.int .u16 0, .int .u16 0], []⟩).memory Tryd.f3.params.toList Rows.graphLargeSpec.vars false #[.int .u16 0, .int .u16 0].toList 8 = some ([.lit (.int .u16 0), .lit (.int .u16 0)], [], places) :=
  ⟨[], by kernel_rfl⟩

set_option maxRecDepth 100000 in
theorem liftedGraphLarge (os : Os) (started : os.Started) (H : Type) (enc : TypeId × Value → H) (F : Stop.Interp) :
    ReturnsInHanded {} Tryd.checked os 3 .any ((OpenSpec.ofChange Rows.graphLargeSpec).preRow enc Tryd.prog Tryd.f3 Rows.graphLargeRow.domain false Rows.graphLargeRow.laid) (((OpenSpec.ofChange Rows.graphLargeSpec).at F).post enc Tryd.prog Tryd.f3 false true false false) := by
  obtain ⟨places, hx⟩ := readsGraphLarge os enc
  refine returnsInHanded_of_row (C := Tryd.checked) (s := OpenSpec.ofChange Rows.graphLargeSpec) own started (by kernel_rfl) Tryd.func3
    (witness_row_at (enc := enc) (C := Tryd.checked) false (laidWorld os) #[.int .u16 0, .int .u16 0] rfl (by kernel_rfl) (by kernel_rfl) (by kernel_rfl)
      (OpenSpec.preRow_of_cond 8 hx (by kernel_rfl) (fun k hk => by cases hk) (by kernel_rfl) (laidWorld_met os _))) ?_
  intro W base args ds gs before hval hW _ _ _ hL _ _
  exact contractGraphLarge H enc W base args ds gs before hval hW hL

theorem saidGraphLarge : Rows.GraphLargeSaid :=
  OpenClaim.holds_of_cond 3 Tryd.f3 rfl rfl rfl rfl rfl rfl rfl ⟨rfl, rfl, rfl, rfl, rfl⟩ rfl rfl rfl rfl rfl (by kernel_rfl) Tryd.func3 (by kernel_rfl)
    (of_decide_eq_true (by kernel_rfl)) (by unfold Func.isWrapper; first | (rw [if_pos (by decide +kernel)]; kernel_rfl) | (rw [if_neg (by decide +kernel)]; exact ⟨rfl, rfl⟩))
    (fun os started H enc _ F => by rw [OpenClaim.pre_eq_preRow]; exact liftedGraphLarge os started H enc F)

theorem plainGraphLarge (f : FuncId) (fn : Func) (hf : Tryd.pinned.checked.prog.funcNamed "fretwork/fretworklaw04.GraphLarge" = some f) (hfn : Tryd.pinned.checked.prog.funcs[f]? = some fn) :
    true = Tryd.pinned.checked.prog.looks [] ∧ ∀ (j : Nat) t, fn.params[j]? = some t → Tryd.pinned.checked.prog.wantsStandIn t = false := by
  obtain rfl : f = 3 := Option.some.inj ((show Tryd.prog.funcNamed "fretwork/fretworklaw04.GraphLarge" = some 3 by kernel_rfl).symm.trans hf) |>.symm
  obtain rfl : fn = Tryd.f3 := (Option.some.inj (Tryd.func3.symm.trans hfn)).symm
  refine ⟨by kernel_rfl, fun j t ht => ?_⟩
  rw [Tryd.params3] at ht
  have hm := Array.mem_of_getElem? ht
  simp at hm
  subst hm
  exact (show Tryd.prog.wantsStandIn 22 = false by kernel_rfl)

theorem cardGraphLarge : Rows.GraphLargeCardSaid :=
  Claim7.holds_tied_plain_at .later [] _ _ _ _ saidGraphLarge (fun _ h => by cases h) (by kernel_rfl) (fun _ h => by cases h) graphLarge_row_tie rfl ⟨rfl, rfl⟩ (by kernel_rfl) rfl plainGraphLarge (by kernel_rfl)
#print axioms cardGraphLarge
end Go.Proofs.YtfkkfaociofkjaaDoor
