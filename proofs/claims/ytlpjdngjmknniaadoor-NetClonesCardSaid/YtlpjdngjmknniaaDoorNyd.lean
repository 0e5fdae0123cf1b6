/- fretworklaw19.NetClones returns true and leaves its input as it was, whatever the input, provided that the variable errors.errorType holds what the text lays in it (the row lists it). The walk: clones_pure. -/
import Derived.Test.YtlpjdngjmknniaaDoorNyc
import Derived.Test.YtlpjdngjmknniaaDoorNxd
namespace Go.Proofs.YtlpjdngjmknniaaDoor
open Go.ChangeShapes Go.WideShapes Go.ChangeAt Go.RowKit Go.Reg

set_option maxRecDepth 100000 in
theorem contractNetClones (H : Type) (enc : TypeId × Value → H) (W : World) (base : Nat) (args : Array Value) (ds gs : List (DataW H)) (before : List MemPlace)
    (hval : ∀ (j : Nat) t v, Tryd.f7.params[j]? = some t → args[j]? = some v → Value.okWide Tryd.prog W .any base t v)
    (hW : DataW.Whole enc Tryd.prog Tryd.f7.params.toList Rows.netClonesSpec.vars false W args.toList ds gs before) (hL : laidMetH Tryd.prog Rows.netClonesRow.laid W) :
    Calls Tryd.prog 7 args W fun e W' => ∃ v, e = .returned v ∧ Rows.netClonesSpec.post enc Tryd.prog Tryd.f7 false true false false W args v W' := by
  have hW' := hW
  obtain ⟨p, q, hA0, hV, rfl, hfz, hnd⟩ := hW
  have hA : DataW.TrodAll enc Tryd.prog W 0 (fun _ => true) true Tryd.f7.params.toList args.toList ds p := hA0
  rw [Tryd.params7] at hA hval
  obtain ⟨v0, v1, d0, d1, p0, p1, rfl, rfl, rfl, h0, h1⟩ := trodAll_two hA
  obtain ⟨rfl, rfl⟩ := trodVars_none hV
  have c0 := Sx.cap_of Tryd.underlying22 (hval 0 _ _ rfl rfl) h0
  obtain ⟨x0, a0, _⟩ := argSl_of (enc := encA) (fun _ => True) Tryd.underlying22 (k := 4) (by kernel_rfl) (by decide) (fun _ => rfl) act_el (hval 0 _ _ rfl rfl) h0
  have c1 := Sx.cap_of Tryd.underlying22 (hval 1 _ _ rfl rfl) h1
  obtain ⟨x1, a1, _⟩ := argSl_of (enc := encA) (fun _ => True) Tryd.underlying22 (k := 4) (by kernel_rfl) (by decide) (fun _ => rfl) act_el (hval 1 _ _ rfl rfl) h1
  have hg := glob_errT (errT_of_laid hL)
  have l0 : ∀ x ∈ p0, x.block < W.heap.size := fun x hx => by have := hW'.lt x (by simp [hx]); simpa using this
  have l1 : ∀ x ∈ p1, x.block < W.heap.size := fun x hx => by have := hW'.lt x (by simp [hx]); simpa using this
  refine ((clones_pure x0 x1).calls hg (Sx.reps_cons (eA.rep_arg (by decide) a0 c0) (Sx.reps_cons (eA.rep_arg (by decide) a1 c1) Sx.reps_nil))).mono fun e W' ⟨u, y, he, hy, hr, ht⟩ => ?_
  subst hy
  obtain rfl := rep_bool hr
  subst he
  refine ⟨_, rfl, _, _, _, [], p0 ++ p1, [], hW', ?_, ?_, ?_, ?_, fun h => by cases h⟩
  · exact trodAll_mk1 (shut_bool Tryd.underlying4 true)
  · exact trodAll_mk2 (Below.trod laidOut (by kernel_rfl) (of_decide_eq_true (by kernel_rfl)) h0 ht.below l0) (Below.trod laidOut (by kernel_rfl) (of_decide_eq_true (by kernel_rfl)) h1 ht.below l1)
  · rfl
  · refine ⟨ht.os, ht.output, fun i hi => ?_⟩
    rw [ht.blk i hi (by simp)]
    have hsome : ∃ o, W.heap[i]? = some o := ⟨_, Array.getElem?_eq_getElem hi⟩
    obtain ⟨o, ho⟩ := hsome
    rw [ho]
    cases o <;> simp

theorem readsNetClones (os : Os) {H : Type} (enc : TypeId × Value → H) : ∃ places, DataW.whole enc Tryd.prog ((laidWorld os).forCall (fun _ _ => 0) ⟨#[], #[.slice none 0 0, .slice none 0 0], []⟩).memory Tryd.f7.params.toList Rows.netClonesSpec.vars false #[.slice none 0 0, .slice none 0 0].toList 8 = some ([.nil, .nil], [], places) :=
  ⟨[], by kernel_rfl⟩

set_option maxRecDepth 100000 in
theorem liftedNetClones (os : Os) (started : os.Started) (H : Type) (enc : TypeId × Value → H) (F : Stop.Interp) :
    ReturnsInHanded {} Tryd.checked os 7 .any ((OpenSpec.ofChange Rows.netClonesSpec).preRow enc Tryd.prog Tryd.f7 Rows.netClonesRow.domain false Rows.netClonesRow.laid) (((OpenSpec.ofChange Rows.netClonesSpec).at F).post enc Tryd.prog Tryd.f7 false true false false) := by
  obtain ⟨places, hx⟩ := readsNetClones os enc
  refine returnsInHanded_of_row (C := Tryd.checked) (s := OpenSpec.ofChange Rows.netClonesSpec) own started (by kernel_rfl) Tryd.func7
    (witness_row_at (enc := enc) (C := Tryd.checked) false (laidWorld os) #[.slice none 0 0, .slice none 0 0] rfl (by kernel_rfl) (by kernel_rfl) (by kernel_rfl)
      (OpenSpec.preRow_of_cond 8 hx (by kernel_rfl) (fun k hk => by cases hk) (by kernel_rfl) (laidWorld_met os _))) ?_
  intro W base args ds gs before hval hW _ _ _ hL _ _
  exact contractNetClones H enc W base args ds gs before hval hW hL

theorem saidNetClones : Rows.NetClonesSaid :=
  OpenClaim.holds_of_cond 7 Tryd.f7 rfl rfl rfl rfl rfl rfl rfl ⟨rfl, rfl, rfl, rfl, rfl⟩ rfl rfl rfl rfl rfl (by kernel_rfl) Tryd.func7 (by kernel_rfl)
    (of_decide_eq_true (by kernel_rfl)) (by unfold Func.isWrapper; first | (rw [if_pos (by decide +kernel)]; kernel_rfl) | (rw [if_neg (by decide +kernel)]; exact ⟨rfl, rfl⟩))
    (fun os started H enc _ F => by rw [OpenClaim.pre_eq_preRow]; exact liftedNetClones os started H enc F)

theorem plainNetClones (f : FuncId) (fn : Func) (hf : Tryd.pinned.checked.prog.funcNamed "fretwork/fretworklaw19.NetClones" = some f) (hfn : Tryd.pinned.checked.prog.funcs[f]? = some fn) :
    true = Tryd.pinned.checked.prog.looks [] ∧ ∀ (j : Nat) t, fn.params[j]? = some t → Tryd.pinned.checked.prog.wantsStandIn t = false := by
  obtain rfl : f = 7 := Option.some.inj ((show Tryd.prog.funcNamed "fretwork/fretworklaw19.NetClones" = some 7 by kernel_rfl).symm.trans hf) |>.symm
  obtain rfl : fn = Tryd.f7 := (Option.some.inj (Tryd.func7.symm.trans hfn)).symm
  refine ⟨by kernel_rfl, fun j t ht => ?_⟩
  rw [Tryd.params7] at ht
  have hm := Array.mem_of_getElem? ht
  simp at hm
  subst hm
  exact (show Tryd.prog.wantsStandIn 22 = false by kernel_rfl)

theorem cardNetClones : Rows.NetClonesCardSaid :=
  Claim7.holds_tied_plain_at .later [] _ _ _ _ saidNetClones (fun _ h => by cases h) (by kernel_rfl) (fun _ h => by cases h) netClones_row_tie rfl ⟨rfl, rfl⟩ (by kernel_rfl) rfl plainNetClones (by kernel_rfl)
#print axioms cardNetClones
end Go.Proofs.YtlpjdngjmknniaaDoor
