/- errors.As at a step around a fault; fault.Code, fault.At of such. -/
import Derived.Test.YtlchegpgicdldaaDoorFlt
namespace Go.Proofs.YtlchegpgicdldaaDoor
open Go.RowKit Go.Reg

theorem x_typeOf_s (b o : Nat) (w : World) : (callFunc 64 #[.iface 87 (.pointer (some ⟨b,o,none⟩))]).run Tryd.prog w = .ok (.value (.iface 127 (.agg #[.pointer (some ⟨1,87,none⟩)]))) w := by kernel_rfl
theorem x_assign_s (w : World) : (callFunc 109 #[.agg #[.pointer (some ⟨1,87,none⟩)], .iface 127 (.agg #[.pointer (some ⟨1,69,none⟩)])]).run Tryd.prog w = .ok (.value (.bool false)) w := by kernel_rfl
theorem x_mUnwrap (b o : Nat) (w : World) : (method 287 87 (.pointer (some ⟨b,o,none⟩)) "Unwrap").run Tryd.prog w = .ok (104, .pointer (some ⟨b,o,none⟩)) w := by kernel_rfl

noncomputable def wantAs : Array (String × TypeId) := match Tryd.prog.underlying 132 with | some (.interface w) => w | _ => #[]
theorem stepSome : (Tryd.prog.info? 87).isSome = true := by kernel_rfl
noncomputable def gotStep : Array Method := ((Tryd.prog.info? 87).get stepSome).methods
theorem missAs : (wantAs.toList.filter fun x => !gotStep.any fun m => m.name == x.1 && m.sig == x.2).map (·.1) = ["As"] := by kernel_rfl
theorem missAs2 : ∃ s, Instr.missingMethod wantAs gotStep = some s := by
  unfold Instr.missingMethod
  have h := missAs
  generalize hl : (wantAs.toList.filter fun x => !gotStep.any fun m => m.name == x.1 && m.sig == x.2).map (·.1) = l at h
  subst h
  simp only [List.partition, List.partition.loop]
  cases ("As".contains '.') <;> simp [Instr.least]
theorem huAs (w : World) : (underlying 132).run Tryd.prog w = .ok (.interface wantAs) w := by kernel_rfl
theorem hiStep (w : World) : (typeInfo 87).run Tryd.prog w = .ok ((Tryd.prog.info? 87).get stepSome) w := by kernel_rfl
theorem hzAs (w : World) : (zeroValue 132).run Tryd.prog w = .ok .nilIface w := by kernel_rfl
set_option maxRecDepth 100000 in
theorem x_noAs (b o : Nat) (w : World) : (Instr.typeAssert (.iface 87 (.pointer (some ⟨b,o,none⟩))) 26 132 true).run Tryd.prog w = .ok (.tuple #[.nilIface, .bool false]) w := by
  obtain ⟨s, hs⟩ := missAs2
  unfold gotStep at hs
  simp [Instr.typeAssert]
  split
  · rename_i hn
    have hn' : some s = none := hs.symm.trans hn
    cases hn'
  · simp
theorem x_isUnwrap (b o : Nat) (w : World) : (Instr.typeAssert (.iface 87 (.pointer (some ⟨b,o,none⟩))) 26 109 true).run Tryd.prog w = .ok (.tuple #[.iface 87 (.pointer (some ⟨b,o,none⟩)), .bool true]) w := by kernel_rfl

set_option maxRecDepth 100000 in
theorem unwrap_any (s o : Nat) (x : Value) (w : World) (hc : w.cell? ⟨s, o + 1, none⟩ = some x) :
    Calls Tryd.prog 104 #[.pointer (some ⟨s, o, none⟩)] w fun e w' => e = .returned x ∧ w = w' := by
  have HC := hid hc
  clear hc
  go_enter Tryd.func104, Tryd.ntmps104
  have hc := HC.out
  go_wp2_with fail
  go_ret
  exact ⟨rfl, rfl⟩

set_option maxRecDepth 100000 in
set_option maxHeartbeats 1000000 in
theorem as2_step (s so f o t b : Nat) (v : Value) (w : World) (hs : w.cell? ⟨s, so + 1, none⟩ = some (.iface 69 (.pointer (some ⟨f, o, none⟩)))) (hb : w.cell? ⟨b, 0, none⟩ = some (.pointer (some ⟨t, 0, none⟩))) (hf : w.cell? ⟨t, 0, none⟩ = some v) (hz : w.frozen? ⟨t, 0, none⟩ = false) (ht : t < w.heap.size) (hbs : b < w.heap.size) (_hss : s < w.heap.size) :
    Calls Tryd.prog 60 #[.iface 87 (.pointer (some ⟨s, so, none⟩)), .iface 93 (.pointer (some ⟨t, 0, none⟩)), .agg #[.pointer (some ⟨1,93,none⟩), .pointer (some ⟨b,0,none⟩), .int .u64 150], .iface 127 (.agg #[.pointer (some ⟨1,69,none⟩)])] w
      fun e w' => e = .returned (.bool true) ∧ w'.cell? ⟨t, 0, none⟩ = some (.pointer (some ⟨f, o, none⟩)) ∧ Tch [t] w w' := by
  have e1 := x_typeOf_p
  have e2 := x_mAssign
  have e3 := x_assign_p
  have e4 := fun w' (h : w'.cell? ⟨b,0,none⟩ = some (.pointer (some ⟨t,0,none⟩))) => x_elemOf b t w' h
  have e5 := x_valueOf_p f o
  have hT : Tch [] w ((w.alloc (.cells #[.pointer (some ⟨1,93,none⟩), .pointer (some ⟨b,0,none⟩), .int .u64 150] 114)).alloc (.cells #[.pointer (some ⟨f,o,none⟩)] 69)) := ((Tch.refl [] w).andAlloc _).andAlloc _
  have hN : ((w.alloc (.cells #[.pointer (some ⟨1,93,none⟩), .pointer (some ⟨b,0,none⟩), .int .u64 150] 114)).alloc (.cells #[.pointer (some ⟨f,o,none⟩)] 69)).cell? ⟨w.heap.size + 1, 0, none⟩ = some (.pointer (some ⟨f,o,none⟩)) := by
    simp
  have hFz : ((w.alloc (.cells #[.pointer (some ⟨1,93,none⟩), .pointer (some ⟨b,0,none⟩), .int .u64 150] 114)).alloc (.cells #[.pointer (some ⟨f,o,none⟩)] 69)).frozen? ⟨t, 0, none⟩ = false := by rw [World.frozen?_of_block (w := w) (hT.blk t ht (by simp))]; exact hz
  have e6 := x_set t (w.heap.size + 1) v f o _ hN (hT.cell hf (by simp)) hFz
  have HC := hid hf
  have s1 := x_typeOf_s
  have s2 := x_assign_s
  have s3 := x_mUnwrap
  have s4 := x_noAs
  have s5 := x_isUnwrap
  go_enter Tryd.func60, Tryd.ntmps60
  go_wp2_with fail
  refine wp_loop_rounds 2 ?_
  rw [rounds_succ]
  have hs1 := fun {w' : World} (T : Tch [] w w') => T.cell hs (by simp)
  clear hT hN hFz
  go_wp2_with (go_at_call 104; refine (unwrap_any s so _ _ (hs1 ((Tch.refl [] w).andAlloc _))).mono ?_; rintro e w' ⟨rfl, rfl⟩)
  rw [rounds_succ]
  go_wp2_with fail
  go_ret
  refine ⟨rfl, ?_, ((Tch.setCell w (.inl (by simp)) _).andAlloc _).andAlloc _⟩
  exact (((Tch.refl [] _).andAlloc _).andAlloc _).cell (World.cell?_setCell_same _ _ _ HC.out) (by simp)
set_option maxRecDepth 100000 in
set_option maxHeartbeats 1000000 in
theorem as_step (s so f o t : Nat) (v : Value) (w : World) (hs : w.cell? ⟨s, so + 1, none⟩ = some (.iface 69 (.pointer (some ⟨f, o, none⟩)))) (hss : s < w.heap.size) (hf : w.cell? ⟨t, 0, none⟩ = some v) (hz : w.frozen? ⟨t, 0, none⟩ = false) (ht : t < w.heap.size) (h0 : ErrT w) :
    Calls Tryd.prog 46 #[.iface 87 (.pointer (some ⟨s, so, none⟩)), .iface 93 (.pointer (some ⟨t, 0, none⟩))] w
      fun e w' => e = .returned (.bool true) ∧ w'.cell? ⟨t, 0, none⟩ = some (.pointer (some ⟨f, o, none⟩)) ∧ Tch [t] w w' := by
  unfold ErrT at h0
  have hs0 : 0 < w.heap.size := by omega
  have e1 := x_valueOf_pp t
  have e2 := x_type_pp
  have e3 := x_mKind
  have e4 := x_kind_pp
  have e5 := x_mElem
  have e6 := x_elem_pp
  have e7 := fun w' (h : w'.cell? ⟨w.heap.size,0,none⟩ = some (.pointer (some ⟨t,0,none⟩))) => x_isNil w.heap.size t w' h
  have e8 := x_kind_p
  have e9 := x_mImpl
  have e10 := x_impl_p
  have hT : Tch [] w ((w.alloc (.cells #[.pointer (some ⟨t,0,none⟩)] 93)).alloc (.cells #[.pointer (some ⟨1,93,none⟩), .pointer (some ⟨w.heap.size,0,none⟩), .int .u64 150] 114)) := ((Tch.refl [] w).andAlloc _).andAlloc _
  have HT := hid hT
  have HF := hid (hT.cell hf (by simp))
  have HS := hid (hT.cell hs (by simp))
  have HB := hid (((Tch.refl [] (w.alloc (.cells #[.pointer (some ⟨t,0,none⟩)] 93))).andAlloc (.cells #[.pointer (some ⟨1,93,none⟩), .pointer (some ⟨w.heap.size,0,none⟩), .int .u64 150] 114)).cell ((Blk.new w 93 [.pointer (some ⟨t,0,none⟩)]).cell (i := 0) rfl) (by simp))
  have HZ := hid (show ((w.alloc (.cells #[.pointer (some ⟨t,0,none⟩)] 93)).alloc (.cells #[.pointer (some ⟨1,93,none⟩), .pointer (some ⟨w.heap.size,0,none⟩), .int .u64 150] 114)).frozen? ⟨t, 0, none⟩ = false by rw [World.frozen?_of_block (w := w) (hT.blk t ht (by simp))]; exact hz)
  clear hT hf hz hs
  go_enter Tryd.func46, Tryd.ntmps46
  go_wp2_with fail
  refine (as2_step s so f o t w.heap.size v _ HS.out HB.out HF.out HZ.out (by simp; omega) (by simp; omega) (by simp; omega)).mono ?_
  rintro e w' ⟨rfl, hc, hT⟩
  go_wp2_with fail
  go_ret
  exact ⟨rfl, hc, (HT.out).ahead0 hT⟩

set_option maxRecDepth 100000 in
theorem ffault_step (s so f o : Nat) (w : World) (h0 : ErrT w) (hs : w.cell? ⟨s, so + 1, none⟩ = some (.iface 69 (.pointer (some ⟨f, o, none⟩)))) (hss : s < w.heap.size) :
    Calls Tryd.prog 31 #[.iface 87 (.pointer (some ⟨s, so, none⟩))] w fun e w' => e = .returned (.pointer (some ⟨f, o, none⟩)) ∧ Tch [] w w' := by
  have HN := hid (Blk.new w 69 [.pointer none])
  have H0 := hid (show ErrT (w.alloc (.cells #[.pointer none] 69)) from (Tch.alloc w _ []).cell h0 (by simp))
  have HS := hid ((Tch.alloc w (.cells #[.pointer none] 69) []).cell hs (by simp))
  clear h0 hs
  go_enter Tryd.func31, Tryd.ntmps31
  go_wp2_with fail
  refine (as_step s so f o w.heap.size (.pointer none) _ HS.out (by simp; omega) (HN.out.cell (i := 0) rfl) (HN.out.frozen 0) (by simp) H0.out).mono ?_
  rintro e w' ⟨rfl, hc, hT⟩
  have HT := hid ((Tch.alloc w (.cells #[.pointer none] 69) []).trans hT (T := []) (fun _ h => h) (fun x hx => .inr (by simp at hx; omega)))
  clear hT
  go_wp2_with fail
  go_ret
  exact ⟨rfl, HT.out⟩

end Go.Proofs.YtlchegpgicdldaaDoor
