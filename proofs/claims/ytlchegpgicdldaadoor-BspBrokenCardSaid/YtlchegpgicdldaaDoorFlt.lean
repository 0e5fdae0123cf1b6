/- errors.As on the program's faults; fault.New, fault.Code. -/
import Derived.Test.YtlchegpgicdldaaDoorFlx
import Derived.Test.YtlchegpgicdldaaDoorMem
import Derived.WalkSpells
import Derived.WalkLawsBesides
namespace Go.Proofs.YtlchegpgicdldaaDoor
open Go.RowKit Go.Reg

/-- what errors.errorType holds -/
def ErrT (w : World) : Prop := w.cell? ⟨0, 0, none⟩ = some (.iface 127 (.agg #[.pointer (some ⟨1,26,none⟩)]))

set_option maxRecDepth 100000 in
set_option maxHeartbeats 1000000 in
theorem as2_any (f o t b : Nat) (v : Value) (w : World) (hb : w.cell? ⟨b, 0, none⟩ = some (.pointer (some ⟨t, 0, none⟩))) (hf : w.cell? ⟨t, 0, none⟩ = some v) (hz : w.frozen? ⟨t, 0, none⟩ = false) (ht : t < w.heap.size) (hbs : b < w.heap.size) :
    Calls Tryd.prog 60 #[.iface 69 (.pointer (some ⟨f, o, none⟩)), .iface 93 (.pointer (some ⟨t, 0, none⟩)), .agg #[.pointer (some ⟨1,93,none⟩), .pointer (some ⟨b,0,none⟩), .int .u64 150], .iface 127 (.agg #[.pointer (some ⟨1,69,none⟩)])] w
      fun e w' => e = .returned (.bool true) ∧ w'.cell? ⟨t, 0, none⟩ = some (.pointer (some ⟨f, o, none⟩)) ∧ Tch [t] w w' := by
  have e1 := x_typeOf_p
  have e2 := x_mAssign
  have e3 := x_assign_p
  have e4 := fun w' (h : w'.cell? ⟨b,0,none⟩ = some (.pointer (some ⟨t,0,none⟩))) => x_elemOf b t w' h
  have e5 := x_valueOf_p f o
  have hT : Tch [] w ((w.alloc (.cells #[.pointer (some ⟨1,93,none⟩), .pointer (some ⟨b,0,none⟩), .int .u64 150] 114)).alloc (.cells #[.pointer (some ⟨f,o,none⟩)] 69)) := ((Tch.refl [] w).andAlloc _).andAlloc _
  have hN : ((w.alloc (.cells #[.pointer (some ⟨1,93,none⟩), .pointer (some ⟨b,0,none⟩), .int .u64 150] 114)).alloc (.cells #[.pointer (some ⟨f,o,none⟩)] 69)).cell? ⟨w.heap.size + 1, 0, none⟩ = some (.pointer (some ⟨f,o,none⟩)) := by
    simp
  have hFz : ((w.alloc (.cells #[.pointer (some ⟨1,93,none⟩), .pointer (some ⟨b,0,none⟩), .int .u64 150] 114)).alloc (.cells #[.pointer (some ⟨f,o,none⟩)] 69)).frozen? ⟨t, 0, none⟩ = false := by rw [World.frozen?_of_block (w := w) (hT.blk t ht (by simp))]; exact hz
  have e6 := x_set t (w.heap.size + 1) v f o _ hN (hT.cell hf (by simp)) hFz
  have HC := hid hf
  clear hT hN hFz
  go_enter Tryd.func60, Tryd.ntmps60
  go_wp2_with fail
  refine wp_loop_once ?_
  go_wp2_with fail
  go_ret
  refine ⟨rfl, ?_, ((Tch.setCell w (.inl (by simp)) _).andAlloc _).andAlloc _⟩
  exact (((Tch.refl [] _).andAlloc _).andAlloc _).cell (World.cell?_setCell_same _ _ _ HC.out) (by simp)

set_option maxRecDepth 100000 in
set_option maxHeartbeats 1000000 in
theorem as_any (f o t : Nat) (v : Value) (w : World) (hf : w.cell? ⟨t, 0, none⟩ = some v) (hz : w.frozen? ⟨t, 0, none⟩ = false) (ht : t < w.heap.size) (h0 : ErrT w) :
    Calls Tryd.prog 46 #[.iface 69 (.pointer (some ⟨f, o, none⟩)), .iface 93 (.pointer (some ⟨t, 0, none⟩))] w
      fun e w' => e = .returned (.bool true) ∧ w'.cell? ⟨t, 0, none⟩ = some (.pointer (some ⟨f, o, none⟩)) ∧ Tch [t] w w' := by
  unfold ErrT at h0
  have hs0 : 0 < w.heap.size := by omega
  have e1 := x_valueOf_pp t
  have e2 := x_type_pp
  have e3 := x_mKind
  have e4 := x_kind_pp
  have e5 := x_mElem
  have e6 := x_elem_pp
  have e7 := fun w' (h : w'.cell? ⟨w.heap.size,0,none⟩ = some (.pointer (some ⟨t,0,none⟩))) => x_isNil w.heap.size t w' h
  have e8 := x_kind_p
  have e9 := x_mImpl
  have e10 := x_impl_p
  have hT : Tch [] w ((w.alloc (.cells #[.pointer (some ⟨t,0,none⟩)] 93)).alloc (.cells #[.pointer (some ⟨1,93,none⟩), .pointer (some ⟨w.heap.size,0,none⟩), .int .u64 150] 114)) := ((Tch.refl [] w).andAlloc _).andAlloc _
  have HT := hid hT
  have HF := hid (hT.cell hf (by simp))
  have HB := hid (((Tch.refl [] (w.alloc (.cells #[.pointer (some ⟨t,0,none⟩)] 93))).andAlloc (.cells #[.pointer (some ⟨1,93,none⟩), .pointer (some ⟨w.heap.size,0,none⟩), .int .u64 150] 114)).cell ((Blk.new w 93 [.pointer (some ⟨t,0,none⟩)]).cell (i := 0) rfl) (by simp))
  have HZ := hid (show ((w.alloc (.cells #[.pointer (some ⟨t,0,none⟩)] 93)).alloc (.cells #[.pointer (some ⟨1,93,none⟩), .pointer (some ⟨w.heap.size,0,none⟩), .int .u64 150] 114)).frozen? ⟨t, 0, none⟩ = false by rw [World.frozen?_of_block (w := w) (hT.blk t ht (by simp))]; exact hz)
  clear hT hf hz
  go_enter Tryd.func46, Tryd.ntmps46
  go_wp2_with fail
  refine (as2_any f o t w.heap.size v _ HB.out HF.out HZ.out (by simp; omega) (by simp; omega)).mono ?_
  rintro e w' ⟨rfl, hc, hT⟩
  go_wp2_with fail
  go_ret
  exact ⟨rfl, hc, (HT.out).ahead0 hT⟩

set_option maxRecDepth 100000 in
theorem fnew_any (c a : Int) (s : ByteArray) (w : World) :
    Calls Tryd.prog 26 #[.int .i64 c, .int .i64 a, .string s] w fun e w' => e = .returned (.iface 69 (.pointer (some ⟨w.heap.size, 0, none⟩))) ∧
      Blk w' w.heap.size 72 [.int .i64 c, .int .i64 a, .string s] ∧ Tch [] w w' := by
  go_enter Tryd.func26, Tryd.ntmps26
  go_wp2
  go_ret
  exact ⟨rfl, Blk.new w _ _, Tch.alloc _ _ _⟩

set_option maxRecDepth 100000 in
theorem ffault_any (f o : Nat) (w : World) (h0 : ErrT w) (_hs : 0 < w.heap.size) :
    Calls Tryd.prog 31 #[.iface 69 (.pointer (some ⟨f, o, none⟩))] w fun e w' => e = .returned (.pointer (some ⟨f, o, none⟩)) ∧ Tch [] w w' := by
  have HN := hid (Blk.new w 69 [.pointer none])
  have H0 := hid (show ErrT (w.alloc (.cells #[.pointer none] 69)) from (Tch.alloc w _ []).cell h0 (by simp))
  clear h0
  go_enter Tryd.func31, Tryd.ntmps31
  go_wp2_with fail
  refine (as_any f o w.heap.size (.pointer none) _ (HN.out.cell (i := 0) rfl) (HN.out.frozen 0) (by simp) H0.out).mono ?_
  rintro e w' ⟨rfl, hc, hT⟩
  have HT := hid ((Tch.alloc w (.cells #[.pointer none] 69) []).trans hT (T := []) (fun _ h => h) (fun x hx => .inr (by simp at hx; omega)))
  clear hT
  go_wp2_with fail
  go_ret
  exact ⟨rfl, HT.out⟩

set_option maxRecDepth 100000 in
theorem code_nil (w : World) : Calls Tryd.prog 13 #[.nilIface] w fun e w' => e = .returned (.int .i64 0) ∧ w = w' := by
  go_enter Tryd.func13, Tryd.ntmps13
  go_wp2_with fail
  go_ret
  exact ⟨rfl, rfl⟩

set_option maxRecDepth 100000 in
theorem code_fault (f : Nat) (c a s : Value) (w : World) (hF : Blk w f 72 [c, a, s]) (h0 : ErrT w) :
    Calls Tryd.prog 13 #[.iface 69 (.pointer (some ⟨f, 0, none⟩))] w fun e w' => e = .returned c ∧ Tch [] w w' := by
  have HF := hid hF
  have hs : 0 < w.heap.size := by have := hF.lt; omega
  clear hF
  go_enter Tryd.func13, Tryd.ntmps13
  go_wp2_with fail
  refine (ffault_any f 0 _ h0 hs).mono ?_
  rintro e w' ⟨rfl, hT⟩
  have hc := (HF.out.keep hT (by simp)).cell (i := 0) rfl
  have HT := hid hT
  clear hT
  go_wp2_with fail
  go_ret
  exact ⟨rfl, HT.out⟩

end Go.Proofs.YtlchegpgicdldaaDoor
