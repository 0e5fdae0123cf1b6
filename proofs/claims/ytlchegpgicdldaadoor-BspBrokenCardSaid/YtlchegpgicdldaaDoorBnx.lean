/- Net's contracts for bsp: Send, Next, what Deliver and Double tell of no letter, and of no net. -/
import Derived.Test.YtlchegpgicdldaaDoorNxa
import Derived.Test.YtlchegpgicdldaaDoorRec
import Derived.Test.YtlchegpgicdldaaDoorCag
namespace Go.Proofs.YtlchegpgicdldaaDoor
open Go.Sx Go.RowKit Go.Reg

set_option maxRecDepth 100000
theorem send_obj (N : NetM) (a b : Int) (s : ByteArray) (ha : 0 ≤ a) (ha' : a < N.workers) (hb : 0 ≤ b) (hb' : b < N.workers)
    (hfl : N.flying.length ≤ 4294967296) (hall : 0 ≤ N.all ∧ N.all ≤ 4294967296) (hnx : 0 ≤ N.next a b ∧ N.next a b ≤ 4294967296) :
    TurnObj C1 33 (netO N) [.int .i64 a, .int .i64 b, .str s] (fun y r => y = .nili ∧ r = netO (N.send a b s)) := by
  rintro O w _ F us ⟨p, rfl, hN⟩ hF hO hg hr
  obtain ⟨v1, vs1, rfl, r1, q1⟩ := reps_inv hr
  obtain rfl := rep_int r1
  obtain ⟨v2, vs2, rfl, r2, q2⟩ := reps_inv q1
  obtain rfl := rep_int r2
  obtain ⟨v3, vs3, rfl, r3, q3⟩ := reps_inv q2
  obtain rfl := rep_str r3
  obtain rfl := reps_inv0 q3
  refine ⟨by kernel_rfl, (send_ok p N F a b s w hN ha ha' hb hb' hfl hall hnx).mono ?_⟩
  rintro e w' ⟨rfl, F', hN', hF', ht⟩
  exact ⟨_, _, _, F', rfl, ⟨rfl, rfl⟩, ⟨p, rfl, hN'⟩, hF', fun O' _ => rep_nili, ht⟩

theorem next_ok (p : Nat) (N : NetM) (F : List Nat) (w : World) (h : NetAt w p N F) :
    Calls Tryd.prog 45 #[.pointer (some ⟨p, 0, none⟩)] w fun e w' => ∃ p' F', e = .returned (.pointer (some ⟨p', 0, none⟩)) ∧ NetAt w' p' ⟨N.workers, [], 0, [], []⟩ F' ∧ (∀ x ∈ F', w.heap.size ≤ x) ∧ Tch [] w w' := by
  obtain ⟨bs, bc, fl, g1, g2, g3, g4, g5, hF⟩ := h
  have c0 := g1.cell (i := 0) rfl
  clear g1 g2 g3 g4 g5 hF
  go_enter Tryd.func45, Tryd.ntmps45
  go_wp2_with fail
  refine (fresh_ok N.workers w).mono ?_
  rintro e w' ⟨p', F', rfl, hN, hF, hT⟩
  have HN := hid hN
  have HF := hid hF
  have HT := hid hT
  clear hN hF hT
  go_wp2_with fail
  go_ret
  exact ⟨p', F', rfl, HN.out, HF.out, HT.out⟩
theorem next_obj (N : NetM) : MakeFrom C1 false 45 (netO N) [] (fun r _ => r = netO ⟨N.workers, [], 0, [], []⟩) := by
  rintro O w _ F us ⟨p, rfl, hN⟩ hF hO hg hr
  obtain rfl := reps_inv0 hr
  refine ⟨by kernel_rfl, (next_ok p N F w hN).mono ?_⟩
  rintro e w' ⟨p', F', rfl, hN, hF, ht⟩
  exact ⟨_, F', _, .int .i64 0, _, rfl, rfl, ⟨p', rfl, hN⟩, hF, fun O' _ => rep_of_int _ _, ht⟩

/-- an error: this very fault, laid anew -/
def ErrN (w w' : World) (v : Value) (c a : Int) (s : ByteArray) : Prop := ∃ f, v = .iface 69 (.pointer (some ⟨f, 0, none⟩)) ∧ w.heap.size ≤ f ∧ Blk w' f 72 [.int .i64 c, .int .i64 a, .string s]
theorem ErrN.rep {O : List Nat} {w w' : World} {v : Value} {c a : Int} {s : ByteArray} (h : ErrN w w' v c a s) (hO : ∀ b ∈ O, b < w.heap.size) : Rep O w' (dF c a s) v := by
  obtain ⟨f, rfl, hf, hb⟩ := h
  refine ⟨[.iface 69 (.pointer (some ⟨f, 0, none⟩))], ?_, rfl⟩
  simp only [dF, RepC]
  refine ⟨[.pointer (some ⟨f, 0, none⟩)], ⟨f, 0, [.int .i64 c, .int .i64 a, .string s], rfl, fun hm => by have := hO f hm; omega, hb.lt, ?_, fun j u hj => ?_⟩, rfl⟩
  · simp only [RepCs]
    exact ⟨[_], _, rfl, rfl, [_], _, rfl, rfl, [_], _, rfl, rfl, rfl⟩
  · have := hb.cell hj
    simpa using this
theorem at_err (p : Nat) (N : NetM) (F : List Nat) (i : Int) (w : World) (h : NetAt w p N F) (h1 : i < 0 ∨ N.flying.length ≤ i) :
    Calls Tryd.prog 55 #[.pointer (some ⟨p, 0, none⟩), .int .i64 i] w fun e w' => ∃ v s, e = .returned v ∧ ErrN w w' v 3 0 s ∧ Tch [] w w' := by
  obtain ⟨bs, bc, fl, g1, g2, g3, g4, g5, hF⟩ := h
  obtain ⟨a, c, rfl⟩ := sl_len_eq g4
  have c3 := g1.cell (i := 3) rfl
  clear g1 g2 g3 g4 g5 hF
  by_cases hi : i < 0
  · clear h1
    go_enter Tryd.func55, Tryd.ntmps55
    go_wp2_with fail
    refine (fnew_any 3 0 _ w).mono ?_
    rintro e w' ⟨rfl, hB, hT⟩
    have HB := hid hB
    have HT := hid hT
    clear hB hT
    go_wp2_with fail
    go_ret
    exact ⟨_, _, rfl, ⟨_, rfl, Nat.le_refl _, HB.out⟩, HT.out⟩
  · have h2 : 0 ≤ i := by omega
    have h3 : N.flying.length ≤ i := by omega
    clear h1 hi
    go_enter Tryd.func55, Tryd.ntmps55
    go_wp2_with fail
    refine (fnew_any 3 0 _ w).mono ?_
    rintro e w' ⟨rfl, hB, hT⟩
    have HB := hid hB
    have HT := hid hT
    clear hB hT
    go_wp2_with fail
    go_ret
    exact ⟨_, _, rfl, ⟨_, rfl, Nat.le_refl _, HB.out⟩, HT.out⟩
theorem deliver_err (p : Nat) (N : NetM) (F : List Nat) (i : Int) (w : World) (h : NetAt w p N F) (h1 : i < 0 ∨ N.flying.length ≤ i) :
    Calls Tryd.prog 40 #[.pointer (some ⟨p, 0, none⟩), .int .i64 i] w fun e w' => ∃ v s, e = .returned v ∧ ErrN w w' v 3 0 s ∧ Tch [] w w' := by
  go_enter Tryd.func40, Tryd.ntmps40
  go_wp2_with fail
  refine (at_err p N F i w h h1).mono ?_
  rintro e w' ⟨v, s, rfl, ⟨f, rfl, hf, hE⟩, hT⟩
  have HE := hid hE
  have HT := hid hT
  have HF := hid hf
  clear hE hT h hf
  go_wp2_with fail
  go_ret
  exact ⟨_, s, rfl, ⟨f, rfl, HF.out, HE.out⟩, HT.out⟩
theorem double_err (p : Nat) (N : NetM) (F : List Nat) (i : Int) (w : World) (h : NetAt w p N F) (h1 : i < 0 ∨ N.flying.length ≤ i) :
    Calls Tryd.prog 41 #[.pointer (some ⟨p, 0, none⟩), .int .i64 i] w fun e w' => ∃ v s, e = .returned v ∧ ErrN w w' v 3 0 s ∧ Tch [] w w' := by
  go_enter Tryd.func41, Tryd.ntmps41
  go_wp2_with fail
  refine (at_err p N F i w h h1).mono ?_
  rintro e w' ⟨v, s, rfl, ⟨f, rfl, hf, hE⟩, hT⟩
  have HE := hid hE
  have HT := hid hT
  have HF := hid hf
  clear hE hT h hf
  go_wp2_with fail
  go_ret
  exact ⟨_, s, rfl, ⟨f, rfl, HF.out, HE.out⟩, HT.out⟩
theorem deliver_lo (N : NetM) (i : Int) (h1 : i < 0 ∨ N.flying.length ≤ i) : LookObj C1 40 (netO N) [.int .i64 i] (fun y => ∃ s, y = dF 3 0 s) := by
  rintro O w _ F us ⟨p, rfl, hN⟩ hF hO hg hr
  obtain ⟨u, vs, rfl, r1, r2⟩ := reps_inv hr
  obtain rfl := rep_int r1
  obtain rfl := reps_inv0 r2
  refine ⟨by kernel_rfl, (deliver_err p N F i w hN h1).mono ?_⟩
  rintro e w' ⟨v, s, rfl, hE, ht⟩
  exact ⟨_, _, rfl, ⟨s, rfl⟩, hE.rep hO, ht⟩
theorem double_lo (N : NetM) (i : Int) (h1 : i < 0 ∨ N.flying.length ≤ i) : LookObj C1 41 (netO N) [.int .i64 i] (fun y => ∃ s, y = dF 3 0 s) := by
  rintro O w _ F us ⟨p, rfl, hN⟩ hF hO hg hr
  obtain ⟨u, vs, rfl, r1, r2⟩ := reps_inv hr
  obtain rfl := rep_int r1
  obtain rfl := reps_inv0 r2
  refine ⟨by kernel_rfl, (double_err p N F i w hN h1).mono ?_⟩
  rintro e w' ⟨v, s, rfl, hE, ht⟩
  exact ⟨_, _, rfl, ⟨s, rfl⟩, hE.rep hO, ht⟩
end Go.Proofs.YtlchegpgicdldaaDoor
