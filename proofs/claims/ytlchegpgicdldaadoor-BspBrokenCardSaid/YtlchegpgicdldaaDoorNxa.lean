/- Net's contracts, told for the engine. -/
import Derived.Test.YtlchegpgicdldaaDoorNtn
import Derived.Test.YtlchegpgicdldaaDoorFau
namespace Go.Proofs.YtlchegpgicdldaaDoor
open Go.Sx Go.RowKit Go.Reg

set_option maxRecDepth 100000
def dL (l : Letter) : Da := .agg [.int .i64 l.src, .int .i64 l.dst, .int .i64 l.seq, .str l.text]
def dA (x : ActM) : Da := .agg [.int .i64 x.kind, .int .i64 x.a, .int .i64 x.b, .str x.text]
def eL : Enc Letter := ⟨encL, dL, 4, fun _ => rfl, encL_one, fun O w l => by
  simp only [dL, RepC, RepCs, encL]
  exact ⟨[_], _, rfl, rfl, [_], _, rfl, rfl, [_], _, rfl, rfl, [_], _, rfl, rfl, rfl⟩⟩
def eA : Enc ActM := ⟨encA, dA, 4, fun _ => rfl, fun l u hu => by simp [encA] at hu; rcases hu with rfl | rfl | rfl | rfl <;> rfl, fun O w l => by
  simp only [dA, RepC, RepCs, encA]
  exact ⟨[_], _, rfl, rfl, [_], _, rfl, rfl, [_], _, rfl, rfl, [_], _, rfl, rfl, rfl⟩⟩
theorem rep_act {O : List Nat} {w : World} {v : Value} {x : ActM} (h : Rep O w (dA x) v) : v = valA x := by
  obtain ⟨cs, r, rfl⟩ := h
  simp only [dA, RepC, RepCs] at r
  obtain ⟨_, _, rfl, rfl, _, _, rfl, rfl, _, _, rfl, rfl, _, _, rfl, rfl, rfl⟩ := r
  rfl

/-- a net, owned -/
def netO (N : NetM) : Absn where
  R w v F := ∃ p, v = .pointer (some ⟨p, 0, none⟩) ∧ NetAt w p N F
  keep := by rintro S w w' v F ⟨p, rfl, h⟩ t hd; exact ⟨p, rfl, h.keep t hd⟩
  lt := by rintro w v F ⟨p, rfl, h⟩; exact h.lt
  one := by rintro w v F ⟨p, rfl, h⟩; rfl

theorem new_obj (k : Int) (h1 : 1 ≤ k) (h2 : k ≤ 64) : MakeObj C1 true 27 [.int .i64 k] (fun r y => y = .nili ∧ r = netO ⟨k, [], 0, [], []⟩) := by
  intro O w us hO hg hr
  obtain ⟨v, vs, rfl, r1, r2⟩ := reps_inv hr
  obtain rfl := rep_int r1
  obtain rfl := reps_inv0 r2
  refine ⟨by kernel_rfl, (new_yes k w h1 h2).mono ?_⟩
  rintro e w' ⟨p, F, rfl, hN, hF, ht⟩
  exact ⟨_, F, _, _, _, rfl, ⟨rfl, rfl⟩, ⟨p, rfl, hN⟩, hF, fun O' _ => rep_nili, ht⟩

theorem slFrom_rep {O : List Nat} {B : Nat} {w : World} {v : Value} {l : List Letter} (h : SlFrom B w v l) (hO : ∀ b ∈ O, b < B) : Rep O w (.list 4 (l.map dL)) v :=
  eL.rep_sl h.sl (fun b hb hm => by have := h.ge b hb; have := hO b hm; omega)

theorem flying_obj (N : NetM) (hf : N.flying.length ≤ 4294967296) : LookObj C1 35 (netO N) [] (fun y => y = .list 4 (N.flying.map dL)) := by
  rintro O w _ F us ⟨p, rfl, hN⟩ hF hO hg hr
  obtain rfl := reps_inv0 hr
  refine ⟨by kernel_rfl, (flying_ok p N F w hN hf).mono ?_⟩
  rintro e w' ⟨v', rfl, hs, ht⟩
  exact ⟨_, _, rfl, rfl, slFrom_rep hs hO, ht⟩

theorem missing_obj (N : NetM) {B : Nat} (hb : NetOk B N) (hB : B ≤ 4294967296) : LookObj C1 38 (netO N) [] (fun y => y = .int .i64 (M N)) := by
  rintro O w _ F us ⟨p, rfl, hN⟩ hF hO hg hr
  obtain rfl := reps_inv0 hr
  refine ⟨by kernel_rfl, (missing_ok p N F w hN hb.all0 (by have := hb.all; omega) (by have := hb.came; omega)).mono ?_⟩
  rintro e w' ⟨rfl, ht⟩
  exact ⟨_, _, rfl, rfl, rep_of_int _ _, ht⟩

theorem quiet_obj (N : NetM) {B : Nat} (hb : NetOk B N) (hB : B ≤ 4294967296) : LookObj C1 37 (netO N) [] (fun y => y = .bool (M N == 0)) := by
  rintro O w _ F us ⟨p, rfl, hN⟩ hF hO hg hr
  obtain rfl := reps_inv0 hr
  refine ⟨by kernel_rfl, (quiet_ok p N F w hN hb.all0 (by have := hb.all; omega) (by have := hb.came; omega)).mono ?_⟩
  rintro e w' ⟨rfl, ht⟩
  exact ⟨_, _, rfl, rfl, rep_of_bool _, ht⟩

theorem inbox_obj (N : NetM) (v : Int) (hc : N.came.length ≤ 4294967296) : LookObj C1 39 (netO N) [.int .i64 v] (fun y => ∃ out : List Letter, y = .list 4 (out.map dL) ∧ out.Perm (pick v N.came) ∧ out.Pairwise (fun a b => ¬ cmpL b a < 0)) := by
  rintro O w _ F us ⟨p, rfl, hN⟩ hF hO hg hr
  obtain ⟨u, vs, rfl, r1, r2⟩ := reps_inv hr
  obtain rfl := rep_int r1
  obtain rfl := reps_inv0 r2
  refine ⟨by kernel_rfl, (inbox_ok p N F v w hN hc).mono ?_⟩
  rintro e w' ⟨v', out, rfl, hs, hge, ht, hp, hw⟩
  exact ⟨_, _, rfl, ⟨out, rfl, hp, hw⟩, eL.rep_sl hs (fun b hb hm => by have := hge b hb; have := hO b hm; omega), ht⟩

theorem double_obj (N : NetM) (i : Nat) (l : Letter) (hi : N.flying[i]? = some l) (hf : N.flying.length ≤ 4294967296) : TurnObj C1 41 (netO N) [.int .i64 i] (fun y r => y = .nili ∧ r = netO (N.double l)) := by
  rintro O w _ F us ⟨p, rfl, hN⟩ hF hO hg hr
  obtain ⟨u, vs, rfl, r1, r2⟩ := reps_inv hr
  obtain rfl := rep_int r1
  obtain rfl := reps_inv0 r2
  refine ⟨by kernel_rfl, (double_ok p N F i l w hN hi hf).mono ?_⟩
  rintro e w' ⟨rfl, F', hN', hF', ht⟩
  exact ⟨_, _, _, F', rfl, ⟨rfl, rfl⟩, ⟨p, rfl, hN'⟩, hF', fun O' _ => rep_nili, ht⟩
theorem deliver_obj (N : NetM) (i : Nat) (l : Letter) (hi : N.flying[i]? = some l) (hf : N.flying.length ≤ 4294967296) : TurnObj C1 40 (netO N) [.int .i64 i] (fun y r => y = .nili ∧ r = netO (N.deliver i l)) := by
  rintro O w _ F us ⟨p, rfl, hN⟩ hF hO hg hr
  obtain ⟨u, vs, rfl, r1, r2⟩ := reps_inv hr
  obtain rfl := rep_int r1
  obtain rfl := reps_inv0 r2
  refine ⟨by kernel_rfl, (deliver_ok p N F i l w hN hi hf).mono ?_⟩
  rintro e w' ⟨rfl, hN', ht⟩
  exact ⟨_, _, _, F, rfl, ⟨rfl, rfl⟩, ⟨p, rfl, hN'⟩, fun b hb => .inl hb, fun O' _ => rep_nili, ht⟩

end Go.Proofs.YtlchegpgicdldaaDoor
