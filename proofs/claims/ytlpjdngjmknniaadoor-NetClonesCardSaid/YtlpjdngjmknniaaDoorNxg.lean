/- NetAll: the walk, by the engine. -/
import Derived.Test.YtlpjdngjmknniaaDoorNxf
import Derived.Test.YtlpjdngjmknniaaDoorSxt
namespace Go.Proofs.YtlpjdngjmknniaaDoor
open Go.Sx Go.RowKit Go.Reg

set_option maxRecDepth 100000
theorem Told.ok {N : NetM} {S C : List Letter} (h : Told N S C) {B : Nat} (h1 : N.flying.length ≤ B) (h2 : S.length ≤ B) : NetOk B N :=
  ⟨h1, by have := h.le; rw [h.came, List.length_map]; omega, by rw [h.all]; omega, by rw [h.all]; omega, fun a b => by
    rw [h.next]
    have : nth S a b ≤ S.length := List.countP_le_length
    omega⟩
theorem double_any (N : NetM) (i : Int) (hf : N.flying.length ≤ 4294967296) : TurnObj C1 25 (netO N) [.int .i64 i] (fun y r => y = .undef ∧ r = netO (N.dbl i)) := by
  rintro O w _ F us ⟨p, rfl, hN⟩ hF hO hg hr
  obtain ⟨u, vs, rfl, r1, r2⟩ := reps_inv hr
  obtain rfl := rep_int r1
  obtain rfl := reps_inv0 r2
  refine ⟨by kernel_rfl, ?_⟩
  unfold NetM.dbl
  by_cases hi : 0 ≤ i ∧ i < N.flying.length
  · obtain ⟨k, rfl⟩ := Int.eq_ofNat_of_zero_le hi.1
    have hk : k < N.flying.length := by omega
    have hl := List.getElem?_eq_getElem hk
    have hp : N.pos (k : Int) = some N.flying[k] := by simp [NetM.pos, hk]
    rw [hp]
    refine (double_ok p N F k _ w hN hl hf).mono ?_
    rintro e w' ⟨rfl, F', hN', hF', ht⟩
    exact ⟨_, _, _, F', rfl, ⟨rfl, rfl⟩, ⟨p, rfl, hN'⟩, hF', fun O' _ => ⟨[_], by simp only [RepC]; exact ⟨_, rfl⟩, rfl⟩, ht⟩
  · have hp : N.pos i = none := by
      unfold NetM.pos
      split
      · exact List.getElem?_eq_none (by omega)
      · rfl
    rw [hp]
    refine (double_no p N F i w hN (by omega)).mono ?_
    rintro e w' ⟨v, rfl, _, ht⟩
    exact ⟨v, .undef, _, F, rfl, ⟨rfl, rfl⟩, ⟨p, rfl, hN.keep ht (by simp)⟩, fun b hb => .inl hb, fun O' _ => ⟨[v], by simp only [RepC]; exact ⟨_, rfl⟩, rfl⟩, ht.mono (by simp)⟩
def pl4 : List (Nat × Plan) := [(25, .leaf [0, 0, 0, 1, 0, 0, 2, 0, 0, 0] [0, 1, 2, 5, 3, 4, 6, 7, 8, 9] [0, 0, 3, 7, 15, 0, 32, 96, 255, 511]),
  (38, .leaf [0, 0, 0, 1, 0, 0, 0, 1, 3, 0, 0, 0, 0, 0, 0, 0, 0, 1, 0, 0, 0, 0, 0, 1, 0, 0, 0, 0, 0, 0, 0, 1, 0, 0, 0, 0, 0, 1, 0, 0, 0, 0] [0, 1, 2, 4, 5, 6, 3, 7, 8, 9, 10, 11, 12, 13, 14, 15, 16, 18, 19, 20, 21, 22, 17, 23, 24, 25, 26, 27, 28, 29, 30, 32, 33, 34, 35, 36, 31, 37, 38, 39, 40, 41] [0, 0, 3, 7, 0, 0, 48, 112, 255, 511, 1023, 2047, 4095, 8191, 8191, 32767, 65535, 131071, 8191, 8191, 532479, 1843199, 3940351, 8134655, 16777215, 33554431, 67108863, 134217727, 134217727, 536870911, 1073741823, 2147483647, 134217727, 134217727, 8724152319, 30198988799, 64558727167, 133278203903, 270717157375, 549755813887, 1099511627775, 2199023255551])]
theorem send_step {N : NetM} {S : List Letter} (h : Told N S []) {x : ActM} (hk : x.kind = 0) : ∃ S', Told (N.act x).1 S' [] ∧ (N.act x).1.workers = N.workers ∧ (N.act x).1.flying.length ≤ N.flying.length + 1 ∧ S'.length ≤ S.length + 1 := by
  have hT := h.act x
  unfold toldAct at hT
  rw [if_pos hk] at hT
  refine ⟨(if 0 ≤ x.a ∧ x.a < N.workers ∧ 0 ≤ x.b ∧ x.b < N.workers then S ++ [⟨x.a, x.b, nth S x.a x.b, x.text⟩] else S), ?_, ?_, ?_, ?_⟩
  · split at hT
    · rw [if_pos (by assumption)]; exact hT
    · rw [if_neg (by assumption)]; exact hT
  · unfold NetM.act; rw [if_pos hk]; split <;> rfl
  · unfold NetM.act; rw [if_pos hk]; split <;> simp [NetM.send]
  · split <;> simp
theorem del_step {N : NetM} {S C : List Letter} (h : Told N S C) {k : Nat} {L : Letter} (hL : N.flying[k]? = some L) : ∃ C', Told (N.deliver k L) S C' ∧ (N.deliver k L).flying.length + 1 = N.flying.length ∧ (N.deliver k L).workers = N.workers := by
  refine ⟨_, h.deliver hL, ?_, rfl⟩
  have hlt := (List.getElem?_eq_some_iff.1 hL).1
  show (N.flying.eraseIdx k).length + 1 = _
  rw [List.length_eraseIdx, if_pos hlt]
  omega
theorem deliver_at (N : NetM) (z : Int) (i : Nat) (l : Letter) (hz : z = i) (hi : N.flying[i]? = some l) (hf : N.flying.length ≤ 4294967296) : TurnObj C1 26 (netO N) [.int .i64 z] (fun y r => y = .nili ∧ r = netO (N.deliver i l)) := by
  subst hz; exact deliver_obj N i l hi hf
theorem cok4 : codeOk Tryd.prog [20] pl4 (Tryd.f4.body.getD .skip) = true := by kernel_rfl
theorem run4 (vs : Array Value) (w : World) : (callFunc 4 vs).run C1.P w = .ok (.enter 4 vs) w := by kernel_rfl
set_option maxHeartbeats 1000000 in
theorem all_pure (n : Int) (l : List ActM) (ord : List Int) (m : Int) (hn : 0 ≤ n ∧ n ≤ 255) (ho : ∀ x ∈ ord, 0 ≤ x ∧ x ≤ 65535) (hm : 0 ≤ m ∧ m ≤ 255) :
    Pure C1 4 [.int .u8 n, .list 4 (l.map dA), .list 1 (ord.map fun x => .int .u16 x), .int .u8 m] (fun y => y = .bool true) := by
  refine pure_of c1_ok (pl := pl4) (G := [20]) Tryd.func4 rfl Tryd.ntmps4 run4 cok4 (by simp) ?_
  have hk6 := tmod_nn (b := 6) hn.1
  have hm20 := tmod_nn (b := 20) hm.1
  have hl : (l.map dA).length = l.length := List.length_map _
  have hlo : (ord.map fun x => Da.int .u16 x).length = ord.length := List.length_map _
  ((conv => whnf); repeat' (first | (refine if_yes (by first | omega | rfl | assumption | exact ⟨rfl, rfl⟩ | exact ⟨rfl, rfl, rfl⟩ | exact ⟨rfl, rfl, rfl, rfl⟩) ?_; conv => whnf) | (refine if_no (by first | omega | assumption | exact fun h => h rfl | exact fun h => h (by assumption) | exact fun h => h ⟨rfl, rfl⟩ | exact fun h => h ⟨rfl, rfl, rfl⟩ | exact fun h => h ⟨rfl, rfl, rfl, rfl⟩) ?_; conv => whnf) | (refine i64_is (by omega) ?_; conv => whnf) | (refine at_is rfl (by assumption) ?_; conv => whnf) | (refine most_ok (by (try simp only [List.length_append, List.length_map, List.length_cons, List.length_nil]); omega) ?_; conv => whnf) | (refine rem_ok (by first | decide | omega) ?_; conv => whnf) | (refine if_both (fun _ => ?_) (fun _ => ?_) <;> conv => whnf)))
  refine call_pure rfl alive_pure ?_; rintro y rfl; ((conv => whnf); repeat' (first | (refine if_yes (by first | omega | rfl | assumption | exact ⟨rfl, rfl⟩ | exact ⟨rfl, rfl, rfl⟩ | exact ⟨rfl, rfl, rfl, rfl⟩) ?_; conv => whnf) | (refine if_no (by first | omega | assumption | exact fun h => h rfl | exact fun h => h (by assumption) | exact fun h => h ⟨rfl, rfl⟩ | exact fun h => h ⟨rfl, rfl, rfl⟩ | exact fun h => h ⟨rfl, rfl, rfl, rfl⟩) ?_; conv => whnf) | (refine i64_is (by omega) ?_; conv => whnf) | (refine at_is rfl (by assumption) ?_; conv => whnf) | (refine most_ok (by (try simp only [List.length_append, List.length_map, List.length_cons, List.length_nil]); omega) ?_; conv => whnf) | (refine rem_ok (by first | decide | omega) ?_; conv => whnf) | (refine if_both (fun _ => ?_) (fun _ => ?_) <;> conv => whnf)))
  refine call_pure rfl (far_pure l) ?_; rintro y rfl
  cases hfar : farM l with
  | true => ((conv => whnf); repeat' (first | (refine if_yes (by first | omega | rfl | assumption | exact ⟨rfl, rfl⟩ | exact ⟨rfl, rfl, rfl⟩ | exact ⟨rfl, rfl, rfl, rfl⟩) ?_; conv => whnf) | (refine if_no (by first | omega | assumption | exact fun h => h rfl | exact fun h => h (by assumption) | exact fun h => h ⟨rfl, rfl⟩ | exact fun h => h ⟨rfl, rfl, rfl⟩ | exact fun h => h ⟨rfl, rfl, rfl, rfl⟩) ?_; conv => whnf) | (refine i64_is (by omega) ?_; conv => whnf) | (refine at_is rfl (by assumption) ?_; conv => whnf) | (refine most_ok (by (try simp only [List.length_append, List.length_map, List.length_cons, List.length_nil]); omega) ?_; conv => whnf) | (refine rem_ok (by first | decide | omega) ?_; conv => whnf) | (refine if_both (fun _ => ?_) (fun _ => ?_) <;> conv => whnf))); exact rfl
  | false =>
    have hfar' := hfar
    simp only [farM, Bool.or_eq_false_iff, List.any_eq_false] at hfar'
    obtain ⟨hgood, hlen⟩ := hfar'
    replace hlen : l.length ≤ 60 := by simpa using hlen
    ((conv => whnf); repeat' (first | (refine if_yes (by first | omega | rfl | assumption | exact ⟨rfl, rfl⟩ | exact ⟨rfl, rfl, rfl⟩ | exact ⟨rfl, rfl, rfl, rfl⟩) ?_; conv => whnf) | (refine if_no (by first | omega | assumption | exact fun h => h rfl | exact fun h => h (by assumption) | exact fun h => h ⟨rfl, rfl⟩ | exact fun h => h ⟨rfl, rfl, rfl⟩ | exact fun h => h ⟨rfl, rfl, rfl, rfl⟩) ?_; conv => whnf) | (refine i64_is (by omega) ?_; conv => whnf) | (refine at_is rfl (by assumption) ?_; conv => whnf) | (refine most_ok (by (try simp only [List.length_append, List.length_map, List.length_cons, List.length_nil]); omega) ?_; conv => whnf) | (refine rem_ok (by first | decide | omega) ?_; conv => whnf) | (refine if_both (fun _ => ?_) (fun _ => ?_) <;> conv => whnf)))
    · exact rfl
    generalize hk : n.tmod 6 = k at *
    refine call_make 50 rfl rfl (new_obj (1 + k) (by omega) (by omega)) ?_; rintro r y ⟨rfl, rfl⟩; ((conv => whnf); repeat' (first | (refine if_yes (by first | omega | rfl | assumption | exact ⟨rfl, rfl⟩ | exact ⟨rfl, rfl, rfl⟩ | exact ⟨rfl, rfl, rfl, rfl⟩) ?_; conv => whnf) | (refine if_no (by first | omega | assumption | exact fun h => h rfl | exact fun h => h (by assumption) | exact fun h => h ⟨rfl, rfl⟩ | exact fun h => h ⟨rfl, rfl, rfl⟩ | exact fun h => h ⟨rfl, rfl, rfl, rfl⟩) ?_; conv => whnf) | (refine i64_is (by omega) ?_; conv => whnf) | (refine at_is rfl (by assumption) ?_; conv => whnf) | (refine most_ok (by (try simp only [List.length_append, List.length_map, List.length_cons, List.length_nil]); omega) ?_; conv => whnf) | (refine rem_ok (by first | decide | omega) ?_; conv => whnf) | (refine if_both (fun _ => ?_) (fun _ => ?_) <;> conv => whnf)))
    refine call_make 51 rfl rfl (new_obj (1 + k) (by omega) (by omega)) ?_; rintro r y ⟨rfl, rfl⟩; ((conv => whnf); repeat' (first | (refine if_yes (by first | omega | rfl | assumption | exact ⟨rfl, rfl⟩ | exact ⟨rfl, rfl, rfl⟩ | exact ⟨rfl, rfl, rfl, rfl⟩) ?_; conv => whnf) | (refine if_no (by first | omega | assumption | exact fun h => h rfl | exact fun h => h (by assumption) | exact fun h => h ⟨rfl, rfl⟩ | exact fun h => h ⟨rfl, rfl, rfl⟩ | exact fun h => h ⟨rfl, rfl, rfl, rfl⟩) ?_; conv => whnf) | (refine i64_is (by omega) ?_; conv => whnf) | (refine at_is rfl (by assumption) ?_; conv => whnf) | (refine most_ok (by (try simp only [List.length_append, List.length_map, List.length_cons, List.length_nil]); omega) ?_; conv => whnf) | (refine rem_ok (by first | decide | omega) ?_; conv => whnf) | (refine if_both (fun _ => ?_) (fun _ => ?_) <;> conv => whnf)))
    have hko : ∃ k', k' = 1 + k ∧ 1 ≤ k' ∧ k' ≤ 6 := ⟨_, rfl, by omega, by omega⟩
    refine loop_inv (ι := Nat × NetM × List Letter) (fun s => s.1 ≤ l.length ∧ Told s.2.1 s.2.2 [] ∧ s.2.1.workers = 1 + k ∧ s.2.1.flying.length ≤ s.1 ∧ s.2.2.length ≤ s.1)
      (fun s => [(14, .d (.int .i64 s.1)), (12, .own 51), (10, .own 50), (9, .d (.int .i64 (1 + k))), (8, .d (.bool false)), (3, .d (.int .u8 m)), (2, .d (.list 1 (ord.map fun x => .int .u16 x))), (1, .d (.list 4 (l.map dA)))])
      (fun s => [(50, (netO s.2.1).own), (51, (netO s.2.1).own)]) (fun s => l.length - s.1) (0, ⟨1 + k, [], 0, [], []⟩, []) (fun _ => rfl) ⟨Nat.zero_le _, Told.new _, rfl, by simp, by simp⟩ ⟨rfl, rfl, rfl, rfl, rfl, rfl, rfl, rfl, trivial⟩ ⟨rfl, rfl, trivial⟩ ?_
    rintro ⟨i, N, S⟩ ⟨hi, hT, hw, hfl, hsl⟩
    dsimp only at hi hT hw hfl hsl ⊢
    refine sxCode_sound c1_ok (G := [20]) (pl := pl4) _ _ _ _ (by kernel_rfl) ?_
    have hok : NetOk 60 N := hT.ok (by omega) (by omega)
    by_cases hlt : i < l.length
    · have hx := List.getElem?_eq_getElem hlt
      generalize l[i] = x at hx
      by_cases hk0 : x.kind = 0
      · ((conv => whnf); repeat' (first | (refine if_yes (by first | omega | rfl | assumption | exact ⟨rfl, rfl⟩ | exact ⟨rfl, rfl, rfl⟩ | exact ⟨rfl, rfl, rfl, rfl⟩) ?_; conv => whnf) | (refine if_no (by first | omega | assumption | exact fun h => h rfl | exact fun h => h (by assumption) | exact fun h => h ⟨rfl, rfl⟩ | exact fun h => h ⟨rfl, rfl, rfl⟩ | exact fun h => h ⟨rfl, rfl, rfl, rfl⟩) ?_; conv => whnf) | (refine i64_is (by omega) ?_; conv => whnf) | (refine at_is rfl (by assumption) ?_; conv => whnf) | (refine most_ok (by (try simp only [List.length_append, List.length_map, List.length_cons, List.length_nil]); omega) ?_; conv => whnf) | (refine rem_ok (by first | decide | omega) ?_; conv => whnf) | (refine if_both (fun _ => ?_) (fun _ => ?_) <;> conv => whnf)))
        refine call_turn rfl rfl (do_obj N x hok (by omega)) ?_; rintro y r ⟨rfl, rfl⟩
        ((conv => whnf); repeat' (first | (refine if_yes (by first | omega | rfl | assumption | exact ⟨rfl, rfl⟩ | exact ⟨rfl, rfl, rfl⟩ | exact ⟨rfl, rfl, rfl, rfl⟩) ?_; conv => whnf) | (refine if_no (by first | omega | assumption | exact fun h => h rfl | exact fun h => h (by assumption) | exact fun h => h ⟨rfl, rfl⟩ | exact fun h => h ⟨rfl, rfl, rfl⟩ | exact fun h => h ⟨rfl, rfl, rfl, rfl⟩) ?_; conv => whnf) | (refine i64_is (by omega) ?_; conv => whnf) | (refine at_is rfl (by assumption) ?_; conv => whnf) | (refine most_ok (by (try simp only [List.length_append, List.length_map, List.length_cons, List.length_nil]); omega) ?_; conv => whnf) | (refine rem_ok (by first | decide | omega) ?_; conv => whnf) | (refine if_both (fun _ => ?_) (fun _ => ?_) <;> conv => whnf)))
        refine call_turn rfl rfl (do_obj N x hok (by omega)) ?_; rintro y r ⟨rfl, rfl⟩
        ((conv => whnf); repeat' (first | (refine if_yes (by first | omega | rfl | assumption | exact ⟨rfl, rfl⟩ | exact ⟨rfl, rfl, rfl⟩ | exact ⟨rfl, rfl, rfl, rfl⟩) ?_; conv => whnf) | (refine if_no (by first | omega | assumption | exact fun h => h rfl | exact fun h => h (by assumption) | exact fun h => h ⟨rfl, rfl⟩ | exact fun h => h ⟨rfl, rfl, rfl⟩ | exact fun h => h ⟨rfl, rfl, rfl, rfl⟩) ?_; conv => whnf) | (refine i64_is (by omega) ?_; conv => whnf) | (refine at_is rfl (by assumption) ?_; conv => whnf) | (refine most_ok (by (try simp only [List.length_append, List.length_map, List.length_cons, List.length_nil]); omega) ?_; conv => whnf) | (refine rem_ok (by first | decide | omega) ?_; conv => whnf) | (refine if_both (fun _ => ?_) (fun _ => ?_) <;> conv => whnf)))
        obtain ⟨S', g1, g2, g3, g4⟩ := send_step hT hk0
        exact ⟨(i + 1, (N.act x).1, S'), ⟨hlt, g1, g2.trans hw, by simp only []; omega, by simp only []; omega⟩, ⟨rfl, rfl, rfl, rfl, rfl, rfl, rfl, rfl, trivial⟩, ⟨rfl, rfl, trivial⟩, by simp; omega⟩
      · ((conv => whnf); repeat' (first | (refine if_yes (by first | omega | rfl | assumption | exact ⟨rfl, rfl⟩ | exact ⟨rfl, rfl, rfl⟩ | exact ⟨rfl, rfl, rfl, rfl⟩) ?_; conv => whnf) | (refine if_no (by first | omega | assumption | exact fun h => h rfl | exact fun h => h (by assumption) | exact fun h => h ⟨rfl, rfl⟩ | exact fun h => h ⟨rfl, rfl, rfl⟩ | exact fun h => h ⟨rfl, rfl, rfl, rfl⟩) ?_; conv => whnf) | (refine i64_is (by omega) ?_; conv => whnf) | (refine at_is rfl (by assumption) ?_; conv => whnf) | (refine most_ok (by (try simp only [List.length_append, List.length_map, List.length_cons, List.length_nil]); omega) ?_; conv => whnf) | (refine rem_ok (by first | decide | omega) ?_; conv => whnf) | (refine if_both (fun _ => ?_) (fun _ => ?_) <;> conv => whnf)))
        exact ⟨(i + 1, N, S), ⟨hlt, hT, hw, by simp only []; omega, by simp only []; omega⟩, ⟨rfl, rfl, rfl, rfl, rfl, rfl, rfl, rfl, trivial⟩, ⟨rfl, rfl, trivial⟩, by simp; omega⟩
    · ((conv => whnf); repeat' (first | (refine if_yes (by first | omega | rfl | assumption | exact ⟨rfl, rfl⟩ | exact ⟨rfl, rfl, rfl⟩ | exact ⟨rfl, rfl, rfl, rfl⟩) ?_; conv => whnf) | (refine if_no (by first | omega | assumption | exact fun h => h rfl | exact fun h => h (by assumption) | exact fun h => h ⟨rfl, rfl⟩ | exact fun h => h ⟨rfl, rfl, rfl⟩ | exact fun h => h ⟨rfl, rfl, rfl, rfl⟩) ?_; conv => whnf) | (refine i64_is (by omega) ?_; conv => whnf) | (refine at_is rfl (by assumption) ?_; conv => whnf) | (refine most_ok (by (try simp only [List.length_append, List.length_map, List.length_cons, List.length_nil]); omega) ?_; conv => whnf) | (refine rem_ok (by first | decide | omega) ?_; conv => whnf) | (refine if_both (fun _ => ?_) (fun _ => ?_) <;> conv => whnf)))
      have hS60 : S.length ≤ 60 := by omega
      have hf60 : N.flying.length ≤ 60 := by omega
      clear hok hfl hsl hi hlt
      refine loop_inv (ι := Nat × NetM) (fun s => s.1 ≤ 20 ∧ Told s.2 S [] ∧ s.2.workers = 1 + k ∧ s.2.flying.length ≤ 60 + s.1)
        (fun s => [(17, .d (.int .i64 s.1)), (12, .own 51), (10, .own 50), (9, .d (.int .i64 (1 + k))), (8, .d (.bool false)), (3, .d (.int .u8 m)), (2, .d (.list 1 (ord.map fun x => .int .u16 x)))])
        (fun s => [(50, (netO s.2).own), (51, (netO N).own)]) (fun s => 20 - s.1) (0, N) (fun _ => rfl) ⟨Nat.zero_le _, hT, hw, hf60⟩ ⟨rfl, rfl, rfl, rfl, rfl, rfl, rfl, trivial⟩ ⟨rfl, rfl, trivial⟩ ?_
      rintro ⟨i, A⟩ ⟨hi, hA, hwA, hfA⟩
      dsimp only at hi hA hwA hfA ⊢
      refine sxCode_sound c1_ok (G := [20]) (pl := pl4) _ _ _ _ (by kernel_rfl) ?_
      generalize hm20' : m.tmod 20 = m20 at *
      by_cases hlt : (i : Int) < m20
      · ((conv => whnf); repeat' (first | (refine if_yes (by first | omega | rfl | assumption | exact ⟨rfl, rfl⟩ | exact ⟨rfl, rfl, rfl⟩ | exact ⟨rfl, rfl, rfl, rfl⟩) ?_; conv => whnf) | (refine if_no (by first | omega | assumption | exact fun h => h rfl | exact fun h => h (by assumption) | exact fun h => h ⟨rfl, rfl⟩ | exact fun h => h ⟨rfl, rfl, rfl⟩ | exact fun h => h ⟨rfl, rfl, rfl, rfl⟩) ?_; conv => whnf) | (refine i64_is (by omega) ?_; conv => whnf) | (refine at_is rfl (by assumption) ?_; conv => whnf) | (refine most_ok (by (try simp only [List.length_append, List.length_map, List.length_cons, List.length_nil]); omega) ?_; conv => whnf) | (refine rem_ok (by first | decide | omega) ?_; conv => whnf) | (refine if_both (fun _ => ?_) (fun _ => ?_) <;> conv => whnf)))
        refine call_turn rfl rfl (double_any A i (by omega)) ?_; rintro y r ⟨rfl, rfl⟩
        ((conv => whnf); repeat' (first | (refine if_yes (by first | omega | rfl | assumption | exact ⟨rfl, rfl⟩ | exact ⟨rfl, rfl, rfl⟩ | exact ⟨rfl, rfl, rfl, rfl⟩) ?_; conv => whnf) | (refine if_no (by first | omega | assumption | exact fun h => h rfl | exact fun h => h (by assumption) | exact fun h => h ⟨rfl, rfl⟩ | exact fun h => h ⟨rfl, rfl, rfl⟩ | exact fun h => h ⟨rfl, rfl, rfl, rfl⟩) ?_; conv => whnf) | (refine i64_is (by omega) ?_; conv => whnf) | (refine at_is rfl (by assumption) ?_; conv => whnf) | (refine most_ok (by (try simp only [List.length_append, List.length_map, List.length_cons, List.length_nil]); omega) ?_; conv => whnf) | (refine rem_ok (by first | decide | omega) ?_; conv => whnf) | (refine if_both (fun _ => ?_) (fun _ => ?_) <;> conv => whnf)))
        have hd := dbl_len A i
        exact ⟨(i + 1, A.dbl i), ⟨by simp only []; omega, hA.dbl i, hd.2.2.2.2.trans hwA, by simp only []; omega⟩, ⟨rfl, rfl, rfl, rfl, rfl, rfl, rfl, trivial⟩, ⟨rfl, rfl, trivial⟩, by simp only []; omega⟩
      · ((conv => whnf); repeat' (first | (refine if_yes (by first | omega | rfl | assumption | exact ⟨rfl, rfl⟩ | exact ⟨rfl, rfl, rfl⟩ | exact ⟨rfl, rfl, rfl, rfl⟩) ?_; conv => whnf) | (refine if_no (by first | omega | assumption | exact fun h => h rfl | exact fun h => h (by assumption) | exact fun h => h ⟨rfl, rfl⟩ | exact fun h => h ⟨rfl, rfl, rfl⟩ | exact fun h => h ⟨rfl, rfl, rfl, rfl⟩) ?_; conv => whnf) | (refine i64_is (by omega) ?_; conv => whnf) | (refine at_is rfl (by assumption) ?_; conv => whnf) | (refine most_ok (by (try simp only [List.length_append, List.length_map, List.length_cons, List.length_nil]); omega) ?_; conv => whnf) | (refine rem_ok (by first | decide | omega) ?_; conv => whnf) | (refine if_both (fun _ => ?_) (fun _ => ?_) <;> conv => whnf)))
        have hfA80 : A.flying.length ≤ 80 := by omega
        refine loop_inv (ι := Nat × NetM × List Letter) (fun s => Told s.2.1 S s.2.2 ∧ s.2.1.workers = 1 + k ∧ s.2.1.flying.length + s.1 ≤ 80)
          (fun s => [(18, .d (.int .i64 s.1)), (12, .own 51), (10, .own 50), (9, .d (.int .i64 (1 + k))), (8, .d (.bool false)), (2, .d (.list 1 (ord.map fun x => .int .u16 x)))])
          (fun s => [(50, (netO s.2.1).own), (51, (netO N).own)]) (fun s => s.2.1.flying.length) (0, A, []) (fun _ => rfl) ⟨hA, hwA, hfA80⟩ ⟨rfl, rfl, rfl, rfl, rfl, rfl, trivial⟩ ⟨rfl, rfl, trivial⟩ ?_
        clear hA hwA hfA hfA80 hi hlt
        clear A i
        rintro ⟨i, A, C⟩ ⟨hA, hwA, hfA⟩
        dsimp only at hA hwA hfA ⊢
        refine sxCode_sound c1_ok (G := [20]) (pl := pl4) _ _ _ _ (by kernel_rfl) ?_
        have hlA : (A.flying.map dL).length = A.flying.length := List.length_map _
        ((conv => whnf); repeat' (first | (refine if_yes (by first | omega | rfl | assumption | exact ⟨rfl, rfl⟩ | exact ⟨rfl, rfl, rfl⟩ | exact ⟨rfl, rfl, rfl, rfl⟩) ?_; conv => whnf) | (refine if_no (by first | omega | assumption | exact fun h => h rfl | exact fun h => h (by assumption) | exact fun h => h ⟨rfl, rfl⟩ | exact fun h => h ⟨rfl, rfl, rfl⟩ | exact fun h => h ⟨rfl, rfl, rfl, rfl⟩) ?_; conv => whnf) | (refine i64_is (by omega) ?_; conv => whnf) | (refine at_is rfl (by assumption) ?_; conv => whnf) | (refine most_ok (by (try simp only [List.length_append, List.length_map, List.length_cons, List.length_nil]); omega) ?_; conv => whnf) | (refine rem_ok (by first | decide | omega) ?_; conv => whnf) | (refine if_both (fun _ => ?_) (fun _ => ?_) <;> conv => whnf)))
        refine call_look (r := netO A) rfl rfl (flying_obj A (by omega)) ?_; rintro y rfl
        by_cases hpos : 0 < A.flying.length
        · by_cases hio : i < ord.length
          · have hx2 := List.getElem?_eq_getElem hio
            have hz := ho _ (List.getElem_mem hio)
            generalize ord[i] = z at hx2 hz
            obtain ⟨j, hj⟩ := Int.eq_ofNat_of_zero_le (Int.emod_nonneg z (b := ((A.flying.map dL).length : Int)) (by omega))
            have hjlt := Int.emod_lt_of_pos z (b := ((A.flying.map dL).length : Int)) (by omega)
            have ht := tmod_nn (b := ((A.flying.map dL).length : Int)) hz.1
            have hjl : j < A.flying.length := by omega
            have hL := List.getElem?_eq_getElem hjl
            generalize A.flying[j] = L at hL
            obtain ⟨C', d1, d2, d3⟩ := del_step hA hL
            ((conv => whnf); repeat' (first | (refine if_yes (by first | omega | rfl | assumption | exact ⟨rfl, rfl⟩ | exact ⟨rfl, rfl, rfl⟩ | exact ⟨rfl, rfl, rfl, rfl⟩) ?_; conv => whnf) | (refine if_no (by first | omega | assumption | exact fun h => h rfl | exact fun h => h (by assumption) | exact fun h => h ⟨rfl, rfl⟩ | exact fun h => h ⟨rfl, rfl, rfl⟩ | exact fun h => h ⟨rfl, rfl, rfl, rfl⟩) ?_; conv => whnf) | (refine i64_is (by omega) ?_; conv => whnf) | (refine at_is rfl (by assumption) ?_; conv => whnf) | (refine most_ok (by (try simp only [List.length_append, List.length_map, List.length_cons, List.length_nil]); omega) ?_; conv => whnf) | (refine rem_ok (by first | decide | omega) ?_; conv => whnf) | (refine if_both (fun _ => ?_) (fun _ => ?_) <;> conv => whnf)))
            refine call_look (r := netO A) rfl rfl (flying_obj A (by omega)) ?_; rintro y rfl
            (conv => whnf)
            refine rem_ok (by omega) ?_
            ((conv => whnf); repeat' (first | (refine if_yes (by first | omega | rfl | assumption | exact ⟨rfl, rfl⟩ | exact ⟨rfl, rfl, rfl⟩ | exact ⟨rfl, rfl, rfl, rfl⟩) ?_; conv => whnf) | (refine if_no (by first | omega | assumption | exact fun h => h rfl | exact fun h => h (by assumption) | exact fun h => h ⟨rfl, rfl⟩ | exact fun h => h ⟨rfl, rfl, rfl⟩ | exact fun h => h ⟨rfl, rfl, rfl, rfl⟩) ?_; conv => whnf) | (refine i64_is (by omega) ?_; conv => whnf) | (refine at_is rfl (by assumption) ?_; conv => whnf) | (refine most_ok (by (try simp only [List.length_append, List.length_map, List.length_cons, List.length_nil]); omega) ?_; conv => whnf) | (refine rem_ok (by first | decide | omega) ?_; conv => whnf) | (refine if_both (fun _ => ?_) (fun _ => ?_) <;> conv => whnf)))
            refine call_turn rfl rfl (deliver_at A _ j L (ht.trans hj) hL (by omega)) ?_; rintro y r ⟨rfl, rfl⟩
            ((conv => whnf); repeat' (first | (refine if_yes (by first | omega | rfl | assumption | exact ⟨rfl, rfl⟩ | exact ⟨rfl, rfl, rfl⟩ | exact ⟨rfl, rfl, rfl, rfl⟩) ?_; conv => whnf) | (refine if_no (by first | omega | assumption | exact fun h => h rfl | exact fun h => h (by assumption) | exact fun h => h ⟨rfl, rfl⟩ | exact fun h => h ⟨rfl, rfl, rfl⟩ | exact fun h => h ⟨rfl, rfl, rfl, rfl⟩) ?_; conv => whnf) | (refine i64_is (by omega) ?_; conv => whnf) | (refine at_is rfl (by assumption) ?_; conv => whnf) | (refine most_ok (by (try simp only [List.length_append, List.length_map, List.length_cons, List.length_nil]); omega) ?_; conv => whnf) | (refine rem_ok (by first | decide | omega) ?_; conv => whnf) | (refine if_both (fun _ => ?_) (fun _ => ?_) <;> conv => whnf)))
            exact ⟨(i + 1, A.deliver j L, C'), ⟨d1, d3.trans hwA, by simp only []; omega⟩, ⟨rfl, rfl, rfl, rfl, rfl, rfl, trivial⟩, ⟨rfl, rfl, trivial⟩, by simp only []; omega⟩
          · have hL := List.getElem?_eq_getElem hpos
            generalize A.flying[0] = L at hL
            obtain ⟨C', d1, d2, d3⟩ := del_step hA hL
            ((conv => whnf); repeat' (first | (refine if_yes (by first | omega | rfl | assumption | exact ⟨rfl, rfl⟩ | exact ⟨rfl, rfl, rfl⟩ | exact ⟨rfl, rfl, rfl, rfl⟩) ?_; conv => whnf) | (refine if_no (by first | omega | assumption | exact fun h => h rfl | exact fun h => h (by assumption) | exact fun h => h ⟨rfl, rfl⟩ | exact fun h => h ⟨rfl, rfl, rfl⟩ | exact fun h => h ⟨rfl, rfl, rfl, rfl⟩) ?_; conv => whnf) | (refine i64_is (by omega) ?_; conv => whnf) | (refine at_is rfl (by assumption) ?_; conv => whnf) | (refine most_ok (by (try simp only [List.length_append, List.length_map, List.length_cons, List.length_nil]); omega) ?_; conv => whnf) | (refine rem_ok (by first | decide | omega) ?_; conv => whnf) | (refine if_both (fun _ => ?_) (fun _ => ?_) <;> conv => whnf)))
            refine call_turn rfl rfl (deliver_at A 0 0 L rfl hL (by omega)) ?_; rintro y r ⟨rfl, rfl⟩
            ((conv => whnf); repeat' (first | (refine if_yes (by first | omega | rfl | assumption | exact ⟨rfl, rfl⟩ | exact ⟨rfl, rfl, rfl⟩ | exact ⟨rfl, rfl, rfl, rfl⟩) ?_; conv => whnf) | (refine if_no (by first | omega | assumption | exact fun h => h rfl | exact fun h => h (by assumption) | exact fun h => h ⟨rfl, rfl⟩ | exact fun h => h ⟨rfl, rfl, rfl⟩ | exact fun h => h ⟨rfl, rfl, rfl, rfl⟩) ?_; conv => whnf) | (refine i64_is (by omega) ?_; conv => whnf) | (refine at_is rfl (by assumption) ?_; conv => whnf) | (refine most_ok (by (try simp only [List.length_append, List.length_map, List.length_cons, List.length_nil]); omega) ?_; conv => whnf) | (refine rem_ok (by first | decide | omega) ?_; conv => whnf) | (refine if_both (fun _ => ?_) (fun _ => ?_) <;> conv => whnf)))
            exact ⟨(i + 1, A.deliver 0 L, C'), ⟨d1, d3.trans hwA, by simp only []; omega⟩, ⟨rfl, rfl, rfl, rfl, rfl, rfl, trivial⟩, ⟨rfl, rfl, trivial⟩, by simp only []; omega⟩
        · ((conv => whnf); repeat' (first | (refine if_yes (by first | omega | rfl | assumption | exact ⟨rfl, rfl⟩ | exact ⟨rfl, rfl, rfl⟩ | exact ⟨rfl, rfl, rfl, rfl⟩) ?_; conv => whnf) | (refine if_no (by first | omega | assumption | exact fun h => h rfl | exact fun h => h (by assumption) | exact fun h => h ⟨rfl, rfl⟩ | exact fun h => h ⟨rfl, rfl, rfl⟩ | exact fun h => h ⟨rfl, rfl, rfl, rfl⟩) ?_; conv => whnf) | (refine i64_is (by omega) ?_; conv => whnf) | (refine at_is rfl (by assumption) ?_; conv => whnf) | (refine most_ok (by (try simp only [List.length_append, List.length_map, List.length_cons, List.length_nil]); omega) ?_; conv => whnf) | (refine rem_ok (by first | decide | omega) ?_; conv => whnf) | (refine if_both (fun _ => ?_) (fun _ => ?_) <;> conv => whnf)))
          have hA0 : A.flying = [] := List.eq_nil_of_length_eq_zero (by omega)
          clear hlA hfA hpos
          refine loop_inv (ι := NetM × List Letter) (fun s => Told s.1 S s.2 ∧ s.1.workers = 1 + k ∧ s.1.flying.length ≤ 60)
            (fun s => [(12, .own 51), (10, .own 50), (9, .d (.int .i64 (1 + k))), (8, .d (.bool false))])
            (fun s => [(50, (netO A).own), (51, (netO s.1).own)]) (fun s => s.1.flying.length) (N, []) (fun _ => rfl) ⟨hT, hw, hf60⟩ ⟨rfl, rfl, rfl, rfl, trivial⟩ ⟨rfl, rfl, trivial⟩ ?_
          rintro ⟨D, C2⟩ ⟨hD, hwD, hfD⟩
          dsimp only at hD hwD hfD ⊢
          refine sxCode_sound c1_ok (G := [20]) (pl := pl4) _ _ _ _ (by kernel_rfl) ?_
          have hlD : (D.flying.map dL).length = D.flying.length := List.length_map _
          ((conv => whnf); repeat' (first | (refine if_yes (by first | omega | rfl | assumption | exact ⟨rfl, rfl⟩ | exact ⟨rfl, rfl, rfl⟩ | exact ⟨rfl, rfl, rfl, rfl⟩) ?_; conv => whnf) | (refine if_no (by first | omega | assumption | exact fun h => h rfl | exact fun h => h (by assumption) | exact fun h => h ⟨rfl, rfl⟩ | exact fun h => h ⟨rfl, rfl, rfl⟩ | exact fun h => h ⟨rfl, rfl, rfl, rfl⟩) ?_; conv => whnf) | (refine i64_is (by omega) ?_; conv => whnf) | (refine at_is rfl (by assumption) ?_; conv => whnf) | (refine most_ok (by (try simp only [List.length_append, List.length_map, List.length_cons, List.length_nil]); omega) ?_; conv => whnf) | (refine rem_ok (by first | decide | omega) ?_; conv => whnf) | (refine if_both (fun _ => ?_) (fun _ => ?_) <;> conv => whnf)))
          refine call_look (r := netO D) rfl rfl (flying_obj D (by omega)) ?_; rintro y rfl
          by_cases hpos : 0 < D.flying.length
          · have hL := List.getElem?_eq_getElem hpos
            generalize D.flying[0] = L at hL
            obtain ⟨C', d1, d2, d3⟩ := del_step hD hL
            ((conv => whnf); repeat' (first | (refine if_yes (by first | omega | rfl | assumption | exact ⟨rfl, rfl⟩ | exact ⟨rfl, rfl, rfl⟩ | exact ⟨rfl, rfl, rfl, rfl⟩) ?_; conv => whnf) | (refine if_no (by first | omega | assumption | exact fun h => h rfl | exact fun h => h (by assumption) | exact fun h => h ⟨rfl, rfl⟩ | exact fun h => h ⟨rfl, rfl, rfl⟩ | exact fun h => h ⟨rfl, rfl, rfl, rfl⟩) ?_; conv => whnf) | (refine i64_is (by omega) ?_; conv => whnf) | (refine at_is rfl (by assumption) ?_; conv => whnf) | (refine most_ok (by (try simp only [List.length_append, List.length_map, List.length_cons, List.length_nil]); omega) ?_; conv => whnf) | (refine rem_ok (by first | decide | omega) ?_; conv => whnf) | (refine if_both (fun _ => ?_) (fun _ => ?_) <;> conv => whnf)))
            refine call_turn rfl rfl (deliver_at D 0 0 L rfl hL (by omega)) ?_; rintro y r ⟨rfl, rfl⟩
            ((conv => whnf); repeat' (first | (refine if_yes (by first | omega | rfl | assumption | exact ⟨rfl, rfl⟩ | exact ⟨rfl, rfl, rfl⟩ | exact ⟨rfl, rfl, rfl, rfl⟩) ?_; conv => whnf) | (refine if_no (by first | omega | assumption | exact fun h => h rfl | exact fun h => h (by assumption) | exact fun h => h ⟨rfl, rfl⟩ | exact fun h => h ⟨rfl, rfl, rfl⟩ | exact fun h => h ⟨rfl, rfl, rfl, rfl⟩) ?_; conv => whnf) | (refine i64_is (by omega) ?_; conv => whnf) | (refine at_is rfl (by assumption) ?_; conv => whnf) | (refine most_ok (by (try simp only [List.length_append, List.length_map, List.length_cons, List.length_nil]); omega) ?_; conv => whnf) | (refine rem_ok (by first | decide | omega) ?_; conv => whnf) | (refine if_both (fun _ => ?_) (fun _ => ?_) <;> conv => whnf)))
            exact ⟨(D.deliver 0 L, C'), ⟨d1, d3.trans hwD, by simp only []; omega⟩, ⟨rfl, rfl, rfl, rfl, trivial⟩, ⟨rfl, rfl, trivial⟩, by simp only []; omega⟩
          · ((conv => whnf); repeat' (first | (refine if_yes (by first | omega | rfl | assumption | exact ⟨rfl, rfl⟩ | exact ⟨rfl, rfl, rfl⟩ | exact ⟨rfl, rfl, rfl, rfl⟩) ?_; conv => whnf) | (refine if_no (by first | omega | assumption | exact fun h => h rfl | exact fun h => h (by assumption) | exact fun h => h ⟨rfl, rfl⟩ | exact fun h => h ⟨rfl, rfl, rfl⟩ | exact fun h => h ⟨rfl, rfl, rfl, rfl⟩) ?_; conv => whnf) | (refine i64_is (by omega) ?_; conv => whnf) | (refine at_is rfl (by assumption) ?_; conv => whnf) | (refine most_ok (by (try simp only [List.length_append, List.length_map, List.length_cons, List.length_nil]); omega) ?_; conv => whnf) | (refine rem_ok (by first | decide | omega) ?_; conv => whnf) | (refine if_both (fun _ => ?_) (fun _ => ?_) <;> conv => whnf)))
            have hD0 : D.flying = [] := List.eq_nil_of_length_eq_zero (by omega)
            clear hlD hfD hpos
            refine loop_inv (ι := Nat) (fun v => (v : Int) ≤ 1 + k)
              (fun v => [(20, .d (.int .i64 v)), (12, .own 51), (10, .own 50), (9, .d (.int .i64 (1 + k))), (8, .d (.bool false))])
              (fun _ => [(50, (netO A).own), (51, (netO D).own)]) (fun v => (1 + k - v).toNat) 0 (fun _ => rfl) (by omega) ⟨rfl, rfl, rfl, rfl, rfl, trivial⟩ ⟨rfl, rfl, trivial⟩ ?_
            intro v hv
            refine sxCode_sound c1_ok (G := [20]) (pl := pl4) _ _ _ _ (by kernel_rfl) ?_
            have hcA : A.came.length ≤ 4294967296 := by have := hA.le; rw [hA.came, List.length_map]; omega
            have hcD : D.came.length ≤ 4294967296 := by have := hD.le; rw [hD.came, List.length_map]; omega
            by_cases hvk : (v : Int) < 1 + k
            · ((conv => whnf); repeat' (first | (refine if_yes (by first | omega | rfl | assumption | exact ⟨rfl, rfl⟩ | exact ⟨rfl, rfl, rfl⟩ | exact ⟨rfl, rfl, rfl, rfl⟩) ?_; conv => whnf) | (refine if_no (by first | omega | assumption | exact fun h => h rfl | exact fun h => h (by assumption) | exact fun h => h ⟨rfl, rfl⟩ | exact fun h => h ⟨rfl, rfl, rfl⟩ | exact fun h => h ⟨rfl, rfl, rfl, rfl⟩) ?_; conv => whnf) | (refine i64_is (by omega) ?_; conv => whnf) | (refine at_is rfl (by assumption) ?_; conv => whnf) | (refine most_ok (by (try simp only [List.length_append, List.length_map, List.length_cons, List.length_nil]); omega) ?_; conv => whnf) | (refine rem_ok (by first | decide | omega) ?_; conv => whnf) | (refine if_both (fun _ => ?_) (fun _ => ?_) <;> conv => whnf)))
              refine call_look (r := netO A) rfl rfl (inbox_obj A v hcA) ?_; rintro y ⟨out, rfl, hp, hs⟩
              have hb := hA.box hA0 hp hs
              ((conv => whnf); repeat' (first | (refine if_yes (by first | omega | rfl | assumption | exact ⟨rfl, rfl⟩ | exact ⟨rfl, rfl, rfl⟩ | exact ⟨rfl, rfl, rfl, rfl⟩) ?_; conv => whnf) | (refine if_no (by first | omega | assumption | exact fun h => h rfl | exact fun h => h (by assumption) | exact fun h => h ⟨rfl, rfl⟩ | exact fun h => h ⟨rfl, rfl, rfl⟩ | exact fun h => h ⟨rfl, rfl, rfl, rfl⟩) ?_; conv => whnf) | (refine i64_is (by omega) ?_; conv => whnf) | (refine at_is rfl (by assumption) ?_; conv => whnf) | (refine most_ok (by (try simp only [List.length_append, List.length_map, List.length_cons, List.length_nil]); omega) ?_; conv => whnf) | (refine rem_ok (by first | decide | omega) ?_; conv => whnf) | (refine if_both (fun _ => ?_) (fun _ => ?_) <;> conv => whnf)))
              refine call_look (r := netO D) rfl rfl (inbox_obj D v hcD) ?_; rintro y ⟨out2, rfl, hp2, hs2⟩
              have hb2 := hD.box hD0 hp2 hs2
              obtain rfl := hb.eq hT.num hb2
              ((conv => whnf); repeat' (first | (refine if_yes (by first | omega | rfl | assumption | exact ⟨rfl, rfl⟩ | exact ⟨rfl, rfl, rfl⟩ | exact ⟨rfl, rfl, rfl, rfl⟩) ?_; conv => whnf) | (refine if_no (by first | omega | assumption | exact fun h => h rfl | exact fun h => h (by assumption) | exact fun h => h ⟨rfl, rfl⟩ | exact fun h => h ⟨rfl, rfl, rfl⟩ | exact fun h => h ⟨rfl, rfl, rfl, rfl⟩) ?_; conv => whnf) | (refine i64_is (by omega) ?_; conv => whnf) | (refine at_is rfl (by assumption) ?_; conv => whnf) | (refine most_ok (by (try simp only [List.length_append, List.length_map, List.length_cons, List.length_nil]); omega) ?_; conv => whnf) | (refine rem_ok (by first | decide | omega) ?_; conv => whnf) | (refine if_both (fun _ => ?_) (fun _ => ?_) <;> conv => whnf)))
              have hlo : (out.map dL).length = out.length := List.length_map _
              have hou : out.length ≤ 60 := Nat.le_trans (nodup_le hb.nodup (fun x hx => ((hb.mem x).1 hx).1)) hS60
              refine loop_inv (ι := Nat) (fun i => i ≤ out.length)
                (fun i => [(23, .d (.int .i64 i)), (22, .d (.list 4 (out.map dL))), (21, .d (.list 4 (out.map dL))), (20, .d (.int .i64 v)), (12, .own 51), (10, .own 50), (9, .d (.int .i64 (1 + k))), (8, .d (.bool false))])
                (fun _ => [(50, (netO A).own), (51, (netO D).own)]) (fun i => out.length - i) 0 (fun _ => rfl) (Nat.zero_le _) ⟨rfl, rfl, rfl, rfl, rfl, rfl, rfl, rfl, trivial⟩ ⟨rfl, rfl, trivial⟩ ?_
              intro i hi
              refine sxCode_sound c1_ok (G := [20]) (pl := pl4) _ _ _ _ (by kernel_rfl) ?_
              by_cases hlt : i < out.length
              · have hx := List.getElem?_eq_getElem hlt
                generalize out[i] = x at hx
                rcases Nat.eq_zero_or_pos i with h0 | hpos
                · subst h0
                  ((conv => whnf); repeat' (first | (refine if_yes (by first | omega | rfl | assumption | exact ⟨rfl, rfl⟩ | exact ⟨rfl, rfl, rfl⟩ | exact ⟨rfl, rfl, rfl, rfl⟩) ?_; conv => whnf) | (refine if_no (by first | omega | assumption | exact fun h => h rfl | exact fun h => h (by assumption) | exact fun h => h ⟨rfl, rfl⟩ | exact fun h => h ⟨rfl, rfl, rfl⟩ | exact fun h => h ⟨rfl, rfl, rfl, rfl⟩) ?_; conv => whnf) | (refine i64_is (by omega) ?_; conv => whnf) | (refine at_is rfl (by assumption) ?_; conv => whnf) | (refine most_ok (by (try simp only [List.length_append, List.length_map, List.length_cons, List.length_nil]); omega) ?_; conv => whnf) | (refine rem_ok (by first | decide | omega) ?_; conv => whnf) | (refine if_both (fun _ => ?_) (fun _ => ?_) <;> conv => whnf)))
                  exact ⟨0 + 1, hlt, ⟨rfl, rfl, rfl, rfl, rfl, rfl, rfl, rfl, trivial⟩, ⟨rfl, rfl, trivial⟩, by omega⟩
                · obtain ⟨j, rfl⟩ : ∃ j, i = j + 1 := ⟨i - 1, by omega⟩
                  have hjl : j < out.length := by omega
                  have hy := List.getElem?_eq_getElem hjl
                  generalize out[j] = p at hy
                  have hnx : x.src = p.src → x.seq = p.seq + 1 := hb.next hT.num hy hx
                  have hps := hT.num.lt p ((hb.mem p).1 (List.mem_of_getElem? hy)).1
                  have hcnt : nth S p.src p.dst ≤ S.length := List.countP_le_length
                  by_cases hsrc : x.src = p.src
                  · have hseq := hnx hsrc
                    ((conv => whnf))
                    (repeat' (first | (refine at_as hx (by omega) ?_; conv => whnf) | (refine at_as hy (by omega) ?_; conv => whnf) | (refine if_yes (by first | omega | rfl | assumption | exact ⟨rfl, rfl⟩ | exact ⟨rfl, rfl, rfl⟩ | exact ⟨rfl, rfl, rfl, rfl⟩) ?_; conv => whnf) | (refine if_no (by first | omega | assumption | exact fun h => h rfl | exact fun h => h (by assumption) | exact fun h => h ⟨rfl, rfl⟩ | exact fun h => h ⟨rfl, rfl, rfl⟩ | exact fun h => h ⟨rfl, rfl, rfl, rfl⟩) ?_; conv => whnf) | (refine i64_is (by omega) ?_; conv => whnf) | (refine at_is rfl (by assumption) ?_; conv => whnf) | (refine most_ok (by (try simp only [List.length_append, List.length_map, List.length_cons, List.length_nil]); omega) ?_; conv => whnf) | (refine rem_ok (by first | decide | omega) ?_; conv => whnf) | (refine if_both (fun _ => ?_) (fun _ => ?_) <;> conv => whnf)))
                    ((conv => whnf); repeat' (first | (refine if_yes (by first | omega | rfl | assumption | exact ⟨rfl, rfl⟩ | exact ⟨rfl, rfl, rfl⟩ | exact ⟨rfl, rfl, rfl, rfl⟩) ?_; conv => whnf) | (refine if_no (by first | omega | assumption | exact fun h => h rfl | exact fun h => h (by assumption) | exact fun h => h ⟨rfl, rfl⟩ | exact fun h => h ⟨rfl, rfl, rfl⟩ | exact fun h => h ⟨rfl, rfl, rfl, rfl⟩) ?_; conv => whnf) | (refine i64_is (by omega) ?_; conv => whnf) | (refine at_is rfl (by assumption) ?_; conv => whnf) | (refine most_ok (by (try simp only [List.length_append, List.length_map, List.length_cons, List.length_nil]); omega) ?_; conv => whnf) | (refine rem_ok (by first | decide | omega) ?_; conv => whnf) | (refine if_both (fun _ => ?_) (fun _ => ?_) <;> conv => whnf)))
                    all_goals exact ⟨j + 1 + 1, hlt, ⟨rfl, rfl, rfl, rfl, rfl, rfl, rfl, rfl, trivial⟩, ⟨rfl, rfl, trivial⟩, by omega⟩
                  · ((conv => whnf))
                    (repeat' (first | (refine at_as hx (by omega) ?_; conv => whnf) | (refine at_as hy (by omega) ?_; conv => whnf) | (refine if_yes (by first | omega | rfl | assumption | exact ⟨rfl, rfl⟩ | exact ⟨rfl, rfl, rfl⟩ | exact ⟨rfl, rfl, rfl, rfl⟩) ?_; conv => whnf) | (refine if_no (by first | omega | assumption | exact fun h => h rfl | exact fun h => h (by assumption) | exact fun h => h ⟨rfl, rfl⟩ | exact fun h => h ⟨rfl, rfl, rfl⟩ | exact fun h => h ⟨rfl, rfl, rfl, rfl⟩) ?_; conv => whnf) | (refine i64_is (by omega) ?_; conv => whnf) | (refine at_is rfl (by assumption) ?_; conv => whnf) | (refine most_ok (by (try simp only [List.length_append, List.length_map, List.length_cons, List.length_nil]); omega) ?_; conv => whnf) | (refine rem_ok (by first | decide | omega) ?_; conv => whnf) | (refine if_both (fun _ => ?_) (fun _ => ?_) <;> conv => whnf)))
                    ((conv => whnf); repeat' (first | (refine if_yes (by first | omega | rfl | assumption | exact ⟨rfl, rfl⟩ | exact ⟨rfl, rfl, rfl⟩ | exact ⟨rfl, rfl, rfl, rfl⟩) ?_; conv => whnf) | (refine if_no (by first | omega | assumption | exact fun h => h rfl | exact fun h => h (by assumption) | exact fun h => h ⟨rfl, rfl⟩ | exact fun h => h ⟨rfl, rfl, rfl⟩ | exact fun h => h ⟨rfl, rfl, rfl, rfl⟩) ?_; conv => whnf) | (refine i64_is (by omega) ?_; conv => whnf) | (refine at_is rfl (by assumption) ?_; conv => whnf) | (refine most_ok (by (try simp only [List.length_append, List.length_map, List.length_cons, List.length_nil]); omega) ?_; conv => whnf) | (refine rem_ok (by first | decide | omega) ?_; conv => whnf) | (refine if_both (fun _ => ?_) (fun _ => ?_) <;> conv => whnf)))
                    all_goals exact ⟨j + 1 + 1, hlt, ⟨rfl, rfl, rfl, rfl, rfl, rfl, rfl, rfl, trivial⟩, ⟨rfl, rfl, trivial⟩, by omega⟩
              · ((conv => whnf); repeat' (first | (refine if_yes (by first | omega | rfl | assumption | exact ⟨rfl, rfl⟩ | exact ⟨rfl, rfl, rfl⟩ | exact ⟨rfl, rfl, rfl, rfl⟩) ?_; conv => whnf) | (refine if_no (by first | omega | assumption | exact fun h => h rfl | exact fun h => h (by assumption) | exact fun h => h ⟨rfl, rfl⟩ | exact fun h => h ⟨rfl, rfl, rfl⟩ | exact fun h => h ⟨rfl, rfl, rfl, rfl⟩) ?_; conv => whnf) | (refine i64_is (by omega) ?_; conv => whnf) | (refine at_is rfl (by assumption) ?_; conv => whnf) | (refine most_ok (by (try simp only [List.length_append, List.length_map, List.length_cons, List.length_nil]); omega) ?_; conv => whnf) | (refine rem_ok (by first | decide | omega) ?_; conv => whnf) | (refine if_both (fun _ => ?_) (fun _ => ?_) <;> conv => whnf)))
                exact ⟨v + 1, by omega, ⟨rfl, rfl, rfl, rfl, rfl, trivial⟩, ⟨rfl, rfl, trivial⟩, by omega⟩
            · ((conv => whnf); repeat' (first | (refine if_yes (by first | omega | rfl | assumption | exact ⟨rfl, rfl⟩ | exact ⟨rfl, rfl, rfl⟩ | exact ⟨rfl, rfl, rfl, rfl⟩) ?_; conv => whnf) | (refine if_no (by first | omega | assumption | exact fun h => h rfl | exact fun h => h (by assumption) | exact fun h => h ⟨rfl, rfl⟩ | exact fun h => h ⟨rfl, rfl, rfl⟩ | exact fun h => h ⟨rfl, rfl, rfl, rfl⟩) ?_; conv => whnf) | (refine i64_is (by omega) ?_; conv => whnf) | (refine at_is rfl (by assumption) ?_; conv => whnf) | (refine most_ok (by (try simp only [List.length_append, List.length_map, List.length_cons, List.length_nil]); omega) ?_; conv => whnf) | (refine rem_ok (by first | decide | omega) ?_; conv => whnf) | (refine if_both (fun _ => ?_) (fun _ => ?_) <;> conv => whnf)))
              refine call_look (r := netO A) rfl rfl (quiet_obj A (hA.ok (B := 60) (by rw [hA0]; simp) hS60) (by omega)) ?_; rintro y rfl
              have q1 : (M A == 0) = true := by
                have h1 := hA.M; have h2 := hA.quiet hA0
                simp [h1, h2]
              rw [q1]
              ((conv => whnf); repeat' (first | (refine if_yes (by first | omega | rfl | assumption | exact ⟨rfl, rfl⟩ | exact ⟨rfl, rfl, rfl⟩ | exact ⟨rfl, rfl, rfl, rfl⟩) ?_; conv => whnf) | (refine if_no (by first | omega | assumption | exact fun h => h rfl | exact fun h => h (by assumption) | exact fun h => h ⟨rfl, rfl⟩ | exact fun h => h ⟨rfl, rfl, rfl⟩ | exact fun h => h ⟨rfl, rfl, rfl, rfl⟩) ?_; conv => whnf) | (refine i64_is (by omega) ?_; conv => whnf) | (refine at_is rfl (by assumption) ?_; conv => whnf) | (refine most_ok (by (try simp only [List.length_append, List.length_map, List.length_cons, List.length_nil]); omega) ?_; conv => whnf) | (refine rem_ok (by first | decide | omega) ?_; conv => whnf) | (refine if_both (fun _ => ?_) (fun _ => ?_) <;> conv => whnf)))
              refine call_look (r := netO D) rfl rfl (quiet_obj D (hD.ok (B := 60) (by rw [hD0]; simp) hS60) (by omega)) ?_; rintro y rfl
              have q2 : (M D == 0) = true := by
                have h1 := hD.M; have h2 := hD.quiet hD0
                simp [h1, h2]
              rw [q2]
              ((conv => whnf); repeat' (first | (refine if_yes (by first | omega | rfl | assumption | exact ⟨rfl, rfl⟩ | exact ⟨rfl, rfl, rfl⟩ | exact ⟨rfl, rfl, rfl, rfl⟩) ?_; conv => whnf) | (refine if_no (by first | omega | assumption | exact fun h => h rfl | exact fun h => h (by assumption) | exact fun h => h ⟨rfl, rfl⟩ | exact fun h => h ⟨rfl, rfl, rfl⟩ | exact fun h => h ⟨rfl, rfl, rfl, rfl⟩) ?_; conv => whnf) | (refine i64_is (by omega) ?_; conv => whnf) | (refine at_is rfl (by assumption) ?_; conv => whnf) | (refine most_ok (by (try simp only [List.length_append, List.length_map, List.length_cons, List.length_nil]); omega) ?_; conv => whnf) | (refine rem_ok (by first | decide | omega) ?_; conv => whnf) | (refine if_both (fun _ => ?_) (fun _ => ?_) <;> conv => whnf)))
              exact rfl
end Go.Proofs.YtlpjdngjmknniaaDoor
