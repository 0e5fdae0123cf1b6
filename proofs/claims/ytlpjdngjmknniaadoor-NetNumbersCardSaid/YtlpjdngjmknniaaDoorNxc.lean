/- NetNumbers: the walk, by the engine. -/
import Derived.Test.YtlpjdngjmknniaaDoorNxb
import Derived.Test.YtlpjdngjmknniaaDoorNto
namespace Go.Proofs.YtlpjdngjmknniaaDoor
open Go.Sx Go.RowKit Go.Reg

set_option maxRecDepth 100000
def pl5 : List (Nat × Plan) := [(20, .leaf [0, 1, 0, 1, 0, 0, 0, 1, 0, 1, 0, 0, 0, 0, 1, 0, 0, 1, 0, 0, 1, 0, 0, 1, 0, 0, 0, 0, 1, 0, 1, 0, 0] [0, 2, 1, 3, 4, 5, 6, 8, 7, 9, 10, 11, 12, 13, 15, 16, 19, 14, 17, 18, 20, 21, 22, 23, 24, 25, 26, 27, 29, 28, 30, 31, 32] [0, 1, 0, 4, 15, 31, 63, 127, 63, 319, 1023, 2047, 4095, 8191, 16383, 8191, 8191, 73727, 204799, 8191, 532479, 2039807, 4169727, 8364031, 16777215, 33554431, 67108863, 134217727, 268435455, 134217727, 671088639, 2147483647, 4294967295]),
  (26, .leaf [0, 0, 0, 0, 0, 1, 0, 0, 1, 0, 1, 3] [0, 1, 2, 3, 4, 6, 7, 5, 8, 9, 10, 11] [0, 0, 2, 6, 15, 31, 0, 0, 128, 448, 960, 2047])]
theorem cok5 : codeOk Tryd.prog [] pl5 (Tryd.f5.body.getD .skip) = true := by kernel_rfl
theorem run5 (vs : Array Value) (w : World) : (callFunc 5 vs).run C1.P w = .ok (.enter 5 vs) w := by kernel_rfl
theorem numbers_pure (l : List ActM) : Pure C1 5 [.list 4 (l.map dA)] (fun y => y = .bool true) := by
  refine pure_of c1_ok (pl := pl5) (G := []) Tryd.func5 rfl Tryd.ntmps5 run5 cok5 (by simp) ?_
  have hl : (l.map dA).length = l.length := List.length_map _
  ((conv => whnf); repeat' (first | (refine if_yes (by first | omega | rfl | assumption | exact ⟨rfl, rfl⟩ | exact ⟨rfl, rfl, rfl⟩ | exact ⟨rfl, rfl, rfl, rfl⟩) ?_; conv => whnf) | (refine if_no (by first | omega | assumption | exact fun h => h rfl | exact fun h => h (by assumption) | exact fun h => h ⟨rfl, rfl⟩ | exact fun h => h ⟨rfl, rfl, rfl⟩ | exact fun h => h ⟨rfl, rfl, rfl, rfl⟩) ?_; conv => whnf) | (refine i64_is (by omega) ?_; conv => whnf) | (refine at_is rfl (by assumption) ?_; conv => whnf) | (refine most_ok (by (try simp only [List.length_append, List.length_map, List.length_cons, List.length_nil]); omega) ?_; conv => whnf) | (refine if_both (fun _ => ?_) (fun _ => ?_) <;> conv => whnf)))
  refine call_pure rfl alive_pure ?_; rintro y rfl; ((conv => whnf); repeat' (first | (refine if_yes (by first | omega | rfl | assumption | exact ⟨rfl, rfl⟩ | exact ⟨rfl, rfl, rfl⟩ | exact ⟨rfl, rfl, rfl, rfl⟩) ?_; conv => whnf) | (refine if_no (by first | omega | assumption | exact fun h => h rfl | exact fun h => h (by assumption) | exact fun h => h ⟨rfl, rfl⟩ | exact fun h => h ⟨rfl, rfl, rfl⟩ | exact fun h => h ⟨rfl, rfl, rfl, rfl⟩) ?_; conv => whnf) | (refine i64_is (by omega) ?_; conv => whnf) | (refine at_is rfl (by assumption) ?_; conv => whnf) | (refine most_ok (by (try simp only [List.length_append, List.length_map, List.length_cons, List.length_nil]); omega) ?_; conv => whnf) | (refine if_both (fun _ => ?_) (fun _ => ?_) <;> conv => whnf)))
  refine call_pure rfl (far_pure l) ?_; rintro y rfl
  cases hfar : farM l with
  | true => ((conv => whnf); repeat' (first | (refine if_yes (by first | omega | rfl | assumption | exact ⟨rfl, rfl⟩ | exact ⟨rfl, rfl, rfl⟩ | exact ⟨rfl, rfl, rfl, rfl⟩) ?_; conv => whnf) | (refine if_no (by first | omega | assumption | exact fun h => h rfl | exact fun h => h (by assumption) | exact fun h => h ⟨rfl, rfl⟩ | exact fun h => h ⟨rfl, rfl, rfl⟩ | exact fun h => h ⟨rfl, rfl, rfl, rfl⟩) ?_; conv => whnf) | (refine i64_is (by omega) ?_; conv => whnf) | (refine at_is rfl (by assumption) ?_; conv => whnf) | (refine most_ok (by (try simp only [List.length_append, List.length_map, List.length_cons, List.length_nil]); omega) ?_; conv => whnf) | (refine if_both (fun _ => ?_) (fun _ => ?_) <;> conv => whnf))); exact rfl
  | false =>
    have hfar' := hfar
    simp only [farM, Bool.or_eq_false_iff, List.any_eq_false] at hfar'
    obtain ⟨hgood, hlen⟩ := hfar'
    replace hlen : l.length ≤ 60 := by simpa using hlen
    ((conv => whnf); repeat' (first | (refine if_yes (by first | omega | rfl | assumption | exact ⟨rfl, rfl⟩ | exact ⟨rfl, rfl, rfl⟩ | exact ⟨rfl, rfl, rfl, rfl⟩) ?_; conv => whnf) | (refine if_no (by first | omega | assumption | exact fun h => h rfl | exact fun h => h (by assumption) | exact fun h => h ⟨rfl, rfl⟩ | exact fun h => h ⟨rfl, rfl, rfl⟩ | exact fun h => h ⟨rfl, rfl, rfl, rfl⟩) ?_; conv => whnf) | (refine i64_is (by omega) ?_; conv => whnf) | (refine at_is rfl (by assumption) ?_; conv => whnf) | (refine most_ok (by (try simp only [List.length_append, List.length_map, List.length_cons, List.length_nil]); omega) ?_; conv => whnf) | (refine if_both (fun _ => ?_) (fun _ => ?_) <;> conv => whnf)))
    refine call_make 50 rfl rfl (new_obj 4 (by decide) (by decide)) ?_; rintro r y ⟨rfl, rfl⟩; ((conv => whnf); repeat' (first | (refine if_yes (by first | omega | rfl | assumption | exact ⟨rfl, rfl⟩ | exact ⟨rfl, rfl, rfl⟩ | exact ⟨rfl, rfl, rfl, rfl⟩) ?_; conv => whnf) | (refine if_no (by first | omega | assumption | exact fun h => h rfl | exact fun h => h (by assumption) | exact fun h => h ⟨rfl, rfl⟩ | exact fun h => h ⟨rfl, rfl, rfl⟩ | exact fun h => h ⟨rfl, rfl, rfl, rfl⟩) ?_; conv => whnf) | (refine i64_is (by omega) ?_; conv => whnf) | (refine at_is rfl (by assumption) ?_; conv => whnf) | (refine most_ok (by (try simp only [List.length_append, List.length_map, List.length_cons, List.length_nil]); omega) ?_; conv => whnf) | (refine if_both (fun _ => ?_) (fun _ => ?_) <;> conv => whnf)))
    refine ⟨16, rfl, rfl, by decide, ?_⟩
    ((conv => whnf); repeat' (first | (refine if_yes (by first | omega | rfl | assumption | exact ⟨rfl, rfl⟩ | exact ⟨rfl, rfl, rfl⟩ | exact ⟨rfl, rfl, rfl, rfl⟩) ?_; conv => whnf) | (refine if_no (by first | omega | assumption | exact fun h => h rfl | exact fun h => h (by assumption) | exact fun h => h ⟨rfl, rfl⟩ | exact fun h => h ⟨rfl, rfl, rfl⟩ | exact fun h => h ⟨rfl, rfl, rfl, rfl⟩) ?_; conv => whnf) | (refine i64_is (by omega) ?_; conv => whnf) | (refine at_is rfl (by assumption) ?_; conv => whnf) | (refine most_ok (by (try simp only [List.length_append, List.length_map, List.length_cons, List.length_nil]); omega) ?_; conv => whnf) | (refine if_both (fun _ => ?_) (fun _ => ?_) <;> conv => whnf)))
    refine loop_inv (ι := Nat × NetM × List Letter × List Letter) (fun s => s.1 ≤ l.length ∧ Told s.2.1 s.2.2.1 s.2.2.2 ∧ s.2.1.workers = 4 ∧ NetOk s.1 s.2.1)
      (fun s => [(8, .d (.int .i64 s.1)), (7, .d (.int .i64 s.2.2.1.length)), (6, .d (.int .i64 s.2.1.flying.length)), (5, .own 21), (3, .own 50), (2, .d (.bool false)), (0, .d (.list 4 (l.map dA)))])
      (fun s => [(21, .slice 3 1 (wayTab s.2.2.1)), (50, (netO s.2.1).own)]) (fun s => l.length - s.1) (0, ⟨4, [], 0, [], []⟩, [], []) (fun _ => rfl) ⟨Nat.zero_le _, Told.new 4, rfl, NetOk.new 4⟩ ⟨rfl, rfl, rfl, rfl, rfl, rfl, rfl, trivial⟩ ⟨rfl, rfl, trivial⟩ ?_
    rintro ⟨i, N, S, C⟩ ⟨hi, hT, hw, hok⟩
    dsimp only at hi hT hw hok ⊢
    refine sxCode_sound c1_ok (G := []) (pl := pl5) _ _ _ _ (by kernel_rfl) ?_
    by_cases hlt : i < l.length
    · have hx := List.getElem?_eq_getElem hlt
      generalize l[i] = x at hx
      have hgx : bad x = false := by simpa using hgood x (List.mem_of_getElem? hx)
      have hmem := hok.act x
      have hTa := hT.act x
      ((conv => whnf); repeat' (first | (refine if_yes (by first | omega | rfl | assumption | exact ⟨rfl, rfl⟩ | exact ⟨rfl, rfl, rfl⟩ | exact ⟨rfl, rfl, rfl, rfl⟩) ?_; conv => whnf) | (refine if_no (by first | omega | assumption | exact fun h => h rfl | exact fun h => h (by assumption) | exact fun h => h ⟨rfl, rfl⟩ | exact fun h => h ⟨rfl, rfl, rfl⟩ | exact fun h => h ⟨rfl, rfl, rfl, rfl⟩) ?_; conv => whnf) | (refine i64_is (by omega) ?_; conv => whnf) | (refine at_is rfl (by assumption) ?_; conv => whnf) | (refine most_ok (by (try simp only [List.length_append, List.length_map, List.length_cons, List.length_nil]); omega) ?_; conv => whnf) | (refine if_both (fun _ => ?_) (fun _ => ?_) <;> conv => whnf)))
      refine call_turn rfl rfl (do_obj N x hok (by omega)) ?_; rintro y r ⟨rfl, rfl⟩
      rcases num_cases (N := N) hgx with e | ⟨hk, a, b, ha, hb, hA, hB, e⟩ | ⟨hk, k, L, ha, hL, e⟩ | ⟨hk, k, L, ha, hL, e⟩
      · rw [e] at hmem
        rw [e]
        ((conv => whnf); repeat' (first | (refine if_yes (by first | omega | rfl | assumption | exact ⟨rfl, rfl⟩ | exact ⟨rfl, rfl, rfl⟩ | exact ⟨rfl, rfl, rfl, rfl⟩) ?_; conv => whnf) | (refine if_no (by first | omega | assumption | exact fun h => h rfl | exact fun h => h (by assumption) | exact fun h => h ⟨rfl, rfl⟩ | exact fun h => h ⟨rfl, rfl, rfl⟩ | exact fun h => h ⟨rfl, rfl, rfl, rfl⟩) ?_; conv => whnf) | (refine i64_is (by omega) ?_; conv => whnf) | (refine at_is rfl (by assumption) ?_; conv => whnf) | (refine most_ok (by (try simp only [List.length_append, List.length_map, List.length_cons, List.length_nil]); omega) ?_; conv => whnf) | (refine if_both (fun _ => ?_) (fun _ => ?_) <;> conv => whnf)))
        exact ⟨(i + 1, N, S, C), ⟨hlt, hT, hw, hmem⟩, ⟨rfl, rfl, rfl, rfl, rfl, rfl, rfl, trivial⟩, ⟨rfl, rfl, trivial⟩, by simp; omega⟩
      · obtain ⟨N', hN'⟩ : ∃ N', N' = N.send a b x.text := ⟨_, rfl⟩
        obtain ⟨L, hL⟩ : ∃ L : Letter, L = ⟨a, b, N.next a b, x.text⟩ := ⟨_, rfl⟩
        have hL1 : L.src = a := by rw [hL]
        have hL2 : L.dst = b := by rw [hL]
        have hL3 : L.seq = N.next a b := by rw [hL]
        have hL4 : L.text = x.text := by rw [hL]
        rw [← hN'] at e
        rw [e] at hmem hTa
        rw [e]
        have hfl : N'.flying = N.flying ++ [L] := by rw [hN']; first | rfl | (rw [hL]; rfl)
        have hw' : N'.workers = 4 := by rw [hN']; exact hw
        have hF : LookObj C1 20 (netO N') [] (fun y => y = .list 4 ((N.flying ++ [L]).map dL)) := by rw [← hfl]; exact flying_obj N' (Nat.le_trans hmem.fly (by omega))
        have hlF : ((N.flying ++ [L]).map dL).length = N.flying.length + 1 := by simp
        have hfly : N'.flying.length = N.flying.length + 1 := by rw [hfl]; simp
        have hq0 : N'.flying.length ≤ i + 1 := hmem.fly
        ((conv => whnf); repeat' (first | (refine if_yes (by first | omega | rfl | assumption | exact ⟨rfl, rfl⟩ | exact ⟨rfl, rfl, rfl⟩ | exact ⟨rfl, rfl, rfl, rfl⟩) ?_; conv => whnf) | (refine if_no (by first | omega | assumption | exact fun h => h rfl | exact fun h => h (by assumption) | exact fun h => h ⟨rfl, rfl⟩ | exact fun h => h ⟨rfl, rfl, rfl⟩ | exact fun h => h ⟨rfl, rfl, rfl, rfl⟩) ?_; conv => whnf) | (refine i64_is (by omega) ?_; conv => whnf) | (refine at_is rfl (by assumption) ?_; conv => whnf) | (refine most_ok (by (try simp only [List.length_append, List.length_map, List.length_cons, List.length_nil]); omega) ?_; conv => whnf) | (refine if_both (fun _ => ?_) (fun _ => ?_) <;> conv => whnf)))
        refine call_look (r := netO N') rfl rfl hF ?_; rintro y rfl
        ((conv => whnf); repeat' (first | (refine if_yes (by first | omega | rfl | assumption | exact ⟨rfl, rfl⟩ | exact ⟨rfl, rfl, rfl⟩ | exact ⟨rfl, rfl, rfl, rfl⟩) ?_; conv => whnf) | (refine if_no (by first | omega | assumption | exact fun h => h rfl | exact fun h => h (by assumption) | exact fun h => h ⟨rfl, rfl⟩ | exact fun h => h ⟨rfl, rfl, rfl⟩ | exact fun h => h ⟨rfl, rfl, rfl, rfl⟩) ?_; conv => whnf) | (refine i64_is (by omega) ?_; conv => whnf) | (refine at_is rfl (by assumption) ?_; conv => whnf) | (refine most_ok (by (try simp only [List.length_append, List.length_map, List.length_cons, List.length_nil]); omega) ?_; conv => whnf) | (refine if_both (fun _ => ?_) (fun _ => ?_) <;> conv => whnf)))
        have hLx : (N.flying ++ [L])[N.flying.length]? = some L := by simp
        have hnx := hT.next a b
        have htk : wayTab S ≠ [] := by simp [wayTab]
        have hk16 : 4 * a + b < 16 := by omega
        have htab := tab_at S hk16
        rw [show (4 * a + b) / 4 = a by omega, show (4 * a + b) % 4 = b by omega] at htab
        have htl : (wayTab S).length = 16 := by simp [wayTab]
        have hnm : nth S a b ≤ S.length := List.countP_le_length
        have hSl : S.length ≤ i := by have := hT.all; have := hok.all; omega
        have hS' : toldAct N S C x = (S ++ [⟨a, b, nth S a b, x.text⟩], C) := by unfold toldAct; rw [if_pos hk, ha, hb, if_pos ⟨by omega, by omega, by omega, by omega⟩]
        rw [hS'] at hTa
        have hMM : M N' = (S.length + 1 : Nat) - (C.length : Int) := by have := hTa.M; simpa using this
        have hle : C.length ≤ S.length + 1 := by have := hTa.le; simpa using this
        refine at_is (by omega) hLx ?_
        (conv => whnf)
        (repeat' (first | (refine if_yes (by first | omega | rfl | assumption | exact ⟨rfl, rfl⟩ | exact ⟨rfl, rfl, rfl⟩ | exact ⟨rfl, rfl, rfl, rfl⟩) ?_; conv => whnf) | (refine if_no (by first | omega | assumption | exact fun h => h rfl | exact fun h => h (by assumption) | exact fun h => h ⟨rfl, rfl⟩ | exact fun h => h ⟨rfl, rfl, rfl⟩ | exact fun h => h ⟨rfl, rfl, rfl, rfl⟩) ?_; conv => whnf) | (refine i64_is (by omega) ?_; conv => whnf) | (refine at_is rfl (by assumption) ?_; conv => whnf) | (refine most_ok (by (try simp only [List.length_append, List.length_map, List.length_cons, List.length_nil]); omega) ?_; conv => whnf) | (refine if_both (fun _ => ?_) (fun _ => ?_) <;> conv => whnf)))
        (repeat' (first | (refine el_at (i := 4 * a + b) (by omega) (by omega) ?_; conv => whnf) | (refine el_is htab ?_; conv => whnf) | (refine if_yes (by first | omega | rfl | assumption | exact ⟨rfl, rfl⟩ | exact ⟨rfl, rfl, rfl⟩ | exact ⟨rfl, rfl, rfl, rfl⟩) ?_; conv => whnf) | (refine if_no (by first | omega | assumption | exact fun h => h rfl | exact fun h => h (by assumption) | exact fun h => h ⟨rfl, rfl⟩ | exact fun h => h ⟨rfl, rfl, rfl⟩ | exact fun h => h ⟨rfl, rfl, rfl, rfl⟩) ?_; conv => whnf) | (refine i64_is (by omega) ?_; conv => whnf) | (refine at_is rfl (by assumption) ?_; conv => whnf) | (refine most_ok (by (try simp only [List.length_append, List.length_map, List.length_cons, List.length_nil]); omega) ?_; conv => whnf) | (refine if_both (fun _ => ?_) (fun _ => ?_) <;> conv => whnf)))
        refine call_look (r := netO N') rfl rfl (missing_obj N' hmem (by omega)) ?_; rintro y rfl
        ((conv => whnf); repeat' (first | (refine if_yes (by first | omega | rfl | assumption | exact ⟨rfl, rfl⟩ | exact ⟨rfl, rfl, rfl⟩ | exact ⟨rfl, rfl, rfl, rfl⟩) ?_; conv => whnf) | (refine if_no (by first | omega | assumption | exact fun h => h rfl | exact fun h => h (by assumption) | exact fun h => h ⟨rfl, rfl⟩ | exact fun h => h ⟨rfl, rfl, rfl⟩ | exact fun h => h ⟨rfl, rfl, rfl, rfl⟩) ?_; conv => whnf) | (refine i64_is (by omega) ?_; conv => whnf) | (refine at_is rfl (by assumption) ?_; conv => whnf) | (refine most_ok (by (try simp only [List.length_append, List.length_map, List.length_cons, List.length_nil]); omega) ?_; conv => whnf) | (refine if_both (fun _ => ?_) (fun _ => ?_) <;> conv => whnf)))
        refine call_look (r := netO N') rfl rfl (missing_obj N' hmem (by omega)) ?_; rintro y rfl
        ((conv => whnf); repeat' (first | (refine if_yes (by first | omega | rfl | assumption | exact ⟨rfl, rfl⟩ | exact ⟨rfl, rfl, rfl⟩ | exact ⟨rfl, rfl, rfl, rfl⟩) ?_; conv => whnf) | (refine if_no (by first | omega | assumption | exact fun h => h rfl | exact fun h => h (by assumption) | exact fun h => h ⟨rfl, rfl⟩ | exact fun h => h ⟨rfl, rfl, rfl⟩ | exact fun h => h ⟨rfl, rfl, rfl, rfl⟩) ?_; conv => whnf) | (refine i64_is (by omega) ?_; conv => whnf) | (refine at_is rfl (by assumption) ?_; conv => whnf) | (refine most_ok (by (try simp only [List.length_append, List.length_map, List.length_cons, List.length_nil]); omega) ?_; conv => whnf) | (refine if_both (fun _ => ?_) (fun _ => ?_) <;> conv => whnf)))
        refine ⟨(i + 1, N', S ++ [⟨a, b, nth S a b, x.text⟩], C), ⟨hlt, hTa, hw', hmem⟩, ⟨rfl, int_is (a := (S.length : Int) + 1) (by simp), int_is (a := (N.flying.length : Int) + 1) (by simp only []; omega), rfl, rfl, rfl, rfl, trivial⟩, ⟨slice_is (a := (wayTab S).set (4 * a + b) (.int .i64 ((nth S a b : Nat) + 1))) (tab_set S (by omega) (by omega) _ _), rfl, trivial⟩, by simp; omega⟩
      · obtain ⟨N', hN'⟩ : ∃ N', N' = N.double L := ⟨_, rfl⟩
        rw [← hN'] at e
        rw [e] at hmem hTa
        rw [e]
        have hfl : N'.flying = N.flying ++ [L] := by rw [hN']; first | rfl | (rw [hL]; rfl)
        have hw' : N'.workers = 4 := by rw [hN']; exact hw
        have hF : LookObj C1 20 (netO N') [] (fun y => y = .list 4 ((N.flying ++ [L]).map dL)) := by rw [← hfl]; exact flying_obj N' (Nat.le_trans hmem.fly (by omega))
        have hlF : ((N.flying ++ [L]).map dL).length = N.flying.length + 1 := by simp
        have hfly : N'.flying.length = N.flying.length + 1 := by rw [hfl]; simp
        have hq0 : N'.flying.length ≤ i + 1 := hmem.fly
        ((conv => whnf); repeat' (first | (refine if_yes (by first | omega | rfl | assumption | exact ⟨rfl, rfl⟩ | exact ⟨rfl, rfl, rfl⟩ | exact ⟨rfl, rfl, rfl, rfl⟩) ?_; conv => whnf) | (refine if_no (by first | omega | assumption | exact fun h => h rfl | exact fun h => h (by assumption) | exact fun h => h ⟨rfl, rfl⟩ | exact fun h => h ⟨rfl, rfl, rfl⟩ | exact fun h => h ⟨rfl, rfl, rfl, rfl⟩) ?_; conv => whnf) | (refine i64_is (by omega) ?_; conv => whnf) | (refine at_is rfl (by assumption) ?_; conv => whnf) | (refine most_ok (by (try simp only [List.length_append, List.length_map, List.length_cons, List.length_nil]); omega) ?_; conv => whnf) | (refine if_both (fun _ => ?_) (fun _ => ?_) <;> conv => whnf)))
        refine call_look (r := netO N') rfl rfl hF ?_; rintro y rfl
        ((conv => whnf); repeat' (first | (refine if_yes (by first | omega | rfl | assumption | exact ⟨rfl, rfl⟩ | exact ⟨rfl, rfl, rfl⟩ | exact ⟨rfl, rfl, rfl, rfl⟩) ?_; conv => whnf) | (refine if_no (by first | omega | assumption | exact fun h => h rfl | exact fun h => h (by assumption) | exact fun h => h ⟨rfl, rfl⟩ | exact fun h => h ⟨rfl, rfl, rfl⟩ | exact fun h => h ⟨rfl, rfl, rfl, rfl⟩) ?_; conv => whnf) | (refine i64_is (by omega) ?_; conv => whnf) | (refine at_is rfl (by assumption) ?_; conv => whnf) | (refine most_ok (by (try simp only [List.length_append, List.length_map, List.length_cons, List.length_nil]); omega) ?_; conv => whnf) | (refine if_both (fun _ => ?_) (fun _ => ?_) <;> conv => whnf)))
        have hLx : (N.flying ++ [L])[N.flying.length]? = some L := by simp
        have hkl := (List.getElem?_eq_some_iff.1 hL).1
        have hLk : (N.flying ++ [L])[k]? = some L := by rw [List.getElem?_append_left hkl]; exact hL
        have hSl : S.length ≤ i := by have := hT.all; have := hok.all; omega
        have hS' : toldAct N S C x = (S, C) := by unfold toldAct; rw [if_neg (by omega), ha]; simp only [NetM.pos, Int.toNat_natCast, hL, hk, if_true]; simp
        rw [hS'] at hTa
        have hMM : M N' = (S.length : Int) - (C.length : Int) := by have := hTa.M; simpa using this
        have hle : C.length ≤ S.length := by have := hTa.le; simpa using this
        refine at_is (by omega) hLx ?_
        (conv => whnf)
        refine at_as hLk (by omega) ?_
        ((conv => whnf); repeat' (first | (refine if_yes (by first | omega | rfl | assumption | exact ⟨rfl, rfl⟩ | exact ⟨rfl, rfl, rfl⟩ | exact ⟨rfl, rfl, rfl, rfl⟩) ?_; conv => whnf) | (refine if_no (by first | omega | assumption | exact fun h => h rfl | exact fun h => h (by assumption) | exact fun h => h ⟨rfl, rfl⟩ | exact fun h => h ⟨rfl, rfl, rfl⟩ | exact fun h => h ⟨rfl, rfl, rfl, rfl⟩) ?_; conv => whnf) | (refine i64_is (by omega) ?_; conv => whnf) | (refine at_is rfl (by assumption) ?_; conv => whnf) | (refine most_ok (by (try simp only [List.length_append, List.length_map, List.length_cons, List.length_nil]); omega) ?_; conv => whnf) | (refine if_both (fun _ => ?_) (fun _ => ?_) <;> conv => whnf)))
        refine call_look (r := netO N') rfl rfl (missing_obj N' hmem (by omega)) ?_; rintro y rfl
        ((conv => whnf); repeat' (first | (refine if_yes (by first | omega | rfl | assumption | exact ⟨rfl, rfl⟩ | exact ⟨rfl, rfl, rfl⟩ | exact ⟨rfl, rfl, rfl, rfl⟩) ?_; conv => whnf) | (refine if_no (by first | omega | assumption | exact fun h => h rfl | exact fun h => h (by assumption) | exact fun h => h ⟨rfl, rfl⟩ | exact fun h => h ⟨rfl, rfl, rfl⟩ | exact fun h => h ⟨rfl, rfl, rfl, rfl⟩) ?_; conv => whnf) | (refine i64_is (by omega) ?_; conv => whnf) | (refine at_is rfl (by assumption) ?_; conv => whnf) | (refine most_ok (by (try simp only [List.length_append, List.length_map, List.length_cons, List.length_nil]); omega) ?_; conv => whnf) | (refine if_both (fun _ => ?_) (fun _ => ?_) <;> conv => whnf)))
        refine call_look (r := netO N') rfl rfl (missing_obj N' hmem (by omega)) ?_; rintro y rfl
        ((conv => whnf); repeat' (first | (refine if_yes (by first | omega | rfl | assumption | exact ⟨rfl, rfl⟩ | exact ⟨rfl, rfl, rfl⟩ | exact ⟨rfl, rfl, rfl, rfl⟩) ?_; conv => whnf) | (refine if_no (by first | omega | assumption | exact fun h => h rfl | exact fun h => h (by assumption) | exact fun h => h ⟨rfl, rfl⟩ | exact fun h => h ⟨rfl, rfl, rfl⟩ | exact fun h => h ⟨rfl, rfl, rfl, rfl⟩) ?_; conv => whnf) | (refine i64_is (by omega) ?_; conv => whnf) | (refine at_is rfl (by assumption) ?_; conv => whnf) | (refine most_ok (by (try simp only [List.length_append, List.length_map, List.length_cons, List.length_nil]); omega) ?_; conv => whnf) | (refine if_both (fun _ => ?_) (fun _ => ?_) <;> conv => whnf)))
        exact ⟨(i + 1, N', S, C), ⟨hlt, hTa, hw', hmem⟩, ⟨rfl, rfl, int_is (a := (N.flying.length : Int) + 1) (by simp only []; omega), rfl, rfl, rfl, rfl, trivial⟩, ⟨rfl, rfl, trivial⟩, by simp; omega⟩
      · obtain ⟨N', hN'⟩ : ∃ N', N' = N.deliver k L := ⟨_, rfl⟩
        rw [← hN'] at e
        rw [e] at hmem hTa
        rw [e]
        have hkl := (List.getElem?_eq_some_iff.1 hL).1
        have hfl : N'.flying = N.flying.eraseIdx k := by rw [hN']; rfl
        have hw' : N'.workers = 4 := by rw [hN']; exact hw
        have hF : LookObj C1 20 (netO N') [] (fun y => y = .list 4 ((N.flying.eraseIdx k).map dL)) := by rw [← hfl]; exact flying_obj N' (Nat.le_trans hmem.fly (by omega))
        have hlF : ((N.flying.eraseIdx k).map dL).length = N.flying.length - 1 := by simp [List.length_eraseIdx, hkl]
        have hfly : N'.flying.length = N.flying.length - 1 := by rw [hfl]; simp [List.length_eraseIdx, hkl]
        have hq0 : N.flying.length ≤ i := hok.fly
        have hSl : S.length ≤ i := by have := hT.all; have := hok.all; omega
        have hS' : toldAct N S C x = (S, if L ∈ C then C else C ++ [L]) := by unfold toldAct; rw [if_neg (by omega), ha]; simp only [NetM.pos, Int.toNat_natCast, hL, hk]; simp
        rw [hS'] at hTa
        generalize (if L ∈ C then C else C ++ [L]) = C' at hTa
        have hMM : M N' = (S.length : Int) - (C'.length : Int) := by have := hTa.M; simpa using this
        have hle : C'.length ≤ S.length := by have := hTa.le; simpa using this
        have hqu : N'.flying.length = 0 → C'.length = S.length := fun h => by
          have h0 : N'.flying = [] := List.eq_nil_of_length_eq_zero h
          exact hTa.quiet h0
        ((conv => whnf); repeat' (first | (refine if_yes (by first | omega | rfl | assumption | exact ⟨rfl, rfl⟩ | exact ⟨rfl, rfl, rfl⟩ | exact ⟨rfl, rfl, rfl, rfl⟩) ?_; conv => whnf) | (refine if_no (by first | omega | assumption | exact fun h => h rfl | exact fun h => h (by assumption) | exact fun h => h ⟨rfl, rfl⟩ | exact fun h => h ⟨rfl, rfl, rfl⟩ | exact fun h => h ⟨rfl, rfl, rfl, rfl⟩) ?_; conv => whnf) | (refine i64_is (by omega) ?_; conv => whnf) | (refine at_is rfl (by assumption) ?_; conv => whnf) | (refine most_ok (by (try simp only [List.length_append, List.length_map, List.length_cons, List.length_nil]); omega) ?_; conv => whnf) | (refine if_both (fun _ => ?_) (fun _ => ?_) <;> conv => whnf)))
        refine call_look (r := netO N') rfl rfl hF ?_; rintro y rfl
        ((conv => whnf); repeat' (first | (refine if_yes (by first | omega | rfl | assumption | exact ⟨rfl, rfl⟩ | exact ⟨rfl, rfl, rfl⟩ | exact ⟨rfl, rfl, rfl, rfl⟩) ?_; conv => whnf) | (refine if_no (by first | omega | assumption | exact fun h => h rfl | exact fun h => h (by assumption) | exact fun h => h ⟨rfl, rfl⟩ | exact fun h => h ⟨rfl, rfl, rfl⟩ | exact fun h => h ⟨rfl, rfl, rfl, rfl⟩) ?_; conv => whnf) | (refine i64_is (by omega) ?_; conv => whnf) | (refine at_is rfl (by assumption) ?_; conv => whnf) | (refine most_ok (by (try simp only [List.length_append, List.length_map, List.length_cons, List.length_nil]); omega) ?_; conv => whnf) | (refine if_both (fun _ => ?_) (fun _ => ?_) <;> conv => whnf)))
        refine call_look (r := netO N') rfl rfl (missing_obj N' hmem (by omega)) ?_; rintro y rfl
        ((conv => whnf); repeat' (first | (refine if_yes (by first | omega | rfl | assumption | exact ⟨rfl, rfl⟩ | exact ⟨rfl, rfl, rfl⟩ | exact ⟨rfl, rfl, rfl, rfl⟩) ?_; conv => whnf) | (refine if_no (by first | omega | assumption | exact fun h => h rfl | exact fun h => h (by assumption) | exact fun h => h ⟨rfl, rfl⟩ | exact fun h => h ⟨rfl, rfl, rfl⟩ | exact fun h => h ⟨rfl, rfl, rfl, rfl⟩) ?_; conv => whnf) | (refine i64_is (by omega) ?_; conv => whnf) | (refine at_is rfl (by assumption) ?_; conv => whnf) | (refine most_ok (by (try simp only [List.length_append, List.length_map, List.length_cons, List.length_nil]); omega) ?_; conv => whnf) | (refine if_both (fun _ => ?_) (fun _ => ?_) <;> conv => whnf)))
        refine call_look (r := netO N') rfl rfl (missing_obj N' hmem (by omega)) ?_; rintro y rfl
        ((conv => whnf); repeat' (first | (refine if_yes (by first | omega | rfl | assumption | exact ⟨rfl, rfl⟩ | exact ⟨rfl, rfl, rfl⟩ | exact ⟨rfl, rfl, rfl, rfl⟩) ?_; conv => whnf) | (refine if_no (by first | omega | assumption | exact fun h => h rfl | exact fun h => h (by assumption) | exact fun h => h ⟨rfl, rfl⟩ | exact fun h => h ⟨rfl, rfl, rfl⟩ | exact fun h => h ⟨rfl, rfl, rfl, rfl⟩) ?_; conv => whnf) | (refine i64_is (by omega) ?_; conv => whnf) | (refine at_is rfl (by assumption) ?_; conv => whnf) | (refine most_ok (by (try simp only [List.length_append, List.length_map, List.length_cons, List.length_nil]); omega) ?_; conv => whnf) | (refine if_both (fun _ => ?_) (fun _ => ?_) <;> conv => whnf)))
        refine call_look (r := netO N') rfl rfl (quiet_obj N' hmem (by omega)) ?_; rintro y rfl
        have hq : (M N' == 0) = true := by
          have : C'.length = S.length := hqu (by omega)
          simp [hMM, this]
        rw [hq]
        ((conv => whnf); repeat' (first | (refine if_yes (by first | omega | rfl | assumption | exact ⟨rfl, rfl⟩ | exact ⟨rfl, rfl, rfl⟩ | exact ⟨rfl, rfl, rfl, rfl⟩) ?_; conv => whnf) | (refine if_no (by first | omega | assumption | exact fun h => h rfl | exact fun h => h (by assumption) | exact fun h => h ⟨rfl, rfl⟩ | exact fun h => h ⟨rfl, rfl, rfl⟩ | exact fun h => h ⟨rfl, rfl, rfl, rfl⟩) ?_; conv => whnf) | (refine i64_is (by omega) ?_; conv => whnf) | (refine at_is rfl (by assumption) ?_; conv => whnf) | (refine most_ok (by (try simp only [List.length_append, List.length_map, List.length_cons, List.length_nil]); omega) ?_; conv => whnf) | (refine if_both (fun _ => ?_) (fun _ => ?_) <;> conv => whnf)))
        all_goals exact ⟨(i + 1, N', S, C'), ⟨hlt, hTa, hw', hmem⟩, ⟨rfl, rfl, int_is (a := (N.flying.length : Int) - 1) (by simp only []; omega), rfl, rfl, rfl, rfl, trivial⟩, ⟨rfl, rfl, trivial⟩, by simp; omega⟩
    · ((conv => whnf); repeat' (first | (refine if_yes (by first | omega | rfl | assumption | exact ⟨rfl, rfl⟩ | exact ⟨rfl, rfl, rfl⟩ | exact ⟨rfl, rfl, rfl, rfl⟩) ?_; conv => whnf) | (refine if_no (by first | omega | assumption | exact fun h => h rfl | exact fun h => h (by assumption) | exact fun h => h ⟨rfl, rfl⟩ | exact fun h => h ⟨rfl, rfl, rfl⟩ | exact fun h => h ⟨rfl, rfl, rfl, rfl⟩) ?_; conv => whnf) | (refine i64_is (by omega) ?_; conv => whnf) | (refine at_is rfl (by assumption) ?_; conv => whnf) | (refine most_ok (by (try simp only [List.length_append, List.length_map, List.length_cons, List.length_nil]); omega) ?_; conv => whnf) | (refine if_both (fun _ => ?_) (fun _ => ?_) <;> conv => whnf)))
      exact rfl
end Go.Proofs.YtlpjdngjmknniaaDoor
