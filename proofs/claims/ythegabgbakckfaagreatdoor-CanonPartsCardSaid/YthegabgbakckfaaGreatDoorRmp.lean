/- ref06: Add. ref07: All. ref08: Turn, Compare. ref09: Maps, Orbit. -/
import Derived.Test.YthegabgbakckfaaGreatDoorExl
import Derived.Test.YthegabgbakckfaaGreatDoorOrb
namespace Go.Gr
open Go.Proofs.YthegabgbakckfaaGreatDoor Go.Sx
theorem put_spec {s : List Int} {n : Int} {k : Nat} (hs : s.Pairwise (· < ·)) (h1 : ∀ y ∈ s.take k, y < n) (h2 : ∀ y ∈ s.drop k, n < y) :
    ((s.take k ++ [n]) ++ s.drop k).Pairwise (· < ·) ∧ (∀ x, x ∈ (s.take k ++ [n]) ++ s.drop k ↔ x = n ∨ x ∈ s) ∧ ((s.take k ++ [n]) ++ s.drop k).length ≤ s.length + 1 := by
  refine ⟨?_, fun x => ?_, ?_⟩
  · rw [List.pairwise_append, List.pairwise_append]
    refine ⟨⟨hs.sublist (List.take_sublist _ _), by simp, fun a ha b hb => ?_⟩, hs.sublist (List.drop_sublist _ _), fun a ha b hb => ?_⟩
    · rw [List.mem_singleton] at hb; subst hb; exact h1 a ha
    · have := h2 b hb
      rcases List.mem_append.1 ha with ha | ha
      · have := h1 a ha; omega
      · rw [List.mem_singleton] at ha; omega
  · have : x ∈ s ↔ x ∈ s.take k ∨ x ∈ s.drop k := by rw [← List.mem_append, List.take_append_drop]
    rw [this]
    simp only [List.mem_append, List.mem_singleton]
    constructor
    · rintro ((h | h) | h)
      · exact .inr (.inl h)
      · exact .inl h
      · exact .inr (.inr h)
    · rintro (h | h | h)
      · exact .inl (.inr h)
      · exact .inl (.inl h)
      · exact .inr h
  · simp only [List.length_append, List.length_take, List.length_drop, List.length_singleton]; omega
theorem putL_zero (b l : List Int) : putL b l 0 = List.replicate l.length 0 := by simp [putL]
theorem key_len (p : Pt) : (keyP p).length = 2 + p.labels.length + 2 * p.edges.length := by
  unfold keyP
  have : ∀ E : List Edg, (E.flatMap fun e => [e.a, e.b]).length = 2 * E.length := fun E => by
    induction E with
    | nil => rfl
    | cons x E ih => rw [List.flatMap_cons, List.length_append, ih, List.length_cons]; simp; omega
  simp [this]; omega
theorem key_head (p : Pt) : (keyP p)[0]? = some (p.labels.length : Int) := rfl
theorem key_mid (p : Pt) : (keyP p)[1 + p.labels.length]? = some (p.edges.length : Int) := by
  unfold keyP
  rw [show 1 + p.labels.length = p.labels.length + 1 by omega, List.getElem?_cons_succ, List.getElem?_append_right (Nat.le_refl _), Nat.sub_self]; rfl
theorem key_pre {p q : Pt} {i : Nat} (h : (keyP p).take i = (keyP q).take i) (hi : (keyP p).length ≤ i ∨ (keyP q).length ≤ i) : keyP p = keyP q := by
  have hg : ∀ j, j < i → (keyP p)[j]? = (keyP q)[j]? := fun j hj => by
    have := congrArg (fun l => l[j]?) h
    simpa [List.getElem?_take, hj] using this
  have l1 := key_len p
  have l2 := key_len q
  have h0 := hg 0 (by omega)
  rw [key_head, key_head] at h0
  have hn : p.labels.length = q.labels.length := by injection h0 with e; omega
  have hm := hg (1 + p.labels.length) (by omega)
  rw [key_mid, hn, key_mid] at hm
  have hE : p.edges.length = q.edges.length := by injection hm with e; omega
  rwa [List.take_of_length_le (by omega), List.take_of_length_le (by omega)] at h
end Go.Gr
namespace Go.Proofs.YthegabgbakckfaaGreatDoor
open Go.Sx Go.RowKit Go.Reg Go.Gr

set_option maxRecDepth 100000
theorem upto_is {len i : Nat} {n : Int} {K : Nat → Prop} (hn : n = i) (hi : i ≤ len) (hK : K i) : ∃ m : Nat, n = m ∧ m ≤ len ∧ K m := ⟨i, hn, hi, hK⟩
def pl_h6x : List (Nat × Plan) := []
def G_h6x : List FuncId := []
theorem cok_h6x : codeOk Tryz.prog G_h6x pl_h6x (Tryz.f64.body.getD .skip) = true := by kernel_rfl
theorem run_h6x (vs : Array Value) (w : World) : (callFunc 64 vs).run C1.P w = .ok (.enter 64 vs) w := by kernel_rfl
theorem rhas06_pure (l : List Int) (x : Int) (hm : l.length ≤ 4294967296) : Pure C1 64 [dIs l, .int .i64 x] (fun y => y = .bool (decide (x ∈ l))) := by
  have hl : (l.map dI).length = l.length := List.length_map _
  refine pure_of c1_ok (pl := pl_h6x) (G := G_h6x) Tryz.func64 rfl Tryz.ntmps64 run_h6x cok_h6x (by simp) ?_
  ((conv => whnf); repeat' ((first | refine odw ?_ | refine ify ?_ | refine ifn ?_ | refine i6 ?_ | refine ati ?_ | refine mst ?_ | refine rmd ?_ | refine ibo (fun _ => ?_) (fun _ => ?_)) <;> conv => whnf))
  refine loop_lo (ι := Nat) (fun i => i ≤ l.length ∧ ∀ y ∈ l.take i, ¬ x = y) (fun i => [(5, .d (.int .i64 i)), (1, .d (.int .i64 x)), (0, .d (dIs l))]) (fun _ => []) (fun i => l.length - i) 0 (fun _ => rfl) ⟨Nat.zero_le _, by simp⟩ (.refl _ _) ⟨rfl, rfl, rfl, trivial⟩ trivial ?_
  rintro i ⟨hi, hne⟩
  refine sxCode_sound c1_ok (G := G_h6x) (pl := pl_h6x) _ _ _ _ (by kernel_rfl) ?_
  by_cases hlt : i < l.length
  · have hx := List.getElem?_eq_getElem hlt
    generalize l[i] = y at hx
    have hxd : (l.map dI)[i]? = some (.int .i64 y) := by rw [List.getElem?_map, hx]; rfl
    by_cases he : y = x
    · subst he
      rw [decide_eq_true (List.mem_of_getElem? hx)]
      (conv => whnf)
      (repeat' ((first | refine ord_ok (by (conv => whnf); (repeat' ((first | refine at_da hxd rfl ?_ | refine ify ?_ | refine ifn ?_ | refine i6 ?_ | refine ati ?_ | refine mst ?_ | refine rmd ?_ | refine ibo (fun _ => ?_) (fun _ => ?_)) <;> conv => whnf)); (all_goals (repeat' (first | exact trivial | exact rfl | refine And.intro ?_ ?_)))) ?_ | refine at_da hxd rfl ?_ | refine ify ?_ | refine ifn ?_ | refine i6 ?_ | refine ati ?_ | refine mst ?_ | refine rmd ?_ | refine ibo (fun _ => ?_) (fun _ => ?_)) <;> conv => whnf))
      exact rfl
    · (conv => whnf)
      (repeat' ((first | refine ord_ok (by (conv => whnf); (repeat' ((first | refine at_da hxd rfl ?_ | refine ify ?_ | refine ifn ?_ | refine i6 ?_ | refine ati ?_ | refine mst ?_ | refine rmd ?_ | refine ibo (fun _ => ?_) (fun _ => ?_)) <;> conv => whnf)); (all_goals (repeat' (first | exact trivial | exact rfl | refine And.intro ?_ ?_)))) ?_ | refine at_da hxd rfl ?_ | refine ify ?_ | refine ifn ?_ | refine i6 ?_ | refine ati ?_ | refine mst ?_ | refine rmd ?_ | refine ibo (fun _ => ?_) (fun _ => ?_)) <;> conv => whnf))
      refine ⟨i + 1, _, _, ⟨hlt, ?_⟩, .refl _ _, ⟨rfl, rfl, rfl, trivial⟩, trivial, by omega⟩
      intro z hz
      rw [List.take_add_one, hx] at hz
      rcases List.mem_append.1 hz with hz | hz
      · exact hne z hz
      · simp at hz; subst hz; exact fun e => he e.symm
  · have e : l.take i = l := List.take_of_length_le (by omega)
    rw [e] at hne
    rw [decide_eq_false (fun h => hne x h rfl)]
    ((conv => whnf); repeat' ((first | refine odw ?_ | refine ify ?_ | refine ifn ?_ | refine i6 ?_ | refine ati ?_ | refine mst ?_ | refine rmd ?_ | refine ibo (fun _ => ?_) (fun _ => ?_)) <;> conv => whnf))
    exact rfl
def pl_r6p : List (Nat × Plan) := []
def G_r6p : List FuncId := [64]
theorem cok_r6p : codeOk Tryz.prog G_r6p pl_r6p (Tryz.f101.body.getD .skip) = true := by kernel_rfl
theorem run_r6p (vs : Array Value) (w : World) : (callFunc 101 vs).run C1.P w = .ok (.enter 101 vs) w := by kernel_rfl
set_option maxHeartbeats 4000000 in
theorem radd_pure (s : List Int) (n : Int) (hs : s.Pairwise (· < ·)) (hl : s.length ≤ 4294967295) : Pure C1 101 [dIs s, .int .i64 n] (fun y => ∃ t : List Int, y = dIs t ∧ t.Pairwise (· < ·) ∧ (∀ x, x ∈ t ↔ x = n ∨ x ∈ s) ∧ t.length ≤ s.length + 1) := by
  have hsl : (s.map dI).length = s.length := List.length_map _
  have hh := rhas06_pure s n (by omega)
  refine pure_of c1_ok (pl := pl_r6p) (G := G_r6p) Tryz.func101 rfl Tryz.ntmps101 run_r6p cok_r6p (by simp) ?_
  by_cases hn : n ∈ s
  · rw [decide_eq_true hn] at hh
    (conv => whnf)
    (repeat' ((first | refine ord_ok (by (conv => whnf); (repeat' ((first | refine call_eq rfl hh ?_ | refine ify ?_ | refine ifn ?_ | refine i6 ?_ | refine ati ?_ | refine mst ?_ | refine rmd ?_ | refine ibo (fun _ => ?_) (fun _ => ?_)) <;> conv => whnf)); (all_goals (repeat' (first | exact trivial | exact rfl | refine And.intro ?_ ?_)))) ?_ | refine call_eq rfl hh ?_ | refine ify ?_ | refine ifn ?_ | refine i6 ?_ | refine ati ?_ | refine mst ?_ | refine rmd ?_ | refine ibo (fun _ => ?_) (fun _ => ?_)) <;> conv => whnf))
    exact ⟨s, rfl, hs, fun x => ⟨.inr, fun h => h.elim (fun e => e ▸ hn) id⟩, by omega⟩
  · rw [decide_eq_false hn] at hh
    (conv => whnf)
    (repeat' ((first | refine ord_ok (by (conv => whnf); (repeat' ((first | refine call_eq rfl hh ?_ | refine ify ?_ | refine ifn ?_ | refine i6 ?_ | refine ati ?_ | refine mst ?_ | refine rmd ?_ | refine ibo (fun _ => ?_) (fun _ => ?_)) <;> conv => whnf)); (all_goals (repeat' (first | exact trivial | exact rfl | refine And.intro ?_ ?_)))) ?_ | refine call_eq rfl hh ?_ | refine ify ?_ | refine ifn ?_ | refine i6 ?_ | refine ati ?_ | refine mst ?_ | refine rmd ?_ | refine ibo (fun _ => ?_) (fun _ => ?_)) <;> conv => whnf))
    refine loop_lo (ι := Nat) (fun k => k ≤ s.length ∧ ∀ y ∈ s.take k, y < n) (fun k => [(5, .d (.int .i64 k)), (1, .d (.int .i64 n)), (0, .d (dIs s))]) (fun _ => []) (fun k => s.length - k) 0 (fun _ => rfl) ⟨Nat.zero_le _, by simp⟩ (.refl _ _) ⟨rfl, rfl, rfl, trivial⟩ trivial ?_
    rintro k ⟨hk, hlo⟩
    refine sxCode_sound c1_ok (G := G_r6p) (pl := pl_r6p) _ _ _ _ (by kernel_rfl) ?_
    have hfin : ((s.map dI).take k ++ [.int .i64 n]) ++ (s.map dI).drop k = ((s.take k ++ [n]) ++ s.drop k).map dI := by
      rw [List.map_append, List.map_append, List.map_take, List.map_drop]; rfl
    by_cases hlt : k < s.length
    · have hx := List.getElem?_eq_getElem hlt
      have hxm := List.getElem_mem hlt
      have hge : ∀ y ∈ s.drop k, s[k] ≤ y := by
        intro y hy
        obtain ⟨j, hj, rfl⟩ := List.mem_drop_iff_getElem.1 hy
        rcases Nat.eq_zero_or_pos j with e | e
        · subst e; simp
        · have := List.pairwise_iff_getElem.1 hs k (k + j) hlt (by omega) (by omega); omega
      generalize s[k] = x at hx hxm hge
      have hxd : (s.map dI)[k]? = some (.int .i64 x) := by rw [List.getElem?_map, hx]; rfl
      by_cases hxn : x < n
      · (conv => whnf)
        (repeat' ((first | refine ord_ok (by (conv => whnf); (repeat' ((first | refine at_da hxd rfl ?_ | refine ify ?_ | refine ifn ?_ | refine i6 ?_ | refine ati ?_ | refine mst ?_ | refine rmd ?_ | refine ibo (fun _ => ?_) (fun _ => ?_)) <;> conv => whnf)); (all_goals (repeat' (first | exact trivial | exact rfl | refine And.intro ?_ ?_)))) ?_ | refine at_da hxd rfl ?_ | refine ify ?_ | refine ifn ?_ | refine i6 ?_ | refine ati ?_ | refine mst ?_ | refine rmd ?_ | refine ibo (fun _ => ?_) (fun _ => ?_)) <;> conv => whnf))
        refine ⟨k + 1, _, _, ⟨hlt, ?_⟩, .refl _ _, ⟨rfl, rfl, rfl, trivial⟩, trivial, by omega⟩
        intro y hy
        rw [List.take_add_one, hx] at hy
        rcases List.mem_append.1 hy with hy | hy
        · exact hlo y hy
        · simp at hy; subst hy; exact hxn
      · have hne : x ≠ n := fun e => hn (e ▸ hxm)
        obtain ⟨g1, g2, g3⟩ := put_spec hs hlo (fun y hy => by have := hge y hy; omega)
        (conv => whnf)
        (repeat' ((first | refine ord_ok (by (conv => whnf); (repeat' ((first | refine at_da hxd rfl ?_ | refine sl_is k rfl (by omega) ?_ | refine upto_is rfl (show k ≤ (s.map dI).length by omega) ?_ | refine ify ?_ | refine ifn ?_ | refine i6 ?_ | refine ati ?_ | refine mst ?_ | refine rmd ?_ | refine ibo (fun _ => ?_) (fun _ => ?_)) <;> conv => whnf)); (all_goals (repeat' (first | exact trivial | exact rfl | refine And.intro ?_ ?_)))) ?_ | refine at_da hxd rfl ?_ | refine sl_is k rfl (by omega) ?_ | refine upto_is rfl (show k ≤ (s.map dI).length by omega) ?_ | refine ify ?_ | refine ifn ?_ | refine i6 ?_ | refine ati ?_ | refine mst ?_ | refine rmd ?_ | refine ibo (fun _ => ?_) (fun _ => ?_)) <;> conv => whnf))
        exact ⟨_, congrArg (Da.list 1) hfin, g1, g2, g3⟩
    · have hke : k = s.length := by omega
      obtain ⟨g1, g2, g3⟩ := put_spec hs hlo (fun y hy => by rw [hke, List.drop_length] at hy; cases hy)
      (conv => whnf)
      (repeat' ((first | refine ord_ok (by (conv => whnf); (repeat' ((first | refine sl_is k rfl (by omega) ?_ | refine upto_is rfl (show k ≤ (s.map dI).length by omega) ?_ | refine ify ?_ | refine ifn ?_ | refine i6 ?_ | refine ati ?_ | refine mst ?_ | refine rmd ?_ | refine ibo (fun _ => ?_) (fun _ => ?_)) <;> conv => whnf)); (all_goals (repeat' (first | exact trivial | exact rfl | refine And.intro ?_ ?_)))) ?_ | refine sl_is k rfl (by omega) ?_ | refine upto_is rfl (show k ≤ (s.map dI).length by omega) ?_ | refine ify ?_ | refine ifn ?_ | refine i6 ?_ | refine ati ?_ | refine mst ?_ | refine rmd ?_ | refine ibo (fun _ => ?_) (fun _ => ?_)) <;> conv => whnf))
      exact ⟨_, congrArg (Da.list 1) hfin, g1, g2, g3⟩
def pl_r7a : List (Nat × Plan) := []
def G_r7a : List FuncId := [64]
theorem cok_r7a : codeOk Tryz.prog G_r7a pl_r7a (Tryz.f97.body.getD .skip) = true := by kernel_rfl
theorem run_r7a (vs : Array Value) (w : World) : (callFunc 97 vs).run C1.P w = .ok (.enter 97 vs) w := by kernel_rfl
set_option maxHeartbeats 8000000 in
theorem rall_pure (n : Nat) (hn : n ≤ 8) : Pure C1 97 [.int .i64 n] (fun y => y = .list 1 ((allO n).map dIs)) := by
  rw [← exN_all]
  refine pure_of c1_ok (pl := pl_r7a) (G := G_r7a) Tryz.func97 rfl Tryz.ntmps97 run_r7a cok_r7a (by simp) ?_
  ((conv => whnf); repeat' ((first | refine odw ?_ | refine ify ?_ | refine ifn ?_ | refine i6 ?_ | refine ati ?_ | refine mst ?_ | refine rmd ?_ | refine ibo (fun _ => ?_) (fun _ => ?_)) <;> conv => whnf))
  refine op_again c1_ok (G := []) (.frz 8 rfl (.refl _ _)) (.inr rfl) ?_
  ((conv => whnf); repeat' ((first | refine odw ?_ | refine ify ?_ | refine ifn ?_ | refine i6 ?_ | refine ati ?_ | refine mst ?_ | refine rmd ?_ | refine ibo (fun _ => ?_) (fun _ => ?_)) <;> conv => whnf))
  refine loop_lo (ι := Nat) (fun k => k ≤ n) (fun k => [(4, .d (.int .i64 k)), (3, .d (.list 1 ((exN n k [[]]).map dIs))), (0, .d (.int .i64 n))]) (fun _ => []) (fun k => n - k) 0 (fun _ => rfl) (Nat.zero_le _) (.frz 9 rfl (.refl _ _)) ⟨rfl, rfl, rfl, trivial⟩ trivial ?_
  intro k hk
  refine sxCode_sound c1_ok (G := G_r7a) (pl := pl_r7a) _ _ _ _ (by kernel_rfl) ?_
  by_cases hkl : k < n
  · have hXl := exN_count n k
    have hXp : n ^ k ≤ 100000000 := Nat.le_trans (Nat.pow_le_pow_left hn k) (Nat.le_trans (Nat.pow_le_pow_right (n := 8) (by omega) (show k ≤ 8 by omega)) (by decide))
    have hsu := exN_succ n k [[]]
    have hXn : ∀ L ∈ exN n k [[]], L.length = k := fun L hL => exN_mem hL
    generalize exN n k [[]] = X at hXl hsu hXn ⊢
    have hdX : (X.map dIs).length = X.length := List.length_map _
    ((conv => whnf); repeat' ((first | refine odw ?_ | refine ify ?_ | refine ifn ?_ | refine i6 ?_ | refine ati ?_ | refine mst ?_ | refine rmd ?_ | refine ibo (fun _ => ?_) (fun _ => ?_)) <;> conv => whnf))
    refine loop_lo (ι := Nat) (fun i => i ≤ X.length) (fun i => [(6, .d (.int .i64 i)), (5, .own 300), (4, .d (.int .i64 k)), (3, .d (.list 1 (X.map dIs))), (0, .d (.int .i64 n))]) (fun i => [(300, .slice 22 1 ((exL n (X.take i)).map dIs))]) (fun i => X.length - i) 0 (fun _ => rfl) (Nat.zero_le _) (.own 5 300 22 1 rfl rfl (.refl _ _)) ⟨rfl, rfl, rfl, rfl, rfl, trivial⟩ ⟨rfl, trivial⟩ ?_
    intro i hi
    refine sxCode_sound c1_ok (G := G_r7a) (pl := pl_r7a) _ _ _ _ (by kernel_rfl) ?_
    by_cases hil : i < X.length
    · have hx := List.getElem?_eq_getElem hil
      generalize X[i] = l at hx
      have hxd : (X.map dIs)[i]? = some (dIs l) := by rw [List.getElem?_map, hx]; rfl
      have hsl := exL_len n (X.take i)
      have hmul : (X.take i).length * n ≤ 100000000 * 8 := Nat.mul_le_mul (by rw [List.length_take]; omega) hn
      ((conv => whnf); repeat' ((first | refine odw ?_ | refine ify ?_ | refine ifn ?_ | refine i6 ?_ | refine ati ?_ | refine mst ?_ | refine rmd ?_ | refine ibo (fun _ => ?_) (fun _ => ?_)) <;> conv => whnf))
      refine loop_lo (ι := Nat) (fun v => v ≤ n) (fun v => [(7, .d (.int .i64 v)), (6, .d (.int .i64 i)), (5, .own 300), (4, .d (.int .i64 k)), (3, .d (.list 1 (X.map dIs))), (0, .d (.int .i64 n))]) (fun v => [(300, .slice 22 1 ((exL n (X.take i) ++ exV l v).map dIs))]) (fun v => n - v) 0 (fun _ => rfl) (Nat.zero_le _) (.refl _ _) ⟨rfl, rfl, rfl, rfl, rfl, rfl, trivial⟩ ⟨by rw [show exV l 0 = [] from rfl, List.append_nil]; rfl, trivial⟩ ?_
      intro v hv
      refine sxCode_sound c1_ok (G := G_r7a) (pl := pl_r7a) _ _ _ _ (by kernel_rfl) ?_
      by_cases hvl : v < n
      · have hh := rhas06_pure l v (by have := hXn l (List.mem_of_getElem? hx); omega)
        have hll := hXn l (List.mem_of_getElem? hx)
        have hvs := exV_len l v
        have hss := exV_succ l v
        have hol : ((exL n (X.take i) ++ exV l v).map dIs).length ≤ 2000000000 := by rw [List.length_map, List.length_append]; omega
        by_cases hm : (v : Int) ∈ l
        · rw [decide_eq_true hm] at hh
          rw [if_pos hm, List.append_nil] at hss
          (conv => whnf)
          (repeat' ((first | refine ord_ok (by (conv => whnf); (repeat' ((first | refine at_da hxd rfl ?_ | refine call_eq rfl hh ?_ | refine ify ?_ | refine ifn ?_ | refine i6 ?_ | refine ati ?_ | refine mst ?_ | refine rmd ?_ | refine ibo (fun _ => ?_) (fun _ => ?_)) <;> conv => whnf)); (all_goals (repeat' (first | exact trivial | exact rfl | refine And.intro ?_ ?_)))) ?_ | refine at_da hxd rfl ?_ | refine call_eq rfl hh ?_ | refine ify ?_ | refine ifn ?_ | refine i6 ?_ | refine ati ?_ | refine mst ?_ | refine rmd ?_ | refine ibo (fun _ => ?_) (fun _ => ?_)) <;> conv => whnf))
          exact ⟨v + 1, _, _, by omega, .refl _ _, ⟨rfl, rfl, rfl, rfl, rfl, rfl, trivial⟩, ⟨slice_is (by rw [hss]), trivial⟩, by omega⟩
        · rw [decide_eq_false hm] at hh
          rw [if_neg hm] at hss
          have hdl : (l.map dI).length = l.length := List.length_map _
          (conv => whnf)
          (repeat' ((first | refine ord_ok (by (conv => whnf); (repeat' ((first | refine at_da hxd rfl ?_ | refine call_eq rfl hh ?_ | refine ify ?_ | refine ifn ?_ | refine i6 ?_ | refine ati ?_ | refine mst ?_ | refine rmd ?_ | refine ibo (fun _ => ?_) (fun _ => ?_)) <;> conv => whnf)); (all_goals (repeat' (first | exact trivial | exact rfl | refine And.intro ?_ ?_)))) ?_ | refine at_da hxd rfl ?_ | refine call_eq rfl hh ?_ | refine ify ?_ | refine ifn ?_ | refine i6 ?_ | refine ati ?_ | refine mst ?_ | refine rmd ?_ | refine ibo (fun _ => ?_) (fun _ => ?_)) <;> conv => whnf))
          refine op_again c1_ok (G := []) (.frz 34 rfl (.refl _ _)) (.inr rfl) ?_
          ((conv => whnf); repeat' ((first | refine odw ?_ | refine ify ?_ | refine ifn ?_ | refine i6 ?_ | refine ati ?_ | refine mst ?_ | refine rmd ?_ | refine ibo (fun _ => ?_) (fun _ => ?_)) <;> conv => whnf))
          refine ⟨v + 1, _, _, by omega, .refl _ _, ⟨rfl, rfl, rfl, rfl, rfl, rfl, trivial⟩, ⟨slice_is ?_, trivial⟩, by omega⟩
          rw [hss]; simp [dIs, dI]
      · have hve : v = n := by omega
        subst hve
        ((conv => whnf); repeat' ((first | refine odw ?_ | refine ify ?_ | refine ifn ?_ | refine i6 ?_ | refine ati ?_ | refine mst ?_ | refine rmd ?_ | refine ibo (fun _ => ?_) (fun _ => ?_)) <;> conv => whnf))
        exact ⟨i + 1, _, _, by omega, .refl _ _, ⟨rfl, rfl, rfl, rfl, rfl, trivial⟩, ⟨slice_is (by rw [exL_take hx]), trivial⟩, by omega⟩
    · have hie : i = X.length := by omega
      subst hie
      rw [List.take_length]
      ((conv => whnf); repeat' ((first | refine odw ?_ | refine ify ?_ | refine ifn ?_ | refine i6 ?_ | refine ati ?_ | refine mst ?_ | refine rmd ?_ | refine ibo (fun _ => ?_) (fun _ => ?_)) <;> conv => whnf))
      exact ⟨k + 1, _, _, by omega, .frz 300 rfl (.refl _ _), ⟨rfl, by rw [hsu]; rfl, rfl, trivial⟩, trivial, by omega⟩
  · have hke : k = n := by omega
    subst hke
    ((conv => whnf); repeat' ((first | refine odw ?_ | refine ify ?_ | refine ifn ?_ | refine i6 ?_ | refine ati ?_ | refine mst ?_ | refine rmd ?_ | refine ibo (fun _ => ?_) (fun _ => ?_)) <;> conv => whnf))
    exact rfl
def pl_r8t : List (Nat × Plan) := [(6, .leaf [0, 0, 0, 0, 1, 0, 1, 0, 0, 1, 0, 3] [0, 1, 2, 3, 5, 7, 4, 6, 8, 9, 10, 11] [0, 0, 0, 6, 14, 0, 32, 0, 224, 480, 1023, 2047])]
def G_r8t : List FuncId := [89]
theorem cok_r8t : codeOk Tryz.prog G_r8t pl_r8t (Tryz.f99.body.getD .skip) = true := by kernel_rfl
theorem run_r8t (vs : Array Value) (w : World) : (callFunc 99 vs).run C1.P w = .ok (.enter 99 vs) w := by kernel_rfl
set_option maxHeartbeats 8000000 in
theorem rturn_pure {n : Nat} {p : Pt} {b : List Int} (hp : PtOk n p) (hb : IsOrd n b) (hn : n ≤ 8) (hE : p.edges.length ≤ 64) : Pure C1 99 [dPt p, dIs b] (fun y => y = dPt (turnP p b)) := by
  have hbl := hb.1
  have hpl := hp.len
  have hdb : (b.map dI).length = b.length := List.length_map _
  have hdp : (p.labels.map dI).length = p.labels.length := List.length_map _
  rw [← turn_made hp hb]
  have hkl : (backL b).length = n := (back_ord hb).1
  have hmd := rmade_pure (putL b p.labels b.length) p (backL b) (by omega) (by omega)
  unfold backL at hmd ⊢
  refine pure_of c1_ok (pl := pl_r8t) (G := G_r8t) Tryz.func99 rfl Tryz.ntmps99 run_r8t cok_r8t (by simp) ?_
  (conv => whnf)
  (repeat' ((first | refine ord_ok (by (conv => whnf); (repeat' ((first | refine mk_ok n (by omega) (by omega) (by omega) ?_ | refine ify ?_ | refine ifn ?_ | refine i6 ?_ | refine ati ?_ | refine mst ?_ | refine rmd ?_ | refine ibo (fun _ => ?_) (fun _ => ?_)) <;> conv => whnf)); (all_goals (repeat' (first | exact trivial | exact rfl | refine And.intro ?_ ?_)))) ?_ | refine mk_ok n (by omega) (by omega) (by omega) ?_ | refine ify ?_ | refine ifn ?_ | refine i6 ?_ | refine ati ?_ | refine mst ?_ | refine rmd ?_ | refine ibo (fun _ => ?_) (fun _ => ?_)) <;> conv => whnf))
  refine loop_lo (ι := Nat) (fun i => i ≤ n) (fun i => [(7, .d (.int .i64 i)), (6, .own 13), (5, .own 10), (4, .own 4), (2, .own 2), (1, .d (dIs b))]) (fun i => [(2, .cells 25 [.d (dIs p.labels), .d (dEs p.edges)]), (4, .cells 25 [.d .nils, .d .nils]), (10, .slice 3 1 ((putL b p.labels i).map dI)), (13, .slice 3 1 ((putL b (idL b.length) i).map dI))]) (fun i => n - i) 0 (fun _ => rfl) (Nat.zero_le _) (.refl _ _) ⟨rfl, rfl, rfl, rfl, rfl, rfl, trivial⟩ ⟨rfl, rfl, slice_is (by rw [putL_zero]; simp [hpl, dI]), slice_is (by rw [putL_zero, idL_len]; simp [hbl, dI]), trivial⟩ ?_
  intro i hi
  refine sxCode_sound c1_ok (G := G_r8t) (pl := pl_r8t) _ _ _ _ (by kernel_rfl) ?_
  by_cases hlt : i < n
  · have hx := pl_at hb hlt
    have hk := pl_lt hb hlt
    generalize pl b i = k at hx hk
    have hy := List.getElem?_eq_getElem (l := p.labels) (i := i) (by omega)
    generalize p.labels[i]'(by omega) = y at hy
    have hid : (idL b.length)[i]? = some (i : Int) := by unfold idL; simp [hbl, hlt]
    have hxd : (b.map dI)[i]? = some (.int .i64 k) := by rw [List.getElem?_map, hx]; rfl
    have hyd : (p.labels.map dI)[i]? = some (.int .i64 y) := by rw [List.getElem?_map, hy]; rfl
    have l1 : (putL b p.labels i).length = n := by rw [putL_len, hpl]
    have l2 : (putL b (idL b.length) i).length = n := by rw [putL_len, idL_len, hbl]
    have s1 := putL_step hx hy
    have s2 := putL_step hx hid
    rw [Int.toNat_natCast] at s1 s2
    have d1 : ((putL b p.labels i).map dI).length = n := by rw [List.length_map, l1]
    have d2 : ((putL b (idL b.length) i).map dI).length = n := by rw [List.length_map, l2]
    obtain ⟨u, hu⟩ : ∃ u, (putL b p.labels i)[k]? = some u := ⟨_, List.getElem?_eq_getElem (by omega)⟩
    obtain ⟨w, hw⟩ : ∃ w, (putL b (idL b.length) i)[k]? = some w := ⟨_, List.getElem?_eq_getElem (by omega)⟩
    have hud : ((putL b p.labels i).map dI)[k]? = some (.int .i64 u) := by rw [List.getElem?_map, hu]; rfl
    have hwd : ((putL b (idL b.length) i).map dI)[k]? = some (.int .i64 w) := by rw [List.getElem?_map, hw]; rfl
    (conv => whnf)
    (repeat' ((first | refine ord_ok (by (conv => whnf); (repeat' ((first | refine at_da hxd rfl ?_ | refine at_da hyd rfl ?_ | refine el_at (i := k) rfl (by omega) ?_ | refine el_is hud ?_ | refine el_is hwd ?_ | refine ify ?_ | refine ifn ?_ | refine i6 ?_ | refine ati ?_ | refine mst ?_ | refine rmd ?_ | refine ibo (fun _ => ?_) (fun _ => ?_)) <;> conv => whnf)); (all_goals (repeat' (first | exact trivial | exact rfl | refine And.intro ?_ ?_)))) ?_ | refine at_da hxd rfl ?_ | refine at_da hyd rfl ?_ | refine el_at (i := k) rfl (by omega) ?_ | refine el_is hud ?_ | refine el_is hwd ?_ | refine ify ?_ | refine ifn ?_ | refine i6 ?_ | refine ati ?_ | refine mst ?_ | refine rmd ?_ | refine ibo (fun _ => ?_) (fun _ => ?_)) <;> conv => whnf))
    exact ⟨i + 1, _, _, hlt, .refl _ _, ⟨rfl, rfl, rfl, rfl, rfl, rfl, trivial⟩, ⟨rfl, rfl, slice_is (by rw [s1, List.map_set]; rfl), slice_is (by rw [s2, List.map_set]; rfl), trivial⟩, by omega⟩
  · have : i = b.length := by omega
    subst this
    ((conv => whnf); repeat' ((first | refine odw ?_ | refine ify ?_ | refine ifn ?_ | refine i6 ?_ | refine ati ?_ | refine mst ?_ | refine rmd ?_ | refine ibo (fun _ => ?_) (fun _ => ?_)) <;> conv => whnf))
    refine call_frz 10 rfl ?_
    refine call_frz 13 rfl ?_
    (conv => whnf)
    refine call_eq rfl hmd ?_
    ((conv => whnf); repeat' ((first | refine odw ?_ | refine ify ?_ | refine ifn ?_ | refine i6 ?_ | refine ati ?_ | refine mst ?_ | refine rmd ?_ | refine ibo (fun _ => ?_) (fun _ => ?_)) <;> conv => whnf))
    exact rfl
def pl_r8f : List (Nat × Plan) := [(6, .leaf [0, 0, 1, 0, 0, 0, 1, 0, 1, 0, 0, 0, 1, 6, 3, 0] [0, 1, 3, 7, 9, 2, 4, 5, 6, 8, 10, 11, 12, 13, 14, 15] [0, 0, 2, 0, 14, 30, 62, 0, 128, 0, 896, 1920, 3968, 8190, 16383, 32767])]
def G_r8f : List FuncId := []
theorem cok_r8f : codeOk Tryz.prog G_r8f pl_r8f (Tryz.f147.body.getD .skip) = true := by kernel_rfl
theorem run_r8f (vs : Array Value) (w : World) : (callFunc 147 vs).run C1.P w = .ok (.enter 147 vs) w := by kernel_rfl
set_option maxHeartbeats 4000000 in
theorem rflat_pure (p : Pt) (hl : p.labels.length ≤ 8) (hE : p.edges.length ≤ 64) : Pure C1 147 [dPt p] (fun y => y = dIs (keyP p)) := by
  have hdl : (p.labels.map dI).length = p.labels.length := List.length_map _
  have hde : (p.edges.map dE).length = p.edges.length := List.length_map _
  refine pure_of c1_ok (pl := pl_r8f) (G := G_r8f) Tryz.func147 rfl Tryz.ntmps147 run_r8f cok_r8f (by simp) ?_
  ((conv => whnf); repeat' ((first | refine odw ?_ | refine ify ?_ | refine ifn ?_ | refine i6 ?_ | refine ati ?_ | refine mst ?_ | refine rmd ?_ | refine ibo (fun _ => ?_) (fun _ => ?_)) <;> conv => whnf))
  refine loop_lo (ι := Nat) (fun i => i ≤ p.edges.length) (fun i => [(4, .d (.int .i64 i)), (3, .own 8), (1, .own 1)]) (fun i => [(1, .cells 25 [.d (dIs p.labels), .d (dEs p.edges)]), (8, .slice 3 1 (((p.labels.length : Int) :: (p.labels ++ (p.edges.length : Int) :: (p.edges.take i).flatMap fun e => [e.a, e.b])).map dI))]) (fun i => p.edges.length - i) 0 (fun _ => rfl) (Nat.zero_le _) (.refl _ _) ⟨rfl, rfl, rfl, trivial⟩ ⟨rfl, slice_is (by simp [dI]), trivial⟩ ?_
  intro i hi
  refine sxCode_sound c1_ok (G := G_r8f) (pl := pl_r8f) _ _ _ _ (by kernel_rfl) ?_
  by_cases hil : i < p.edges.length
  · have hx := List.getElem?_eq_getElem hil
    generalize p.edges[i] = x at hx
    have hxd : (p.edges.map dE)[i]? = some (.agg [.int .i64 x.a, .int .i64 x.b]) := by rw [List.getElem?_map, hx]; rfl
    have hst : (p.edges.take (i + 1)).flatMap (fun e => [e.a, e.b]) = (p.edges.take i).flatMap (fun e => [e.a, e.b]) ++ [x.a, x.b] := by
      rw [List.take_add_one, hx, Option.toList_some, List.flatMap_append]; rfl
    have hlen : ((p.edges.take i).flatMap fun e => [e.a, e.b]).length ≤ 128 := by
      have := key_len ⟨[], p.edges.take i⟩
      unfold keyP at this
      simp only [List.nil_append, List.length_cons, List.length_nil, List.length_take] at this
      omega
    generalize (p.edges.take i).flatMap (fun e => [e.a, e.b]) = F at hst hlen ⊢
    (conv => whnf)
    (repeat' ((first | refine ord_ok (by (conv => whnf); (repeat' ((first | refine at_da hxd rfl ?_ | refine ify ?_ | refine ifn ?_ | refine i6 ?_ | refine ati ?_ | refine mst ?_ | refine rmd ?_ | refine ibo (fun _ => ?_) (fun _ => ?_)) <;> conv => whnf)); (all_goals (repeat' (first | exact trivial | exact rfl | refine And.intro ?_ ?_)))) ?_ | refine at_da hxd rfl ?_ | refine ify ?_ | refine ifn ?_ | refine i6 ?_ | refine ati ?_ | refine mst ?_ | refine rmd ?_ | refine ibo (fun _ => ?_) (fun _ => ?_)) <;> conv => whnf))
    exact ⟨i + 1, _, _, hil, .refl _ _, ⟨rfl, rfl, rfl, trivial⟩, ⟨rfl, slice_is (by rw [hst]; simp [dI]), trivial⟩, by omega⟩
  · have e : p.edges.take i = p.edges := List.take_of_length_le (by omega)
    rw [e]
    ((conv => whnf); repeat' ((first | refine odw ?_ | refine ify ?_ | refine ifn ?_ | refine i6 ?_ | refine ati ?_ | refine mst ?_ | refine rmd ?_ | refine ibo (fun _ => ?_) (fun _ => ?_)) <;> conv => whnf))
    exact rfl
def pl_r8c : List (Nat × Plan) := [(1, .leaf [1, 2, 1, 2, 0, 0] [0, 2, 1, 3, 4, 5] [0, 1, 0, 7, 15, 31]),
  (5, .leaf [0, 0, 0, 1, 0, 0, 0, 1, 0] [0, 1, 2, 4, 5, 6, 3, 7, 8] [0, 0, 3, 7, 0, 0, 48, 112, 255]),
  (7, .leaf [0, 0, 0, 1, 0, 0, 0, 1, 0] [0, 1, 2, 4, 5, 6, 3, 7, 8] [0, 0, 3, 7, 0, 0, 48, 112, 255])]
def G_r8c : List FuncId := [147]
theorem cok_r8c : codeOk Tryz.prog G_r8c pl_r8c (Tryz.f98.body.getD .skip) = true := by kernel_rfl
theorem run_r8c (vs : Array Value) (w : World) : (callFunc 98 vs).run C1.P w = .ok (.enter 98 vs) w := by kernel_rfl
set_option maxHeartbeats 4000000 in
theorem rcmp_pure (p q : Pt) (hp : p.labels.length ≤ 8) (hE : p.edges.length ≤ 64) (hq : q.labels.length ≤ 8) (hF : q.edges.length ≤ 64) : Pure C1 98 [dPt p, dPt q] (fun y => y = .int .i64 (cmpP p q)) := by
  have f1 := rflat_pure p hp hE
  have f2 := rflat_pure q hq hF
  have l1 := key_len p
  have l2 := key_len q
  have hpre := fun i => key_pre (p := p) (q := q) (i := i)
  rw [cmpP_key]
  generalize keyP p = a at f1 l1 hpre ⊢
  generalize keyP q = b at f2 l2 hpre ⊢
  have hda : (a.map dI).length = a.length := List.length_map _
  have hdb : (b.map dI).length = b.length := List.length_map _
  refine pure_of c1_ok (pl := pl_r8c) (G := G_r8c) Tryz.func98 rfl Tryz.ntmps98 run_r8c cok_r8c (by simp) ?_
  (conv => whnf)
  (repeat' ((first | refine ord_ok (by (conv => whnf); (repeat' ((first | refine call_eq rfl f1 ?_ | refine call_eq rfl f2 ?_ | refine ify ?_ | refine ifn ?_ | refine i6 ?_ | refine ati ?_ | refine mst ?_ | refine rmd ?_ | refine ibo (fun _ => ?_) (fun _ => ?_)) <;> conv => whnf)); (all_goals (repeat' (first | exact trivial | exact rfl | refine And.intro ?_ ?_)))) ?_ | refine call_eq rfl f1 ?_ | refine call_eq rfl f2 ?_ | refine ify ?_ | refine ifn ?_ | refine i6 ?_ | refine ati ?_ | refine mst ?_ | refine rmd ?_ | refine ibo (fun _ => ?_) (fun _ => ?_)) <;> conv => whnf))
  refine loop_lo (ι := Nat) (fun i => (i ≤ a.length ∧ i ≤ b.length) ∧ a.take i = b.take i ∧ cmpF cmpI a b = cmpF cmpI (a.drop i) (b.drop i)) (fun i => [(7, .d (.int .i64 i)), (6, .d (dIs b)), (5, .d (dIs a))]) (fun _ => []) (fun i => a.length - i) 0 (fun _ => rfl) ⟨⟨Nat.zero_le _, Nat.zero_le _⟩, by simp, rfl⟩ (.refl _ _) ⟨rfl, rfl, rfl, trivial⟩ trivial ?_
  rintro i ⟨⟨hi1, hi2⟩, htk, hc⟩
  refine sxCode_sound c1_ok (G := G_r8c) (pl := pl_r8c) _ _ _ _ (by kernel_rfl) ?_
  by_cases h1 : i < a.length
  · by_cases h2 : i < b.length
    · have hx := List.getElem?_eq_getElem h1
      have hy := List.getElem?_eq_getElem h2
      rw [List.drop_eq_getElem_cons h1, List.drop_eq_getElem_cons h2, cmpF_cons] at hc
      generalize a[i] = x at hx hc
      generalize b[i] = y at hy hc
      have hxd : (a.map dI)[i]? = some (.int .i64 x) := by rw [List.getElem?_map, hx]; rfl
      have hyd : (b.map dI)[i]? = some (.int .i64 y) := by rw [List.getElem?_map, hy]; rfl
      by_cases hlt : x < y
      · have e : cmpI x y = -1 := by unfold cmpI; rw [if_pos hlt]
        rw [e, if_neg (by decide)] at hc
        rw [hc]
        (conv => whnf)
        (repeat' ((first | refine ord_ok (by (conv => whnf); (repeat' ((first | refine at_da hxd rfl ?_ | refine at_da hyd rfl ?_ | refine ify ?_ | refine ifn ?_ | refine i6 ?_ | refine ati ?_ | refine mst ?_ | refine rmd ?_ | refine ibo (fun _ => ?_) (fun _ => ?_)) <;> conv => whnf)); (all_goals (repeat' (first | exact trivial | exact rfl | refine And.intro ?_ ?_)))) ?_ | refine at_da hxd rfl ?_ | refine at_da hyd rfl ?_ | refine ify ?_ | refine ifn ?_ | refine i6 ?_ | refine ati ?_ | refine mst ?_ | refine rmd ?_ | refine ibo (fun _ => ?_) (fun _ => ?_)) <;> conv => whnf))
        exact rfl
      · by_cases hgt : y < x
        · have e : cmpI x y = 1 := by unfold cmpI; rw [if_neg hlt, if_pos hgt]
          rw [e, if_neg (by decide)] at hc
          rw [hc]
          (conv => whnf)
          (repeat' ((first | refine ord_ok (by (conv => whnf); (repeat' ((first | refine at_da hxd rfl ?_ | refine at_da hyd rfl ?_ | refine ify ?_ | refine ifn ?_ | refine i6 ?_ | refine ati ?_ | refine mst ?_ | refine rmd ?_ | refine ibo (fun _ => ?_) (fun _ => ?_)) <;> conv => whnf)); (all_goals (repeat' (first | exact trivial | exact rfl | refine And.intro ?_ ?_)))) ?_ | refine at_da hxd rfl ?_ | refine at_da hyd rfl ?_ | refine ify ?_ | refine ifn ?_ | refine i6 ?_ | refine ati ?_ | refine mst ?_ | refine rmd ?_ | refine ibo (fun _ => ?_) (fun _ => ?_)) <;> conv => whnf))
          exact rfl
        · have e : x = y := by omega
          subst e
          rw [(cmpI_eq x x).2 rfl, if_pos rfl] at hc
          (conv => whnf)
          (repeat' ((first | refine ord_ok (by (conv => whnf); (repeat' ((first | refine at_da hxd rfl ?_ | refine at_da hyd rfl ?_ | refine ify ?_ | refine ifn ?_ | refine i6 ?_ | refine ati ?_ | refine mst ?_ | refine rmd ?_ | refine ibo (fun _ => ?_) (fun _ => ?_)) <;> conv => whnf)); (all_goals (repeat' (first | exact trivial | exact rfl | refine And.intro ?_ ?_)))) ?_ | refine at_da hxd rfl ?_ | refine at_da hyd rfl ?_ | refine ify ?_ | refine ifn ?_ | refine i6 ?_ | refine ati ?_ | refine mst ?_ | refine rmd ?_ | refine ibo (fun _ => ?_) (fun _ => ?_)) <;> conv => whnf))
          exact ⟨i + 1, _, _, ⟨⟨h1, h2⟩, by rw [List.take_add_one, List.take_add_one, htk, hx, hy], hc⟩, .refl _ _, ⟨rfl, rfl, rfl, trivial⟩, trivial, by omega⟩
    · have e := hpre i htk (.inr (by omega))
      have hz : cmpF cmpI a b = 0 := by rw [e]; exact (torF torI).self b
      rw [hz]
      ((conv => whnf); repeat' ((first | refine odw ?_ | refine ify ?_ | refine ifn ?_ | refine i6 ?_ | refine ati ?_ | refine mst ?_ | refine rmd ?_ | refine ibo (fun _ => ?_) (fun _ => ?_)) <;> conv => whnf))
      exact rfl
  · have e := hpre i htk (.inl (by omega))
    have hz : cmpF cmpI a b = 0 := by rw [e]; exact (torF torI).self b
    rw [hz]
    ((conv => whnf); repeat' ((first | refine odw ?_ | refine ify ?_ | refine ifn ?_ | refine i6 ?_ | refine ati ?_ | refine mst ?_ | refine rmd ?_ | refine ibo (fun _ => ?_) (fun _ => ?_)) <;> conv => whnf))
    exact rfl
def pl_r9m : List (Nat × Plan) := [(6, .leaf [0, 1, 0, 0, 1, 0, 0, 0, 1, 0, 0, 0, 1, 2, 1, 2, 0, 0] [0, 3, 1, 2, 4, 5, 6, 7, 9, 10, 11, 8, 12, 14, 13, 15, 16, 17] [0, 1, 3, 0, 8, 24, 63, 127, 255, 255, 255, 1791, 3839, 8191, 255, 32767, 65535, 131071])]
def G_r9m : List FuncId := [97, 99, 98]
theorem cok_r9m : codeOk Tryz.prog G_r9m pl_r9m (Tryz.f40.body.getD .skip) = true := by kernel_rfl
theorem run_r9m (vs : Array Value) (w : World) : (callFunc 40 vs).run C1.P w = .ok (.enter 40 vs) w := by kernel_rfl
set_option maxHeartbeats 8000000 in
theorem rmaps_pure {n m : Nat} {p q : Pt} (hp : PtOk n p) (hq : PtOk m q) (hn : n ≤ 8) (hm : m ≤ 8) (hE : p.edges.length ≤ 64) (hF : q.edges.length ≤ 64) : Pure C1 40 [dPt p, dPt q] (fun y => y = .list 1 (((allO n).filter fun o => decide (n = m ∧ cmpP (turnP p o) q = 0)).map dIs)) := by
  have hpl := hp.len
  have hql := hq.len
  have hdp : (p.labels.map dI).length = p.labels.length := List.length_map _
  have hdq : (q.labels.map dI).length = q.labels.length := List.length_map _
  have hal : Pure C1 97 [.int .i64 (p.labels.map dI).length] (fun y => y = .list 1 ((allO n).map dIs)) := by rw [hdp, hpl]; exact rall_pure n hn
  have hXo : ∀ o ∈ allO n, IsOrd n o := fun o ho => mem_allO.1 ho
  have hXl : (allO n).length ≤ 40320 := by rw [allO_len]; exact facN_le n hn
  generalize allO n = X at hal hXo hXl ⊢
  have hdX : (X.map dIs).length = X.length := List.length_map _
  refine pure_of c1_ok (pl := pl_r9m) (G := G_r9m) Tryz.func40 rfl Tryz.ntmps40 run_r9m cok_r9m (by simp) ?_
  (conv => whnf)
  (repeat' ((first | refine ord_ok (by (conv => whnf); (repeat' ((first | refine call_eq rfl hal ?_ | refine ify ?_ | refine ifn ?_ | refine i6 ?_ | refine ati ?_ | refine mst ?_ | refine rmd ?_ | refine ibo (fun _ => ?_) (fun _ => ?_)) <;> conv => whnf)); (all_goals (repeat' (first | exact trivial | exact rfl | refine And.intro ?_ ?_)))) ?_ | refine call_eq rfl hal ?_ | refine ify ?_ | refine ifn ?_ | refine i6 ?_ | refine ati ?_ | refine mst ?_ | refine rmd ?_ | refine ibo (fun _ => ?_) (fun _ => ?_)) <;> conv => whnf))
  refine loop_lo (ι := Nat) (fun i => i ≤ X.length) (fun i => [(7, .d (.int .i64 i)), (6, .d (.list 1 (X.map dIs))), (5, .own 300), (3, .own 3), (2, .own 2)]) (fun i => [(2, .cells 25 [.d (dIs p.labels), .d (dEs p.edges)]), (3, .cells 25 [.d (dIs q.labels), .d (dEs q.edges)]), (300, .slice 22 1 (((X.take i).filter fun o => decide (n = m ∧ cmpP (turnP p o) q = 0)).map dIs))]) (fun i => X.length - i) 0 (fun _ => rfl) (Nat.zero_le _) (.own 5 300 22 1 rfl rfl (.refl _ _)) ⟨rfl, rfl, rfl, rfl, rfl, trivial⟩ ⟨rfl, rfl, rfl, trivial⟩ ?_
  intro i hi
  refine sxCode_sound c1_ok (G := G_r9m) (pl := pl_r9m) _ _ _ _ (by kernel_rfl) ?_
  by_cases hil : i < X.length
  · have hx := List.getElem?_eq_getElem hil
    have hxo := hXo _ (List.getElem_mem hil)
    generalize X[i] = o at hx hxo
    have hxd : (X.map dIs)[i]? = some (dIs o) := by rw [List.getElem?_map, hx]; rfl
    have hst : (X.take (i + 1)).filter (fun o => decide (n = m ∧ cmpP (turnP p o) q = 0)) = (X.take i).filter (fun o => decide (n = m ∧ cmpP (turnP p o) q = 0)) ++ if n = m ∧ cmpP (turnP p o) q = 0 then [o] else [] := by
      rw [List.take_add_one, hx, Option.toList_some, List.filter_append]
      congr 1
      by_cases hh : n = m ∧ cmpP (turnP p o) q = 0 <;> simp [hh]
    have hfl : ((X.take i).filter fun o => decide (n = m ∧ cmpP (turnP p o) q = 0)).length ≤ 40320 := Nat.le_trans (List.length_filter_le _ _) (by rw [List.length_take]; omega)
    generalize (X.take i).filter (fun o => decide (n = m ∧ cmpP (turnP p o) q = 0)) = F at hst hfl ⊢
    have ht := rturn_pure hp hxo hn hE
    have hto := turnP_ok hxo hp
    have hc := rcmp_pure (turnP p o) q (by rw [hto.len]; omega) (by rw [turnP_edge_len hxo hp]; omega) (by omega) (by omega)
    generalize cmpP (turnP p o) q = z at hc hst
    generalize turnP p o = tp at ht hc
    by_cases hnm : n = m
    · by_cases hz : z = 0
      · rw [if_pos ⟨hnm, hz⟩] at hst
        (conv => whnf)
        (repeat' ((first | refine ord_ok (by (conv => whnf); (repeat' ((first | refine at_da hxd rfl ?_ | refine call_eq rfl ht ?_ | refine call_eq rfl hc ?_ | refine ify ?_ | refine ifn ?_ | refine i6 ?_ | refine ati ?_ | refine mst ?_ | refine rmd ?_ | refine ibo (fun _ => ?_) (fun _ => ?_)) <;> conv => whnf)); (all_goals (repeat' (first | exact trivial | exact rfl | refine And.intro ?_ ?_)))) ?_ | refine at_da hxd rfl ?_ | refine call_eq rfl ht ?_ | refine call_eq rfl hc ?_ | refine ify ?_ | refine ifn ?_ | refine i6 ?_ | refine ati ?_ | refine mst ?_ | refine rmd ?_ | refine ibo (fun _ => ?_) (fun _ => ?_)) <;> conv => whnf))
        exact ⟨i + 1, _, _, hil, .refl _ _, ⟨rfl, rfl, rfl, rfl, rfl, trivial⟩, ⟨rfl, rfl, slice_is (by rw [hst, List.map_append]; rfl), trivial⟩, by omega⟩
      · rw [if_neg (fun h => hz h.2), List.append_nil] at hst
        (conv => whnf)
        (repeat' ((first | refine ord_ok (by (conv => whnf); (repeat' ((first | refine at_da hxd rfl ?_ | refine call_eq rfl ht ?_ | refine call_eq rfl hc ?_ | refine ify ?_ | refine ifn ?_ | refine i6 ?_ | refine ati ?_ | refine mst ?_ | refine rmd ?_ | refine ibo (fun _ => ?_) (fun _ => ?_)) <;> conv => whnf)); (all_goals (repeat' (first | exact trivial | exact rfl | refine And.intro ?_ ?_)))) ?_ | refine at_da hxd rfl ?_ | refine call_eq rfl ht ?_ | refine call_eq rfl hc ?_ | refine ify ?_ | refine ifn ?_ | refine i6 ?_ | refine ati ?_ | refine mst ?_ | refine rmd ?_ | refine ibo (fun _ => ?_) (fun _ => ?_)) <;> conv => whnf))
        exact ⟨i + 1, _, _, hil, .refl _ _, ⟨rfl, rfl, rfl, rfl, rfl, trivial⟩, ⟨rfl, rfl, slice_is (by rw [hst]), trivial⟩, by omega⟩
    · rw [if_neg (fun h => hnm h.1), List.append_nil] at hst
      (conv => whnf)
      (repeat' ((first | refine ord_ok (by (conv => whnf); (repeat' ((first | refine at_da hxd rfl ?_ | refine call_eq rfl ht ?_ | refine call_eq rfl hc ?_ | refine ify ?_ | refine ifn ?_ | refine i6 ?_ | refine ati ?_ | refine mst ?_ | refine rmd ?_ | refine ibo (fun _ => ?_) (fun _ => ?_)) <;> conv => whnf)); (all_goals (repeat' (first | exact trivial | exact rfl | refine And.intro ?_ ?_)))) ?_ | refine at_da hxd rfl ?_ | refine call_eq rfl ht ?_ | refine call_eq rfl hc ?_ | refine ify ?_ | refine ifn ?_ | refine i6 ?_ | refine ati ?_ | refine mst ?_ | refine rmd ?_ | refine ibo (fun _ => ?_) (fun _ => ?_)) <;> conv => whnf))
      exact ⟨i + 1, _, _, hil, .refl _ _, ⟨rfl, rfl, rfl, rfl, rfl, trivial⟩, ⟨rfl, rfl, slice_is (by rw [hst]), trivial⟩, by omega⟩
  · have e : X.take i = X := List.take_of_length_le (by omega)
    rw [e]
    ((conv => whnf); repeat' ((first | refine odw ?_ | refine ify ?_ | refine ifn ?_ | refine i6 ?_ | refine ati ?_ | refine mst ?_ | refine rmd ?_ | refine ibo (fun _ => ?_) (fun _ => ?_)) <;> conv => whnf))
    exact rfl
def pl_r9o : List (Nat × Plan) := []
def G_r9o : List FuncId := [40, 101]
theorem cok_r9o : codeOk Tryz.prog G_r9o pl_r9o (Tryz.f42.body.getD .skip) = true := by kernel_rfl
theorem run_r9o (vs : Array Value) (w : World) : (callFunc 42 vs).run C1.P w = .ok (.enter 42 vs) w := by kernel_rfl
set_option maxHeartbeats 8000000 in
theorem rorbit_pure {n : Nat} {p : Pt} (hp : PtOk n p) (hn : n ≤ 8) (hE : p.edges.length ≤ 64) {v : Nat} (hv : v < n) : Pure C1 42 [dPt p, .int .i64 v] (fun y => y = dIs (orbS p v)) := by
  have hmp := rmaps_pure hp hp hn hn hE hE
  have hma : (allO n).filter (fun o => decide (n = n ∧ cmpP (turnP p o) p = 0)) = mapsP p p := by
    rw [maps_all hp hp]
    refine List.filter_congr fun o _ => ?_
    simp
  rw [hma] at hmp
  have hXo : ∀ o ∈ mapsP p p, IsOrd n o := fun o ho => own_ord hp ho
  have hXl := maps_le p p (by rw [hp.len]; exact hn)
  unfold orbS
  generalize mapsP p p = X at hmp hXo hXl ⊢
  have hdX : (X.map dIs).length = X.length := List.length_map _
  refine pure_of c1_ok (pl := pl_r9o) (G := G_r9o) Tryz.func42 rfl Tryz.ntmps42 run_r9o cok_r9o (by simp) ?_
  (conv => whnf)
  (repeat' ((first | refine ord_ok (by (conv => whnf); (repeat' ((first | refine call_eq rfl hmp ?_ | refine ify ?_ | refine ifn ?_ | refine i6 ?_ | refine ati ?_ | refine mst ?_ | refine rmd ?_ | refine ibo (fun _ => ?_) (fun _ => ?_)) <;> conv => whnf)); (all_goals (repeat' (first | exact trivial | exact rfl | refine And.intro ?_ ?_)))) ?_ | refine call_eq rfl hmp ?_ | refine ify ?_ | refine ifn ?_ | refine i6 ?_ | refine ati ?_ | refine mst ?_ | refine rmd ?_ | refine ibo (fun _ => ?_) (fun _ => ?_)) <;> conv => whnf))
  refine loop_lo (ι := Nat × List Int) (fun x => (x.1 ≤ X.length ∧ x.2.length ≤ x.1) ∧ x.2.Pairwise (· < ·) ∧ ∀ y, y ∈ x.2 ↔ y ∈ (X.take x.1).map fun o => (o[v]?).getD 0) (fun x => [(7, .d (.int .i64 (x.1 : Nat))), (6, .d (dIs x.2)), (5, .d (.list 1 (X.map dIs))), (1, .d (.int .i64 v))]) (fun _ => []) (fun x => X.length - x.1) (0, []) (fun _ => rfl)
    ⟨⟨Nat.zero_le _, Nat.le_refl _⟩, List.Pairwise.nil, by simp⟩ (.lax 6 rfl (.nils 1) (.refl _ _)) ⟨rfl, rfl, rfl, rfl, trivial⟩ trivial ?_
  rintro ⟨i, s⟩ ⟨⟨hi, hsl⟩, hr, hm⟩
  dsimp only at hi hsl hr hm
  refine sxCode_sound c1_ok (G := G_r9o) (pl := pl_r9o) _ _ _ _ (by kernel_rfl) ?_
  by_cases hlt : i < X.length
  · have hx := List.getElem?_eq_getElem hlt
    have hxo := hXo _ (List.getElem_mem hlt)
    generalize X[i] = o at hx hxo
    have hxd : (X.map dIs)[i]? = some (dIs o) := by rw [List.getElem?_map, hx]; rfl
    have hy := pl_at hxo hv
    generalize pl o v = u at hy
    have hyd : (o.map dI)[v]? = some (.int .i64 u) := by rw [List.getElem?_map, hy]; rfl
    have hrow := row_snoc hx hy
    (conv => whnf)
    (repeat' ((first | refine ord_ok (by (conv => whnf); (repeat' ((first | refine at_da hxd rfl ?_ | refine at_da hyd (by omega) ?_ | refine ify ?_ | refine ifn ?_ | refine i6 ?_ | refine ati ?_ | refine mst ?_ | refine rmd ?_ | refine ibo (fun _ => ?_) (fun _ => ?_)) <;> conv => whnf)); (all_goals (repeat' (first | exact trivial | exact rfl | refine And.intro ?_ ?_)))) ?_ | refine at_da hxd rfl ?_ | refine at_da hyd (by omega) ?_ | refine ify ?_ | refine ifn ?_ | refine i6 ?_ | refine ati ?_ | refine mst ?_ | refine rmd ?_ | refine ibo (fun _ => ?_) (fun _ => ?_)) <;> conv => whnf))
    refine call_pure rfl (radd_pure s u hr (by omega)) ?_
    rintro y ⟨t, rfl, h1, h2, h3⟩
    ((conv => whnf); repeat' ((first | refine odw ?_ | refine ify ?_ | refine ifn ?_ | refine i6 ?_ | refine ati ?_ | refine mst ?_ | refine rmd ?_ | refine ibo (fun _ => ?_) (fun _ => ?_)) <;> conv => whnf))
    refine ⟨(i + 1, t), _, _, ⟨⟨hlt, by dsimp only; omega⟩, h1, fun y => ?_⟩, .refl _ _, ⟨rfl, rfl, rfl, rfl, trivial⟩, trivial, by dsimp only; omega⟩
    dsimp only
    rw [h2, hm, hrow, List.mem_append, List.mem_singleton]
    exact or_comm
  · have hii : X.take i = X := List.take_of_length_le (by omega)
    rw [hii] at hm
    have he : s = setOf (X.map fun o => (o[v]?).getD 0) := rise_eq hr (setOf_spec _).1 fun x => by rw [hm, (setOf_spec _).2]
    ((conv => whnf); repeat' ((first | refine odw ?_ | refine ify ?_ | refine ifn ?_ | refine i6 ?_ | refine ati ?_ | refine mst ?_ | refine rmd ?_ | refine ibo (fun _ => ?_) (fun _ => ?_)) <;> conv => whnf))
    rw [he]
    exact rfl
end Go.Proofs.YthegabgbakckfaaGreatDoor
