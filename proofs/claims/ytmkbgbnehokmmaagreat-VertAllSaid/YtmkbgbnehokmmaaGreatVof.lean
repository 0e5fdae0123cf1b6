/- ref06: Add, Of. · vert: what no graph tells. -/
import Derived.Test.YtmkbgbnehokmmaaGreatSrq
namespace Go.Proofs.YtmkbgbnehokmmaaGreat
open Go.Sx Go.RowKit Go.Reg Go.Gr

set_option maxRecDepth 100000
theorem add_spec {s : List Int} {n : Int} {k : Nat} (hs : s.Pairwise (· < ·)) (h1 : ∀ y ∈ s.take k, y < n) (h2 : ∀ y ∈ s.drop k, n < y) :
    ((s.take k ++ [n]) ++ s.drop k).Pairwise (· < ·) ∧ (∀ x, x ∈ (s.take k ++ [n]) ++ s.drop k ↔ x = n ∨ x ∈ s) ∧ ((s.take k ++ [n]) ++ s.drop k).length ≤ s.length + 1 := by
  refine ⟨?_, fun x => ?_, ?_⟩
  · rw [List.pairwise_append, List.pairwise_append]
    refine ⟨⟨hs.sublist (List.take_sublist _ _), by simp, fun a ha b hb => ?_⟩, hs.sublist (List.drop_sublist _ _), fun a ha b hb => ?_⟩
    · rw [List.mem_singleton] at hb; subst hb; exact h1 a ha
    · have := h2 b hb
      rcases List.mem_append.1 ha with ha | ha
      · have := h1 a ha; omega
      · rw [List.mem_singleton] at ha; omega
  · have : x ∈ s ↔ x ∈ s.take k ∨ x ∈ s.drop k := by rw [← List.mem_append, List.take_append_drop]
    rw [this]
    simp only [List.mem_append, List.mem_singleton]
    constructor
    · rintro ((h | h) | h)
      · exact .inr (.inl h)
      · exact .inl h
      · exact .inr (.inr h)
    · rintro (h | h | h)
      · exact .inl (.inr h)
      · exact .inl (.inl h)
      · exact .inr h
  · simp only [List.length_append, List.length_take, List.length_drop, List.length_singleton]; omega
def pl_r6a : List (Nat × Plan) := []
def G_r6a : List FuncId := [38]
theorem cok_r6a : codeOk Tryz.prog G_r6a pl_r6a (Tryz.f25.body.getD .skip) = true := by kernel_rfl
theorem run_r6a (vs : Array Value) (w : World) : (callFunc 25 vs).run C1.P w = .ok (.enter 25 vs) w := by kernel_rfl
theorem add06_pure (s : List Int) (n : Int) (hs : s.Pairwise (· < ·)) (hl : s.length ≤ 4294967295) : Pure C1 25 [dIs s, .int .i64 n] (fun y => ∃ t : List Int, y = dIs t ∧ t.Pairwise (· < ·) ∧ (∀ x, x ∈ t ↔ x = n ∨ x ∈ s) ∧ t.length ≤ s.length + 1) := by
  have hsl : (s.map dI).length = s.length := List.length_map _
  have hh := has06_pure s n
  refine pure_of c1_ok (pl := pl_r6a) (G := G_r6a) Tryz.func25 rfl Tryz.ntmps25 run_r6a cok_r6a (by simp) ?_
  by_cases hn : n ∈ s
  · rw [decide_eq_true hn] at hh
    (conv => whnf)
    (repeat' ((first | refine ord_ok (by (conv => whnf); (repeat' ((first | refine call_eq rfl hh ?_ | refine ify ?_ | refine ifn ?_ | refine i6 ?_ | refine ati ?_ | refine mst ?_ | refine rmd ?_ | refine ibo (fun _ => ?_) (fun _ => ?_)) <;> conv => whnf)); (all_goals (repeat' (first | exact trivial | exact rfl | refine And.intro ?_ ?_)))) ?_ | refine call_eq rfl hh ?_ | refine ify ?_ | refine ifn ?_ | refine i6 ?_ | refine ati ?_ | refine mst ?_ | refine rmd ?_ | refine ibo (fun _ => ?_) (fun _ => ?_)) <;> conv => whnf))
    exact ⟨s, rfl, hs, fun x => ⟨.inr, fun h => h.elim (fun e => e ▸ hn) id⟩, by omega⟩
  · rw [decide_eq_false hn] at hh
    (conv => whnf)
    (repeat' ((first | refine ord_ok (by (conv => whnf); (repeat' ((first | refine call_eq rfl hh ?_ | refine ify ?_ | refine ifn ?_ | refine i6 ?_ | refine ati ?_ | refine mst ?_ | refine rmd ?_ | refine ibo (fun _ => ?_) (fun _ => ?_)) <;> conv => whnf)); (all_goals (repeat' (first | exact trivial | exact rfl | refine And.intro ?_ ?_)))) ?_ | refine call_eq rfl hh ?_ | refine ify ?_ | refine ifn ?_ | refine i6 ?_ | refine ati ?_ | refine mst ?_ | refine rmd ?_ | refine ibo (fun _ => ?_) (fun _ => ?_)) <;> conv => whnf))
    refine loop_lo (ι := Nat) (fun k => k ≤ s.length ∧ ∀ y ∈ s.take k, y < n) (fun k => [(5, .d (.int .i64 k)), (1, .d (.int .i64 n)), (0, .d (dIs s))]) (fun _ => []) (fun k => s.length - k) 0 (fun _ => rfl) ⟨Nat.zero_le _, by simp⟩ (.refl _ _) ⟨rfl, rfl, rfl, trivial⟩ trivial ?_
    rintro k ⟨hk, hlo⟩
    refine sxCode_sound c1_ok (G := G_r6a) (pl := pl_r6a) _ _ _ _ (by kernel_rfl) ?_
    have hfin : ((s.map dI).take k ++ [.int .i64 n]) ++ (s.map dI).drop k = ((s.take k ++ [n]) ++ s.drop k).map dI := by
      rw [List.map_append, List.map_append, List.map_take, List.map_drop]; rfl
    by_cases hlt : k < s.length
    · have hx := List.getElem?_eq_getElem hlt
      have hxm := List.getElem_mem hlt
      have hge : ∀ y ∈ s.drop k, s[k] ≤ y := by
        intro y hy
        obtain ⟨j, hj, rfl⟩ := List.mem_drop_iff_getElem.1 hy
        rcases Nat.eq_zero_or_pos j with e | e
        · subst e; simp
        · have := List.pairwise_iff_getElem.1 hs k (k + j) hlt (by omega) (by omega); omega
      generalize s[k] = x at hx hxm hge
      have hxd : (s.map dI)[k]? = some (.int .i64 x) := by rw [List.getElem?_map, hx]; rfl
      by_cases hxn : x < n
      · (conv => whnf)
        (repeat' ((first | refine ord_ok (by (conv => whnf); (repeat' ((first | refine at_da hxd rfl ?_ | refine ify ?_ | refine ifn ?_ | refine i6 ?_ | refine ati ?_ | refine mst ?_ | refine rmd ?_ | refine ibo (fun _ => ?_) (fun _ => ?_)) <;> conv => whnf)); (all_goals (repeat' (first | exact trivial | exact rfl | refine And.intro ?_ ?_)))) ?_ | refine at_da hxd rfl ?_ | refine ify ?_ | refine ifn ?_ | refine i6 ?_ | refine ati ?_ | refine mst ?_ | refine rmd ?_ | refine ibo (fun _ => ?_) (fun _ => ?_)) <;> conv => whnf))
        refine ⟨k + 1, _, _, ⟨hlt, ?_⟩, .refl _ _, ⟨rfl, rfl, rfl, trivial⟩, trivial, by omega⟩
        intro y hy
        rw [List.take_add_one, hx] at hy
        rcases List.mem_append.1 hy with hy | hy
        · exact hlo y hy
        · simp at hy; subst hy; exact hxn
      · have hne : x ≠ n := fun e => hn (e ▸ hxm)
        obtain ⟨g1, g2, g3⟩ := add_spec hs hlo (fun y hy => by have := hge y hy; omega)
        (conv => whnf)
        (repeat' ((first | refine ord_ok (by (conv => whnf); (repeat' ((first | refine at_da hxd rfl ?_ | refine sl_is k rfl (by omega) ?_ | refine hi_is rfl (show k ≤ (s.map dI).length by omega) ?_ | refine ify ?_ | refine ifn ?_ | refine i6 ?_ | refine ati ?_ | refine mst ?_ | refine rmd ?_ | refine ibo (fun _ => ?_) (fun _ => ?_)) <;> conv => whnf)); (all_goals (repeat' (first | exact trivial | exact rfl | refine And.intro ?_ ?_)))) ?_ | refine at_da hxd rfl ?_ | refine sl_is k rfl (by omega) ?_ | refine hi_is rfl (show k ≤ (s.map dI).length by omega) ?_ | refine ify ?_ | refine ifn ?_ | refine i6 ?_ | refine ati ?_ | refine mst ?_ | refine rmd ?_ | refine ibo (fun _ => ?_) (fun _ => ?_)) <;> conv => whnf))
        exact ⟨_, congrArg (Da.list 1) hfin, g1, g2, g3⟩
    · have hke : k = s.length := by omega
      obtain ⟨g1, g2, g3⟩ := add_spec hs hlo (fun y hy => by rw [hke, List.drop_length] at hy; cases hy)
      (conv => whnf)
      (repeat' ((first | refine ord_ok (by (conv => whnf); (repeat' ((first | refine sl_is k rfl (by omega) ?_ | refine hi_is rfl (show k ≤ (s.map dI).length by omega) ?_ | refine ify ?_ | refine ifn ?_ | refine i6 ?_ | refine ati ?_ | refine mst ?_ | refine rmd ?_ | refine ibo (fun _ => ?_) (fun _ => ?_)) <;> conv => whnf)); (all_goals (repeat' (first | exact trivial | exact rfl | refine And.intro ?_ ?_)))) ?_ | refine sl_is k rfl (by omega) ?_ | refine hi_is rfl (show k ≤ (s.map dI).length by omega) ?_ | refine ify ?_ | refine ifn ?_ | refine i6 ?_ | refine ati ?_ | refine mst ?_ | refine rmd ?_ | refine ibo (fun _ => ?_) (fun _ => ?_)) <;> conv => whnf))
      exact ⟨_, congrArg (Da.list 1) hfin, g1, g2, g3⟩
def pl_r6o : List (Nat × Plan) := []
def G_r6o : List FuncId := [25]
theorem cok_r6o : codeOk Tryz.prog G_r6o pl_r6o (Tryz.f10.body.getD .skip) = true := by kernel_rfl
theorem run_r6o (vs : Array Value) (w : World) : (callFunc 10 vs).run C1.P w = .ok (.enter 10 vs) w := by kernel_rfl
theorem of06_pure (l : List Int) (hl : l.length ≤ 1000000) : Pure C1 10 [dIs l] (fun y => y = dIs (setOf l)) := by
  have hll : (l.map dI).length = l.length := List.length_map _
  refine pure_of c1_ok (pl := pl_r6o) (G := G_r6o) Tryz.func10 rfl Tryz.ntmps10 run_r6o cok_r6o (by simp) ?_
  ((conv => whnf); repeat' ((first | refine odw ?_ | refine ify ?_ | refine ifn ?_ | refine i6 ?_ | refine ati ?_ | refine mst ?_ | refine rmd ?_ | refine ibo (fun _ => ?_) (fun _ => ?_)) <;> conv => whnf))
  refine loop_lo (ι := Nat × List Int) (fun x => (x.1 ≤ l.length ∧ x.2.length ≤ x.1) ∧ x.2.Pairwise (· < ·) ∧ ∀ y, y ∈ x.2 ↔ y ∈ l.take x.1) (fun x => [(4, .d (.int .i64 (x.1 : Nat))), (3, .d (dIs x.2)), (0, .d (dIs l))]) (fun _ => []) (fun x => l.length - x.1) (0, []) (fun _ => rfl)
    ⟨⟨Nat.zero_le _, Nat.le_refl _⟩, List.Pairwise.nil, by simp⟩ (.lax 3 rfl (.nils 1) (.refl _ _)) ⟨rfl, rfl, rfl, trivial⟩ trivial ?_
  rintro ⟨i, s⟩ ⟨⟨hi, hsl⟩, hr, hm⟩
  dsimp only at hi hsl hr hm
  refine sxCode_sound c1_ok (G := G_r6o) (pl := pl_r6o) _ _ _ _ (by kernel_rfl) ?_
  by_cases hlt : i < l.length
  · have hx := List.getElem?_eq_getElem hlt
    generalize l[i] = x at hx
    have hxd : (l.map dI)[i]? = some (.int .i64 x) := by rw [List.getElem?_map, hx]; rfl
    (conv => whnf)
    (repeat' ((first | refine ord_ok (by (conv => whnf); (repeat' ((first | refine at_da hxd rfl ?_ | refine ify ?_ | refine ifn ?_ | refine i6 ?_ | refine ati ?_ | refine mst ?_ | refine rmd ?_ | refine ibo (fun _ => ?_) (fun _ => ?_)) <;> conv => whnf)); (all_goals (repeat' (first | exact trivial | exact rfl | refine And.intro ?_ ?_)))) ?_ | refine at_da hxd rfl ?_ | refine ify ?_ | refine ifn ?_ | refine i6 ?_ | refine ati ?_ | refine mst ?_ | refine rmd ?_ | refine ibo (fun _ => ?_) (fun _ => ?_)) <;> conv => whnf))
    refine call_pure rfl (add06_pure s x hr (by omega)) ?_
    rintro y ⟨t, rfl, h1, h2, h3⟩
    ((conv => whnf); repeat' ((first | refine odw ?_ | refine ify ?_ | refine ifn ?_ | refine i6 ?_ | refine ati ?_ | refine mst ?_ | refine rmd ?_ | refine ibo (fun _ => ?_) (fun _ => ?_)) <;> conv => whnf))
    refine ⟨(i + 1, t), _, _, ⟨⟨hlt, by dsimp only; omega⟩, h1, fun y => ?_⟩, .refl _ _, ⟨rfl, rfl, rfl, trivial⟩, trivial, by dsimp only; omega⟩
    dsimp only
    rw [h2, hm, List.take_add_one, hx, Option.toList_some, List.mem_append, List.mem_singleton]
    exact or_comm
  · have hii : l.take i = l := List.take_of_length_le (by omega)
    rw [hii] at hm
    have he : s = setOf l := rise_eq hr (setOf_spec l).1 fun x => by rw [hm, (setOf_spec l).2]
    ((conv => whnf); repeat' ((first | refine odw ?_ | refine ify ?_ | refine ifn ?_ | refine i6 ?_ | refine ati ?_ | refine mst ?_ | refine rmd ?_ | refine ibo (fun _ => ?_) (fun _ => ?_)) <;> conv => whnf))
    rw [he]
    exact rfl
end Go.Proofs.YtmkbgbnehokmmaaGreat

namespace Go.Proofs.YtmkbgbnehokmmaaGreat
open Go.Sx Go.RowKit Go.Reg Go.Gr

set_option maxRecDepth 100000
theorem vhas_nil (v : Int) : Pure C1 32 [.nilp, .int .i64 v] (fun y => y = .bool false) := by
  refine pure_of c1_ok (pl := pl_vhas) (G := G_vhas) Tryz.func32 rfl Tryz.ntmps32 run_vhas cok_vhas (by simp) ?_
  by_cases h0 : 0 ≤ v
  · have h1 : ¬ v < 0 := by omega
    (conv => whnf)
    (repeat' ((first | refine ord_ok (by (conv => whnf); (repeat' ((first | refine call_eq rfl len_nil ?_ | refine ify ?_ | refine ifn ?_ | refine i6 ?_ | refine ati ?_ | refine mst ?_ | refine rmd ?_ | refine ibo (fun _ => ?_) (fun _ => ?_)) <;> conv => whnf)); (all_goals (repeat' (first | exact trivial | exact rfl | refine And.intro ?_ ?_)))) ?_ | refine call_eq rfl len_nil ?_ | refine ify ?_ | refine ifn ?_ | refine i6 ?_ | refine ati ?_ | refine mst ?_ | refine rmd ?_ | refine ibo (fun _ => ?_) (fun _ => ?_)) <;> conv => whnf))
    show Da.plain _ = _
    simp [Da.plain, h1]
  · (conv => whnf)
    (repeat' ((first | refine ord_ok (by (conv => whnf); (repeat' ((first | refine call_eq rfl len_nil ?_ | refine ify ?_ | refine ifn ?_ | refine i6 ?_ | refine ati ?_ | refine mst ?_ | refine rmd ?_ | refine ibo (fun _ => ?_) (fun _ => ?_)) <;> conv => whnf)); (all_goals (repeat' (first | exact trivial | exact rfl | refine And.intro ?_ ?_)))) ?_ | refine call_eq rfl len_nil ?_ | refine ify ?_ | refine ifn ?_ | refine i6 ?_ | refine ati ?_ | refine mst ?_ | refine rmd ?_ | refine ibo (fun _ => ?_) (fun _ => ?_)) <;> conv => whnf))
    exact rfl
theorem list1_nil (v : Int) : Pure C1 31 [.int .i64 v, .ref .nilp] (fun y => y = .bool true) := by
  refine pure_of c1_ok (pl := pl_vl1) (G := G_vl1) Tryz.func31 rfl Tryz.ntmps31 run_vl1 cok_vl1 (by simp) ?_
  (conv => whnf)
  (repeat' ((first | refine ord_ok (by (conv => whnf); (repeat' ((first | refine call_eq rfl (vhas_nil v) ?_ | refine ify ?_ | refine ifn ?_ | refine i6 ?_ | refine ati ?_ | refine mst ?_ | refine rmd ?_ | refine ibo (fun _ => ?_) (fun _ => ?_)) <;> conv => whnf)); (all_goals (repeat' (first | exact trivial | exact rfl | refine And.intro ?_ ?_)))) ?_ | refine call_eq rfl (vhas_nil v) ?_ | refine ify ?_ | refine ifn ?_ | refine i6 ?_ | refine ati ?_ | refine mst ?_ | refine rmd ?_ | refine ibo (fun _ => ?_) (fun _ => ?_)) <;> conv => whnf))
  exact rfl
theorem set_zero : setOf [0] = [0] := rise_eq (setOf_spec _).1 (by decide) (setOf_spec _).2
theorem list_nilg : Pure C1 13 [.nilp, dIs [0]] (fun y => y = .tuple [.nils, .bool false]) := by
  have hof := of_mksl [0] (by decide)
  rw [set_zero] at hof
  have hcf := containsF_pure [0] 31 [.ref .nilp] (fun _ => true) (fun v _ => list1_nil v)
  refine pure_of c1_ok (pl := pl_vls) (G := G_vls) Tryz.func13 rfl Tryz.ntmps13 run_vls cok_vls (by simp) ?_
  (conv => whnf)
  refine call_mksl 300 rfl rfl hof ?_; rintro ds rfl
  (conv => whnf)
  (repeat' ((first | refine ord_ok (by (conv => whnf); (repeat' ((first | refine call_eqb tab rfl hcf rfl ?_ | refine ify ?_ | refine ifn ?_ | refine i6 ?_ | refine ati ?_ | refine mst ?_ | refine rmd ?_ | refine ibo (fun _ => ?_) (fun _ => ?_)) <;> conv => whnf)); (all_goals (repeat' (first | exact trivial | exact rfl | refine And.intro ?_ ?_)))) ?_ | refine call_eqb tab rfl hcf rfl ?_ | refine ify ?_ | refine ifn ?_ | refine i6 ?_ | refine ati ?_ | refine mst ?_ | refine rmd ?_ | refine ibo (fun _ => ?_) (fun _ => ?_)) <;> conv => whnf))
  exact rfl
theorem linked_nilg : Pure C1 15 [.nilp, dIs [0]] (fun y => y = .bool false) := by
  refine pure_of c1_ok (pl := pl_vlk) (G := G_vlk) Tryz.func15 rfl Tryz.ntmps15 run_vlk cok_vlk (by simp) ?_
  ((conv => whnf); repeat' ((first | refine odw ?_ | refine ify ?_ | refine ifn ?_ | refine i6 ?_ | refine ati ?_ | refine mst ?_ | refine rmd ?_ | refine ibo (fun _ => ?_) (fun _ => ?_)) <;> conv => whnf))
  refine loop_lo (ι := Unit) (fun _ => True) (fun i => [(9, .d (.int .i64 0)), (8, .d (.int .i64 1)), (7, .d (dIs [0])), (1, .d (dIs [0])), (0, .d .nilp)]) (fun _ => []) (fun i => 0) () (fun _ => rfl) trivial (.refl _ _) ⟨rfl, rfl, rfl, rfl, rfl, trivial⟩ trivial ?_
  intro _ _
  refine sxCode_sound c1_ok (G := G_vlk) (pl := pl_vlk) _ _ _ _ (by kernel_rfl) ?_
  (conv => whnf)
  (repeat' ((first | refine ord_ok (by (conv => whnf); (repeat' ((first | refine at_da (i := 0) (d := .int .i64 0) rfl rfl ?_ | refine call_eq rfl (vhas_nil 0) ?_ | refine ify ?_ | refine ifn ?_ | refine i6 ?_ | refine ati ?_ | refine mst ?_ | refine rmd ?_ | refine ibo (fun _ => ?_) (fun _ => ?_)) <;> conv => whnf)); (all_goals (repeat' (first | exact trivial | exact rfl | refine And.intro ?_ ?_)))) ?_ | refine at_da (i := 0) (d := .int .i64 0) rfl rfl ?_ | refine call_eq rfl (vhas_nil 0) ?_ | refine ify ?_ | refine ifn ?_ | refine i6 ?_ | refine ati ?_ | refine mst ?_ | refine rmd ?_ | refine ibo (fun _ => ?_) (fun _ => ?_)) <;> conv => whnf))
  exact rfl
theorem linked_nil0 (g : Da) : Pure C1 15 [g, .nils] (fun y => y = .bool true) := by
  refine pure_of c1_ok (pl := pl_vlk) (G := G_vlk) Tryz.func15 rfl Tryz.ntmps15 run_vlk cok_vlk (by simp) ?_
  ((conv => whnf); repeat' ((first | refine odw ?_ | refine ify ?_ | refine ifn ?_ | refine i6 ?_ | refine ati ?_ | refine mst ?_ | refine rmd ?_ | refine ibo (fun _ => ?_) (fun _ => ?_)) <;> conv => whnf))
  refine loop_lo (ι := Unit) (fun _ => True) (fun i => [(9, .d (.int .i64 0)), (8, .d (.int .i64 0))]) (fun _ => []) (fun i => 0) () (fun _ => rfl) trivial (.refl _ _) ⟨rfl, rfl, trivial⟩ trivial ?_
  intro _ _
  refine sxCode_sound c1_ok (G := G_vlk) (pl := pl_vlk) _ _ _ _ (by kernel_rfl) ?_
  ((conv => whnf); repeat' ((first | refine odw ?_ | refine ify ?_ | refine ifn ?_ | refine i6 ?_ | refine ati ?_ | refine mst ?_ | refine rmd ?_ | refine ibo (fun _ => ?_) (fun _ => ?_)) <;> conv => whnf))
  exact rfl
theorem canon_nil0 (g : Da) : Pure C1 11 [g, .nils] (fun y => y = .bool true) := by
  refine pure_of c1_ok (pl := pl_vcn) (G := G_vcn) Tryz.func11 rfl Tryz.ntmps11 run_vcn cok_vcn (by simp) ?_
  ((conv => whnf); repeat' ((first | refine odw ?_ | refine ify ?_ | refine ifn ?_ | refine i6 ?_ | refine ati ?_ | refine mst ?_ | refine rmd ?_ | refine ibo (fun _ => ?_) (fun _ => ?_)) <;> conv => whnf))
  refine loop_lo (ι := Unit) (fun _ => True) (fun i => [(9, .d (.int .i64 0)), (8, .d (.int .i64 0))]) (fun _ => []) (fun i => 0) () (fun _ => rfl) trivial (.refl _ _) ⟨rfl, rfl, trivial⟩ trivial ?_
  intro _ _
  refine sxCode_sound c1_ok (G := G_vcn) (pl := pl_vcn) _ _ _ _ (by kernel_rfl) ?_
  ((conv => whnf); repeat' ((first | refine odw ?_ | refine ify ?_ | refine ifn ?_ | refine i6 ?_ | refine ati ?_ | refine mst ?_ | refine rmd ?_ | refine ibo (fun _ => ?_) (fun _ => ?_)) <;> conv => whnf))
  exact rfl
theorem fits_nilg (v : Int) : Pure C1 26 [.nilp, .nils, .int .i64 v] (fun y => y = .bool false) := by
  refine pure_of c1_ok (pl := pl_vft) (G := G_vft) Tryz.func26 rfl Tryz.ntmps26 run_vft cok_vft (by simp) ?_
  (conv => whnf)
  (repeat' ((first | refine ord_ok (by (conv => whnf); (repeat' ((first | refine call_eq rfl (vhas_nil v) ?_ | refine ify ?_ | refine ifn ?_ | refine i6 ?_ | refine ati ?_ | refine mst ?_ | refine rmd ?_ | refine ibo (fun _ => ?_) (fun _ => ?_)) <;> conv => whnf)); (all_goals (repeat' (first | exact trivial | exact rfl | refine And.intro ?_ ?_)))) ?_ | refine call_eq rfl (vhas_nil v) ?_ | refine ify ?_ | refine ifn ?_ | refine i6 ?_ | refine ati ?_ | refine mst ?_ | refine rmd ?_ | refine ibo (fun _ => ?_) (fun _ => ?_)) <;> conv => whnf))
  exact rfl
theorem may_nilg (v : Int) : Pure C1 18 [.nilp, .nils, .int .i64 v] (fun y => y = .bool false) := by
  refine pure_of c1_ok (pl := pl_vmy) (G := G_vmy) Tryz.func18 rfl Tryz.ntmps18 run_vmy cok_vmy (by simp) ?_
  (conv => whnf)
  (repeat' ((first | refine ord_ok (by (conv => whnf); (repeat' ((first | refine call_eq rfl (canon_nil0 .nilp) ?_ | refine call_eq rfl (fits_nilg v) ?_ | refine ify ?_ | refine ifn ?_ | refine i6 ?_ | refine ati ?_ | refine mst ?_ | refine rmd ?_ | refine ibo (fun _ => ?_) (fun _ => ?_)) <;> conv => whnf)); (all_goals (repeat' (first | exact trivial | exact rfl | refine And.intro ?_ ?_)))) ?_ | refine call_eq rfl (canon_nil0 .nilp) ?_ | refine call_eq rfl (fits_nilg v) ?_ | refine ify ?_ | refine ifn ?_ | refine i6 ?_ | refine ati ?_ | refine mst ?_ | refine rmd ?_ | refine ibo (fun _ => ?_) (fun _ => ?_)) <;> conv => whnf))
  exact rfl
theorem next_nilg : Pure C1 20 [.nilp, .nils] (fun y => y = .nils) := by
  refine pure_of c1_ok (pl := pl_vnx) (G := G_vnx) Tryz.func20 rfl Tryz.ntmps20 run_vnx cok_vnx (by simp) ?_
  (conv => whnf)
  (repeat' ((first | refine ord_ok (by (conv => whnf); (repeat' ((first | refine call_eq rfl len_nil ?_ | refine ify ?_ | refine ifn ?_ | refine i6 ?_ | refine ati ?_ | refine mst ?_ | refine rmd ?_ | refine ibo (fun _ => ?_) (fun _ => ?_)) <;> conv => whnf)); (all_goals (repeat' (first | exact trivial | exact rfl | refine And.intro ?_ ?_)))) ?_ | refine call_eq rfl len_nil ?_ | refine ify ?_ | refine ifn ?_ | refine i6 ?_ | refine ati ?_ | refine mst ?_ | refine rmd ?_ | refine ibo (fun _ => ?_) (fun _ => ?_)) <;> conv => whnf))
  refine loop_lo (ι := Unit) (fun _ => True) (fun v => [(14, .d (.int .i64 0)), (13, .d (.int .i64 0)), (5, .d .nils)]) (fun v => []) (fun v => 0) () (fun _ => rfl) trivial (.refl _ _) ⟨rfl, rfl, rfl, trivial⟩ trivial ?_
  intro _ _
  refine sxCode_sound c1_ok (G := G_vnx) (pl := pl_vnx) _ _ _ _ (by kernel_rfl) ?_
  ((conv => whnf); repeat' ((first | refine odw ?_ | refine ify ?_ | refine ifn ?_ | refine i6 ?_ | refine ati ?_ | refine mst ?_ | refine rmd ?_ | refine ibo (fun _ => ?_) (fun _ => ?_)) <;> conv => whnf))
  exact rfl
theorem deleteF_nil (g : FuncId) (cs : List Da) : Pure C1 27 [.nils, .func (.func g) [] cs] (fun y => y = .nils) := by
  have hif : Pure C1 33 [.nils, .func (.func g) [] cs] (fun y => y = .int .i64 (-1)) := Sx.Pure.lax (.cons (.nils 1) (.cons (.refl _) .nil)) (indexF_pure [] g cs (fun _ => false) (by simp))
  refine pure_of c1_ok (pl := pl_dlf) (G := G_dlf) Tryz.func27 rfl Tryz.ntmps27 run_dlf cok_dlf (by simp) ?_
  (conv => whnf)
  (repeat' ((first | refine ord_ok (by (conv => whnf); (repeat' ((first | refine call_eq rfl hif ?_ | refine ify ?_ | refine ifn ?_ | refine i6 ?_ | refine ati ?_ | refine mst ?_ | refine rmd ?_ | refine ibo (fun _ => ?_) (fun _ => ?_)) <;> conv => whnf)); (all_goals (repeat' (first | exact trivial | exact rfl | refine And.intro ?_ ?_)))) ?_ | refine call_eq rfl hif ?_ | refine ify ?_ | refine ifn ?_ | refine i6 ?_ | refine ati ?_ | refine mst ?_ | refine rmd ?_ | refine ibo (fun _ => ?_) (fun _ => ?_)) <;> conv => whnf))
  exact rfl
theorem grow_nilg : Pure C1 12 [.nilp, .nils] (fun y => y = .nils) := by
  have hdl := deleteF_nil 28 [.ref .nilp, .ref .nils]
  refine pure_of c1_ok (pl := pl_vgw) (G := G_vgw) Tryz.func12 rfl Tryz.ntmps12 run_vgw cok_vgw (by simp) ?_
  (conv => whnf)
  (repeat' ((first | refine ord_ok (by (conv => whnf); (repeat' ((first | refine call_eq rfl (canon_nil0 .nilp) ?_ | refine call_eq rfl next_nilg ?_ | refine call_eqb tab rfl hdl rfl ?_ | refine ify ?_ | refine ifn ?_ | refine i6 ?_ | refine ati ?_ | refine mst ?_ | refine rmd ?_ | refine ibo (fun _ => ?_) (fun _ => ?_)) <;> conv => whnf)); (all_goals (repeat' (first | exact trivial | exact rfl | refine And.intro ?_ ?_)))) ?_ | refine call_eq rfl (canon_nil0 .nilp) ?_ | refine call_eq rfl next_nilg ?_ | refine call_eqb tab rfl hdl rfl ?_ | refine ify ?_ | refine ifn ?_ | refine i6 ?_ | refine ati ?_ | refine mst ?_ | refine rmd ?_ | refine ibo (fun _ => ?_) (fun _ => ?_)) <;> conv => whnf))
  exact rfl
theorem bare_nilg : Pure C1 7 [.nilp] (fun y => y = .nils) := by
  refine pure_of c1_ok (pl := pl_vbr) (G := G_vbr) Tryz.func7 rfl Tryz.ntmps7 run_vbr cok_vbr (by simp) ?_
  (conv => whnf)
  (repeat' ((first | refine ord_ok (by (conv => whnf); (repeat' ((first | refine call_eq rfl next_nilg ?_ | refine ify ?_ | refine ifn ?_ | refine i6 ?_ | refine ati ?_ | refine mst ?_ | refine rmd ?_ | refine ibo (fun _ => ?_) (fun _ => ?_)) <;> conv => whnf)); (all_goals (repeat' (first | exact trivial | exact rfl | refine And.intro ?_ ?_)))) ?_ | refine call_eq rfl next_nilg ?_ | refine ify ?_ | refine ifn ?_ | refine i6 ?_ | refine ati ?_ | refine mst ?_ | refine rmd ?_ | refine ibo (fun _ => ?_) (fun _ => ?_)) <;> conv => whnf))
  refine loop_lo (ι := Unit) (fun _ => True) (fun i => [(9, .d (.int .i64 0)), (8, .d (.int .i64 0)), (3, .d .nils)]) (fun i => []) (fun i => 0) () (fun _ => rfl) trivial (.refl _ _) ⟨rfl, rfl, rfl, trivial⟩ trivial ?_
  intro i _
  refine sxCode_sound c1_ok (G := G_vbr) (pl := pl_vbr) _ _ _ _ (by kernel_rfl) ?_
  ((conv => whnf); repeat' ((first | refine odw ?_ | refine ify ?_ | refine ifn ?_ | refine i6 ?_ | refine ati ?_ | refine mst ?_ | refine rmd ?_ | refine ibo (fun _ => ?_) (fun _ => ?_)) <;> conv => whnf))
  exact rfl
end Go.Proofs.YtmkbgbnehokmmaaGreat
