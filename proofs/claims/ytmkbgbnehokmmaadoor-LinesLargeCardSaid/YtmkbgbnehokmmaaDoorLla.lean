/- LinesLarge: stars (plain laws) and the walk. -/
import Derived.Test.YtmkbgbnehokmmaaDoorWrd
import Derived.Test.YtmkbgbnehokmmaaDoorLnp
import Derived.Test.YtmkbgbnehokmmaaDoorLnc
import Derived.Test.YtmkbgbnehokmmaaDoorGoa
namespace Go.Gr
/-- the edges of a star -/
def starE (k : Nat) : List Edg := (List.range k).map fun i : Nat => ⟨0, (i : Int) + 1⟩
theorem starE_succ (k : Nat) : starE (k + 1) = starE k ++ [⟨0, (k : Int) + 1⟩] := by unfold starE; rw [List.range_succ, List.map_append]; rfl
theorem starE_len (k : Nat) : (starE k).length = k := by simp [starE]
theorem mem_starE {k : Nat} {e : Edg} (h : e ∈ starE k) : ∃ i : Nat, i < k ∧ e = ⟨0, (i : Int) + 1⟩ := by
  unfold starE at h
  obtain ⟨i, hi, rfl⟩ := List.mem_map.1 h
  exact ⟨i, List.mem_range.1 hi, rfl⟩
theorem star_turn (k : Nat) : (starE k).map turn = starE k := map_turn_le fun e he => by
  obtain ⟨i, _, rfl⟩ := mem_starE he
  show (0 : Int) ≤ (i : Int) + 1
  omega
theorem star_strict (k : Nat) : Strict (starE k) := by
  unfold Strict starE
  rw [List.pairwise_map]
  refine List.pairwise_lt_range.imp ?_
  intro a b h
  refine (cmpE_lt _ _).2 (.inr ⟨rfl, ?_⟩)
  show (a : Int) + 1 < (b : Int) + 1
  omega
theorem star_canon (k : Nat) : canon (starE k) = starE k := (canon_eq (by rw [star_turn]; exact (star_strict k).nodup) (by rw [star_turn]) (star_strict k).le).symm
theorem star_err {k : Nat} (hk : k ≤ 4000) : newErr (List.replicate (k + 1) 0) (starE k) = none := newErr_none' (by rw [List.length_replicate]; omega) (by rw [starE_len]; omega) (fun x hx => by rw [List.eq_of_mem_replicate hx]; rfl) (by rw [star_turn]; exact (star_strict k).nodup) (fun e he => by
  rw [star_turn] at he
  obtain ⟨i, hi, rfl⟩ := mem_starE he
  rw [List.length_replicate]
  simp only
  omega)
theorem star_atD (k v : Nat) : (atD (starE k) v).length = if v = 0 then k else if v ≤ k then 1 else 0 := by
  induction k with
  | zero =>
    have : atD (starE 0) v = [] := rfl
    rw [this]
    by_cases h0 : v = 0
    · rw [if_pos h0]; rfl
    · rw [if_neg h0, if_neg (by omega)]; rfl
  | succ k ih =>
    have h : atD (starE (k + 1)) v = atD (starE k) v ++ (if (0 : Int) = v ∨ (k : Int) + 1 = v then [(k : Int)] else []) := by
      rw [starE_succ]
      unfold atD
      rw [List.zipIdx_append, List.filter_append, List.map_append]
      congr 1
      have hl := starE_len k
      by_cases he : (0 : Int) = v ∨ (k : Int) + 1 = v <;> simp [he, hl]
    rw [h, List.length_append, ih]
    by_cases h0 : v = 0
    · rw [if_pos h0, if_pos h0, if_pos (.inl (by omega))]; rfl
    · rw [if_neg h0, if_neg h0]
      by_cases h1 : v = k + 1
      · rw [if_neg (show ¬ v ≤ k by omega), if_pos (show (0 : Int) = v ∨ (k : Int) + 1 = v by omega), if_pos (show v ≤ k + 1 by omega)]; rfl
      · rw [if_neg (show ¬ ((0 : Int) = v ∨ (k : Int) + 1 = v) by omega)]
        by_cases h2 : v ≤ k
        · rw [if_pos h2, if_pos (by omega)]; rfl
        · rw [if_neg h2, if_neg (by omega)]; rfl
theorem star_pairs (k : Nat) : ∀ v, v ≤ k → (pairsOf (starE k) (v + 1)).length = pairsN k
  | 0, _ => by
    rw [pairsOf_step, List.length_append, pairUp_len, star_atD, if_pos rfl]
    simp [pairsOf]
  | v + 1, h => by
    rw [pairsOf_step, List.length_append, pairUp_len, star_atD, if_neg (by omega), if_pos h, star_pairs k v (by omega)]
    rfl
theorem star_ok {k : Nat} (hk : k ≤ 4000) : Gr.Ok ⟨List.replicate (k + 1) 0, starE k⟩ := by
  have := canon_ok (star_err hk)
  rwa [star_canon] at this
theorem star_near {k : Nat} (hk : k ≤ 4000) (hk0 : 0 < k) (hp : pairsN k ≤ 16384) : deg (lnGr ⟨List.replicate (k + 1) 0, starE k⟩).edges (k - 1) = k - 1 := by
  have hG := star_ok hk
  have hl := starE_len k
  have hpp : (pairsOf (starE k) (List.replicate (k + 1) (0 : Int)).length).length = pairsN k := by rw [List.length_replicate]; exact star_pairs k k (Nat.le_refl _)
  have hL := lnGr_ok hG (by rw [hl]; omega) (by rw [hpp]; exact hp)
  have hi : (starE k)[k - 1]? = some ⟨((0 : Nat) : Int), (k : Int)⟩ := by
    unfold starE
    rw [List.getElem?_map, List.getElem?_range (by omega)]
    simp only [Option.map_some, Option.some.injEq, Edg.mk.injEq]
    exact ⟨rfl, by omega⟩
  have h1 := deg_ln hG hL hi
  have hne : ∀ e ∈ starE k, e.a ≠ e.b := fun e he => by have := hG.edge e he; omega
  rw [← atD_len _ _ hne, ← atD_len _ _ hne, star_atD, star_atD, if_pos rfl, if_neg (by omega), if_pos (Nat.le_refl _)] at h1
  omega
theorem star_size {k : Nat} (hk : k ≤ 4000) : (lnGr ⟨List.replicate (k + 1) 0, starE k⟩).edges.length = pairsN k := by
  have hG := star_ok hk
  have h := lines_canon hG
  unfold lnGr
  simp only
  rw [← h, canon_len]
  simp only [List.length_replicate]
  exact star_pairs k k (Nat.le_refl _)
end Go.Gr
namespace Go.Proofs.YtmkbgbnehokmmaaDoor
open Go.Sx Go.RowKit Go.Reg Go.Gr

set_option maxRecDepth 100000
def pl_lla : List (Nat × Plan) := []
def G_lla : List FuncId := [35, 12, 14, 37]
theorem cok_lla : codeOk Tryd.prog G_lla pl_lla (Tryd.f9.body.getD .skip) = true := by kernel_rfl
theorem run_lla (vs : Array Value) (w : World) : (callFunc 9 vs).run C1.P w = .ok (.enter 9 vs) w := by kernel_rfl
set_option maxHeartbeats 4000000 in
theorem llarge_pure (n : Int) (hn : 0 ≤ n ∧ n ≤ 255) : Pure C1 9 [.int .u8 n] (fun y => y = .bool true) := by
  have ht1 : 0 ≤ n.tmod 20 := Int.tmod_nonneg _ hn.1
  have ht2 : n.tmod 20 < 20 := Int.tmod_lt_of_pos _ (by decide)
  obtain ⟨k, hk⟩ := Int.eq_ofNat_of_zero_le (show 0 ≤ 170 + n.tmod 20 by omega)
  have hk1 : 170 ≤ k ∧ k ≤ 189 := by omega
  have hG := star_ok (k := k) (by omega)
  have hl := starE_len k
  have hnew := new_pure (List.replicate (k + 1) 0) (starE k)
  rw [newY_none (star_err (by omega)), star_canon] at hnew
  have hpp : (pairsOf (starE k) (List.replicate (k + 1) (0 : Int)).length).length = pairsN k := by rw [List.length_replicate]; exact star_pairs k k (Nat.le_refl _)
  have hlf := lof_pure ⟨List.replicate (k + 1) 0, starE k⟩ hG (by simp only; omega)
  have hprs := pairs_pure ⟨List.replicate (k + 1) 0, starE k⟩ hG
  unfold lofY at hlf
  simp only at hlf hprs
  rw [hpp] at hlf hprs
  have hnr := star_near (k := k) (by omega) (by omega)
  have hsz := star_size (k := k) (by omega)
  have hp := pairs_int k (by omega)
  have hpk : pairsN k ≤ 189 * 189 := Nat.le_trans (pairsN_le k) (Nat.mul_le_mul hk1.2 hk1.2)
  have hlnr : (⟨List.replicate (starE k).length 0, wantW (starE k) (starE k).length⟩ : Gr) = lnGr ⟨List.replicate (k + 1) 0, starE k⟩ := rfl
  rw [hlnr] at hlf
  have hszp := size_pure (lnGr ⟨List.replicate (k + 1) 0, starE k⟩)
  rw [hsz] at hszp
  have hll : (lnGr ⟨List.replicate (k + 1) 0, starE k⟩).labels.length = k := by unfold lnGr; simp only [List.length_replicate]; exact hl
  have hlok : pairsN k ≤ 16384 → (lnGr ⟨List.replicate (k + 1) 0, starE k⟩).Ok := fun h => lnGr_ok hG (by simp only; omega) (by simp only; rw [hpp]; exact h)
  refine pure_of c1_ok (pl := pl_lla) (G := G_lla) Tryd.func9 rfl Tryd.ntmps9 run_lla cok_lla (by simp) ?_
  ((conv => whnf); repeat' ((first | refine odw ?_ | refine ify ?_ | refine ifn ?_ | refine i6 ?_ | refine ati ?_ | refine mst ?_ | refine rmd ?_ | refine ibo (fun _ => ?_) (fun _ => ?_)) <;> conv => whnf))
  refine call_eq rfl lalive_pure ?_
  (conv => whnf)
  (repeat' ((first | refine odw ?_ | refine ify ?_ | refine ifn ?_ | refine i6 ?_ | refine ati ?_ | refine mst ?_ | refine rmd ?_ | refine ibo (fun _ => ?_) (fun _ => ?_)) <;> conv => whnf))
  rw [hk]
  refine loop_lo (ι := Nat) (fun i => i ≤ k) (fun i => [(5, .d (.int .i64 ((i + 1 : Nat) : Int))), (4, .own 300), (3, .d (.int .i64 k))]) (fun i => [(300, .slice 34 2 ((starE i).map dE))]) (fun i => k - i) 0 (fun _ => rfl) (Nat.zero_le _) (.own 4 300 34 2 rfl rfl (.refl _ _)) ⟨rfl, rfl, rfl, trivial⟩ ⟨rfl, trivial⟩ ?_
  intro i hi
  have hil := starE_len i
  refine sxCode_sound c1_ok (G := G_lla) (pl := pl_lla) _ _ _ _ (by kernel_rfl) ?_
  by_cases hlt : i < k
  · have hfin : (starE i).map dE ++ [.agg [.int .i64 0, .int .i64 ((i + 1 : Nat) : Int)]] = (starE (i + 1)).map dE := by rw [starE_succ, List.map_append]; rfl
    ((conv => whnf); repeat' ((first | refine odw ?_ | refine ify ?_ | refine ifn ?_ | refine i6 ?_ | refine ati ?_ | refine mst ?_ | refine rmd ?_ | refine ibo (fun _ => ?_) (fun _ => ?_)) <;> conv => whnf))
    exact ⟨i + 1, _, _, hlt, .refl _ _, ⟨rfl, rfl, rfl, trivial⟩, ⟨slice_is hfin, trivial⟩, by omega⟩
  · have hik : i = k := by omega
    subst hik
    have hz : List.replicate (i + 1) (dI 0) = (List.replicate (i + 1) 0).map dI := by simp
    (conv => whnf)
    (repeat' ((first | refine ord_ok (by (conv => whnf); (repeat' ((first | refine mk_ok (i + 1) (by omega) (by omega) (by omega) ?_ | refine ify ?_ | refine ifn ?_ | refine i6 ?_ | refine ati ?_ | refine mst ?_ | refine rmd ?_ | refine ibo (fun _ => ?_) (fun _ => ?_)) <;> conv => whnf)); (all_goals (repeat' (first | exact trivial | exact rfl | refine And.intro ?_ ?_)))) ?_ | refine mk_ok (i + 1) (by omega) (by omega) (by omega) ?_ | refine ify ?_ | refine ifn ?_ | refine i6 ?_ | refine ati ?_ | refine mst ?_ | refine rmd ?_ | refine ibo (fun _ => ?_) (fun _ => ?_)) <;> conv => whnf))
    refine call_frz 31 rfl ?_
    refine call_frz 300 rfl ?_
    refine call_eq (xs := [dIs (List.replicate (i + 1) 0), dEs (starE i)]) (by show some [Da.list 1 (List.replicate (i + 1) (dI 0)), _] = _; rw [hz]; rfl) hnew ?_
    ((conv => whnf); repeat' ((first | refine odw ?_ | refine ify ?_ | refine ifn ?_ | refine i6 ?_ | refine ati ?_ | refine mst ?_ | refine rmd ?_ | refine ibo (fun _ => ?_) (fun _ => ?_)) <;> conv => whnf))
    refine call_eq rfl hlf ?_
    by_cases hbig : 16384 < pairsN i
    · rw [if_pos hbig]
      ((conv => whnf); repeat' ((first | refine odw ?_ | refine ify ?_ | refine ifn ?_ | refine i6 ?_ | refine ati ?_ | refine mst ?_ | refine rmd ?_ | refine ibo (fun _ => ?_) (fun _ => ?_)) <;> conv => whnf))
      refine call_eq rfl hprs ?_
      rw [hp.2.2]
      (conv => whnf)
      (repeat' ((first | refine ord_ok (by (conv => whnf); (repeat' ((first | refine call_eq rfl (words_dS linesS 6 0 graphS) ?_ | refine call_eq rfl (code_dS linesS 6 0 graphS) ?_ | refine at_da (i := 0) (d := .str linesS) rfl rfl ?_ | refine if_yes (show linesS = _ from rfl) ?_ | refine ify ?_ | refine ifn ?_ | refine i6 ?_ | refine ati ?_ | refine mst ?_ | refine rmd ?_ | refine ibo (fun _ => ?_) (fun _ => ?_)) <;> conv => whnf)); (all_goals (repeat' (first | exact trivial | exact rfl | refine And.intro ?_ ?_)))) ?_ | refine call_eq rfl (words_dS linesS 6 0 graphS) ?_ | refine call_eq rfl (code_dS linesS 6 0 graphS) ?_ | refine at_da (i := 0) (d := .str linesS) rfl rfl ?_ | refine if_yes (show linesS = _ from rfl) ?_ | refine ify ?_ | refine ifn ?_ | refine i6 ?_ | refine ati ?_ | refine mst ?_ | refine rmd ?_ | refine ibo (fun _ => ?_) (fun _ => ?_)) <;> conv => whnf))
      exact rfl
    · rw [if_neg hbig]
      have hlk := hlok (by omega)
      have hdg := degree_pure (lnGr ⟨List.replicate (i + 1) 0, starE i⟩) hlk ((i : Int) - 1)
      have hdv : degV (lnGr ⟨List.replicate (i + 1) 0, starE i⟩) ((i : Int) - 1) = i - 1 := by
        unfold degV
        rw [if_pos (by rw [hll]; omega), show ((i : Int) - 1).toNat = i - 1 by omega, hnr (by omega)]
      rw [hdv, show ((i - 1 : Nat) : Int) = (i : Int) - 1 by omega] at hdg
      generalize lnGr ⟨List.replicate (i + 1) 0, starE i⟩ = LG at hszp hdg hll hlk ⊢
      ((conv => whnf); repeat' ((first | refine odw ?_ | refine ify ?_ | refine ifn ?_ | refine i6 ?_ | refine ati ?_ | refine mst ?_ | refine rmd ?_ | refine ibo (fun _ => ?_) (fun _ => ?_)) <;> conv => whnf))
      refine call_eq rfl hprs ?_
      rw [hp.2.2]
      (conv => whnf)
      (repeat' ((first | refine ord_ok (by (conv => whnf); (repeat' ((first | refine call_eq rfl hszp ?_ | refine call_eq rfl hdg ?_ | refine ify ?_ | refine ifn ?_ | refine i6 ?_ | refine ati ?_ | refine mst ?_ | refine rmd ?_ | refine ibo (fun _ => ?_) (fun _ => ?_)) <;> conv => whnf)); (all_goals (repeat' (first | exact trivial | exact rfl | refine And.intro ?_ ?_)))) ?_ | refine call_eq rfl hszp ?_ | refine call_eq rfl hdg ?_ | refine ify ?_ | refine ifn ?_ | refine i6 ?_ | refine ati ?_ | refine mst ?_ | refine rmd ?_ | refine ibo (fun _ => ?_) (fun _ => ?_)) <;> conv => whnf))
      show Da.plain _ = _
      simp [Da.plain]
end Go.Proofs.YtmkbgbnehokmmaaDoor
