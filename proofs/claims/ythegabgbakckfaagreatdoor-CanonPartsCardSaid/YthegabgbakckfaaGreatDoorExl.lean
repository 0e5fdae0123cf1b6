/- All orders as the document lists them; a pattern turned as it makes it: plain laws. -/
import Derived.Test.YthegabgbakckfaaGreatDoorLct
namespace Go.Gr
open Go.Proofs.YthegabgbakckfaaGreatDoor
/-! ### all orders, as the document lists them -/
def exV (l : List Int) (v : Nat) : List (List Int) := ((List.range v).filter fun u : Nat => !decide ((u : Int) ∈ l)).map fun u : Nat => l ++ [(u : Int)]
def exL (n : Nat) (X : List (List Int)) : List (List Int) := X.flatMap fun l => exV l n
def exN (n : Nat) : Nat → List (List Int) → List (List Int)
  | 0, X => X
  | k + 1, X => exN n k (exL n X)
theorem exN_succ (n : Nat) : ∀ (k : Nat) (X : List (List Int)), exN n (k + 1) X = exL n (exN n k X)
  | 0, _ => rfl
  | k + 1, X => by
    show exN n (k + 1) (exL n X) = _
    rw [exN_succ n k]; rfl
theorem exV_succ (l : List Int) (v : Nat) : exV l (v + 1) = exV l v ++ if (v : Int) ∈ l then [] else [l ++ [(v : Int)]] := by
  unfold exV
  rw [List.range_succ, List.filter_append, List.map_append]
  congr 1
  by_cases h : (v : Int) ∈ l <;> simp [h]
theorem exL_take {n : Nat} {X : List (List Int)} {i : Nat} {l : List Int} (h : X[i]? = some l) : exL n (X.take (i + 1)) = exL n (X.take i) ++ exV l n := by
  unfold exL
  rw [List.take_add_one, h, Option.toList_some, List.flatMap_append]; simp
theorem exV_len (l : List Int) (v : Nat) : (exV l v).length ≤ v := by
  unfold exV
  rw [List.length_map]
  exact Nat.le_trans (List.length_filter_le _ _) (by simp)
theorem exL_len (n : Nat) : ∀ X : List (List Int), (exL n X).length ≤ X.length * n
  | [] => by simp [exL]
  | l :: X => by
    have h1 := exL_len n X
    have h2 := exV_len l n
    have e : exL n (l :: X) = exV l n ++ exL n X := rfl
    rw [e, List.length_append, List.length_cons, Nat.add_mul, Nat.one_mul]; omega
theorem exN_count (n : Nat) : ∀ k : Nat, (exN n k [[]]).length ≤ n ^ k
  | 0 => by simp [exN]
  | k + 1 => by
    rw [exN_succ]
    have h1 := exL_len n (exN n k [[]])
    have h2 := Nat.mul_le_mul_right n (exN_count n k)
    rw [Nat.pow_succ]; omega
theorem exN_mem {n : Nat} : ∀ {k : Nat} {L : List Int}, L ∈ exN n k [[]] → L.length = k
  | 0, L, h => by rw [List.mem_singleton.1 h]; rfl
  | k + 1, L, h => by
    rw [exN_succ] at h
    simp only [exL, exV, List.mem_flatMap, List.mem_map, List.mem_filter, List.mem_range] at h
    obtain ⟨l, hl, v, _, rfl⟩ := h
    have := exN_mem hl
    simp [this]
theorem exN_flat (n : Nat) : ∀ (k : Nat) (X : List (List Int)), exN n k X = X.flatMap fun l => exN n k [l]
  | 0, X => by simp [exN]
  | k + 1, X => by
    show exN n k (exL n X) = X.flatMap fun l => exN n k (exL n [l])
    rw [exN_flat n k (exL n X)]
    unfold exL
    rw [List.flatMap_assoc]
    congr 1; funext l
    rw [List.flatMap_singleton, ← exN_flat n k]
theorem ord_ex (n : Nat) : ∀ (k : Nat) (ah : List Nat), ah.length + k = n → ordL (List.replicate n 0) (List.replicate n 0) k ah = exN n k [ah.map fun j : Nat => (j : Int)]
  | 0, ah, _ => rfl
  | k + 1, ah, h => by
    show _ = exN n k (exL n [ah.map fun j : Nat => (j : Int)])
    rw [exN_flat]
    unfold exL exV
    rw [List.flatMap_singleton, List.flatMap_map]
    simp only [ordL, List.length_replicate]
    have hf : ((List.range n).filter fun j => !(ah.contains j) && decide ((List.replicate n (0 : Int))[j]? = (List.replicate n (0 : Int))[ah.length]?)) = (List.range n).filter fun u : Nat => !decide ((u : Int) ∈ ah.map fun j : Nat => (j : Int)) := by
      refine List.filter_congr fun j hj => ?_
      have hj := List.mem_range.1 hj
      have h1 : (List.replicate n (0 : Int))[j]? = some 0 := by rw [List.getElem?_replicate, if_pos hj]
      have h2 : (List.replicate n (0 : Int))[ah.length]? = some 0 := by rw [List.getElem?_replicate, if_pos (by omega)]
      rw [h1, h2, decide_eq_true rfl, Bool.and_true]
      congr 1
      rw [Bool.eq_iff_iff, List.contains_iff_mem, decide_eq_true_eq]
      constructor
      · intro hm; exact List.mem_map.2 ⟨j, hm, rfl⟩
      · intro hm
        obtain ⟨i, hi, e⟩ := List.mem_map.1 hm
        have : i = j := by omega
        subst this; exact hi
    rw [hf]
    congr 1; funext j
    rw [ord_ex n k (ah ++ [j]) (by simp; omega), List.map_append]; rfl
theorem exN_all (n : Nat) : exN n n [[]] = allO n := (ord_ex n n [] (by simp)).symm
/-! ### a pattern turned, as the document makes it -/
theorem made_strict (E : List Edg) (L : List Int) : Strict (madeE E L) := by
  have hrow : ∀ (f : Nat → Nat → Bool) (a b : Nat), ∀ e ∈ rowF f a b, e.a = a := fun f a b e he => by
    unfold rowF at he
    obtain ⟨x, _, rfl⟩ := List.mem_map.1 he; rfl
  unfold madeE
  generalize pairF E L = f
  generalize L.length = n
  suffices h : ∀ a, Strict (rowsF f n a) from h n
  intro a
  induction a with
  | zero => simp [rowsF, Strict]
  | succ a ih =>
    rw [rowsF_step]
    unfold Strict at ih ⊢
    refine List.pairwise_append.2 ⟨ih, ?_, fun x hx y hy => ?_⟩
    · unfold rowF
      refine List.pairwise_map.2 (List.Pairwise.imp ?_ (List.pairwise_lt_range.filter _))
      intro u v huv
      exact (cmpE_lt _ _).2 (.inr ⟨rfl, by show (u : Int) < v; omega⟩)
    · obtain ⟨j, u, hj, _, _, _, rfl⟩ := mem_rowsF.1 hx
      have := hrow f a n y hy
      refine (cmpE_lt _ _).2 (.inl ?_)
      show (j : Int) < y.a
      omega
theorem turn_made {n : Nat} {p : Pt} (hp : PtOk n p) {b : List Int} (hb : IsOrd n b) : (⟨putL b p.labels b.length, madeE p.edges (backL b)⟩ : Pt) = turnP p b := by
  have hbl := (back_ord hb).1
  have hT := turnP_ok hb hp
  have he : madeE p.edges (backL b) = (turnP p b).edges := by
    refine strict_ext (made_strict _ _) hT.strict fun e => ?_
    unfold madeE
    rw [mem_rowsF, hbl]
    have hat : ∀ i, i < n → (backL b)[i]? = some (pl (backL b) i : Int) := fun i hi => pl_at (back_ord hb) hi
    constructor
    · rintro ⟨j, x, hj, hx, hjx, hf, rfl⟩
      unfold pairF hasR at hf
      rw [hat j hj, hat x hx] at hf
      obtain ⟨e, hm, h⟩ := List.any_eq_true.1 hf
      simp only [Option.getD_some, decide_eq_true_eq] at h
      have hu := pl_lt (back_ord hb) hj
      have hv := pl_lt (back_ord hb) hx
      have e1 : pl b (pl (backL b) j) = j := by rw [← pl_then (back_ord hb) hb hj, back_then hb, pl_id hj]
      have e2 : pl b (pl (backL b) x) = x := by rw [← pl_then (back_ord hb) hb hx, back_then hb, pl_id hx]
      refine ((turnP_edges hb hp).2 _).2 ⟨e, hm, ?_⟩
      generalize pl (backL b) j = u at *
      generalize pl (backL b) x = v at *
      rcases h with ⟨h1, h2⟩ | ⟨h1, h2⟩
      · rw [show e = ⟨(u : Int), (v : Int)⟩ by cases e; simp only at h1 h2; rw [h1, h2], mv_is b hb hu hv, e1, e2]
        unfold turn; simp only [Edg.mk.injEq]; omega
      · rw [show e = ⟨(v : Int), (u : Int)⟩ by cases e; simp only at h1 h2; rw [h1, h2], mv_is b hb hv hu, e1, e2]
        unfold turn; simp only [Edg.mk.injEq]; omega
    · intro h
      obtain ⟨y, hy, rfl⟩ := ((turnP_edges hb hp).2 _).1 h
      obtain ⟨i, j, hij, hjn, rfl⟩ := edge_nat (hp.edge y hy)
      have hin : i < n := by omega
      rw [mv_is b hb hin hjn]
      have l1 := pl_lt hb hin
      have l2 := pl_lt hb hjn
      have b1 := back_at hb hin
      have b2 := back_at hb hjn
      have hne : pl b i ≠ pl b j := fun e => by have := pl_inj hb hin hjn e; omega
      have a1 := hat _ l1
      have a2 := hat _ l2
      rw [b1] at a1
      rw [b2] at a2
      generalize pl b i = u at *
      generalize pl b j = v at *
      have hp1 : pairF p.edges (backL b) u v = true := by
        unfold pairF hasR
        rw [a1, a2]
        exact List.any_eq_true.2 ⟨_, hy, by simp⟩
      have hp2 : pairF p.edges (backL b) v u = true := by
        unfold pairF hasR
        rw [a1, a2]
        exact List.any_eq_true.2 ⟨_, hy, by simp⟩
      rcases Nat.lt_or_ge u v with h | h
      · exact ⟨u, v, l1, l2, h, hp1, by unfold turn; simp only [Edg.mk.injEq]; omega⟩
      · exact ⟨v, u, l2, l1, by omega, hp2, by unfold turn; simp only [Edg.mk.injEq]; omega⟩
  rw [he]
  rfl
end Go.Gr
