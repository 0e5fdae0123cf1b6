/- Line graphs: Pairs, Touch, Of; the document's. -/
import Derived.Test.YtmkbgbnehokmmaaGreatLna
import Derived.Test.YtmkbgbnehokmmaaGreatGrk
import Derived.Test.YtmkbgbnehokmmaaGreatRfa
namespace Go.Gr
theorem pairsN_le (d : Nat) : pairsN d ≤ d * d := by
  unfold pairsN
  have h : d * (d - 1) ≤ d * d := Nat.mul_le_mul_left d (by omega)
  omega
theorem pairs_int (d : Nat) (hd : d ≤ 32768) : 0 ≤ (d : Int) * ((d : Int) - 1) ∧ (d : Int) * ((d : Int) - 1) ≤ 1073741824 ∧ ((d : Int) * ((d : Int) - 1)).tdiv 2 = (pairsN d : Int) := by
  cases d with
  | zero => decide
  | succ d =>
    have e : ((d + 1 : Nat) : Int) * (((d + 1 : Nat) : Int) - 1) = (((d + 1) * d : Nat) : Int) := by push_cast; congr 1; omega
    rw [e]
    have h2 : (d + 1) * d ≤ 32768 * 32768 := Nat.mul_le_mul hd (by omega)
    refine ⟨by omega, by omega, ?_⟩
    rw [Int.tdiv_eq_ediv_of_nonneg (by omega)]
    unfold pairsN
    simp
theorem pairsOf_mono (E : List Edg) {v n : Nat} (h : v ≤ n) : (pairsOf E v).length ≤ (pairsOf E n).length := by
  induction n with
  | zero => have : v = 0 := by omega
            subst this; exact Nat.le_refl _
  | succ n ih =>
    rcases Nat.lt_or_ge v (n + 1) with h1 | h1
    · have := ih (by omega); rw [pairsOf_step, List.length_append]; omega
    · have : v = n + 1 := by omega
      subst this; exact Nat.le_refl _
theorem pairsOf_big (E : List Edg) (v : Nat) (h : ∀ u, (atD E u).length ≤ 32768) : (pairsOf E v).length ≤ v * 1073741824 := by
  induction v with
  | zero => simp [pairsOf]
  | succ v ih =>
    rw [pairsOf_step, List.length_append, pairUp_len]
    have h1 := pairsN_le (atD E v).length
    have h2 : (atD E v).length * (atD E v).length ≤ 32768 * 32768 := Nat.mul_le_mul (h v) (h v)
    omega
def pu (l : List Int) : Nat → List Edg
  | 0 => []
  | i + 1 => pu l i ++ (l.drop (i + 1)).map (fun b => ⟨(l[i]?).getD 0, b⟩)
theorem pu_cons (x : Int) (l : List Int) : ∀ i, pu (x :: l) (i + 1) = l.map (fun b => ⟨x, b⟩) ++ pu l i
  | 0 => by simp [pu]
  | i + 1 => by
    rw [pu, pu_cons x l i, pu]
    simp [List.append_assoc]
theorem pu_all : ∀ l : List Int, pu l l.length = pairUp l
  | [] => rfl
  | x :: l => by rw [List.length_cons, pu_cons, pu_all l]; rfl
theorem pu_mono (l : List Int) {i n : Nat} (h : i ≤ n) : (pu l i).length ≤ (pu l n).length := by
  induction n with
  | zero => have : i = 0 := by omega
            subst this; exact Nat.le_refl _
  | succ n ih =>
    rcases Nat.lt_or_ge i (n + 1) with h1 | h1
    · have := ih (by omega); rw [pu, List.length_append]; omega
    · have : i = n + 1 := by omega
      subst this; exact Nat.le_refl _
end Go.Gr
namespace Go.Proofs.YtmkbgbnehokmmaaGreat
open Go.Sx Go.RowKit Go.Reg Go.Gr

set_option maxRecDepth 100000
theorem gr_ne {G : Gr} (h : G.Ok) : ∀ e ∈ G.edges, e.a ≠ e.b := fun e he => by have := h.edge e he; omega
theorem at_len {G : Gr} (h : G.Ok) (v : Nat) : (atD G.edges v).length = deg G.edges v := atD_len G.edges v (gr_ne h)
theorem at_le {G : Gr} (h : G.Ok) (v : Nat) : (atD G.edges v).length ≤ 32768 := by
  rw [at_len h]
  have h1 := deg_le G.edges v
  have h2 := h.esize
  omega
/-! ### Of -/
def linesS : ByteArray := ⟨#[108, 105, 110, 101, 115]⟩
def lofY (G : Gr) : Da := if 16384 < (pairsOf G.edges G.labels.length).length then .tuple [.nilp, dS linesS (dF 6 0 graphS)] else .tuple [dG ⟨List.replicate G.edges.length 0, wantW G.edges G.edges.length⟩, .nili]
/-! ### Touch -/
/-- do two edges touch, by any numbers -/
def touchV (E : List Edg) (a b : Int) : Bool := decide (0 ≤ a) && decide (0 ≤ b) && tch E a.toNat b.toNat
theorem touchV_no {E : List Edg} {a b : Int} (h : ¬ (0 ≤ a ∧ a < E.length) ∨ ¬ (0 ≤ b ∧ b < E.length) ∨ a = b) : touchV E a b = false := by
  unfold touchV tch
  by_cases ha : 0 ≤ a
  · by_cases hb : 0 ≤ b
    · obtain ⟨m, rfl⟩ := Int.eq_ofNat_of_zero_le ha
      obtain ⟨n, rfl⟩ := Int.eq_ofNat_of_zero_le hb
      simp only [Int.toNat_natCast]
      by_cases hm : m < E.length
      · by_cases hn : n < E.length
        · have : m = n := by omega
          subst this
          rw [List.getElem?_eq_getElem hm]; simp
        · rw [List.getElem?_eq_none (l := E) (i := n) (by omega), List.getElem?_eq_getElem hm]; simp
      · rw [List.getElem?_eq_none (l := E) (i := m) (by omega)]; simp
    · simp [hb]
  · simp [ha]
theorem touchV_at {E : List Edg} {m n : Nat} {x y : Edg} (hx : E[m]? = some x) (hy : E[n]? = some y) (hne : m ≠ n) : touchV E m n = (decide (x.a = y.a) || decide (x.a = y.b) || decide (x.b = y.a) || decide (x.b = y.b)) := by
  unfold touchV tch
  have h1 : (0 : Int) ≤ m := by omega
  have h2 : (0 : Int) ≤ n := by omega
  simp only [Int.toNat_natCast, hx, hy, h1, h2, decide_true, Bool.true_and, ne_eq, hne, not_false_eq_true]
theorem touchV_nat (E : List Edg) (m n : Nat) : touchV E m n = tch E m n := by
  unfold touchV
  have h1 : (0 : Int) ≤ m := by omega
  have h2 : (0 : Int) ≤ n := by omega
  simp [h1, h2]
/-! ### the document's -/
theorem rowW_len (E : List Edg) (a k : Nat) : (rowW E a k).length ≤ k := by
  unfold rowW
  rw [List.length_map]
  have := List.length_filter_le (fun b => decide (a < b) && tch E a b) (List.range k)
  rwa [List.length_range] at this
theorem wantW_len (E : List Edg) (k : Nat) : (wantW E k).length ≤ k * E.length := by
  induction k with
  | zero => simp [wantW]
  | succ k ih =>
    rw [wantW_step, List.length_append, Nat.succ_mul]
    have := rowW_len E k E.length
    omega
end Go.Proofs.YtmkbgbnehokmmaaGreat
