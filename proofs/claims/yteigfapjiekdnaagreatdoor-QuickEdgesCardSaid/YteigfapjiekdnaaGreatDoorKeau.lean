/- Merged: Cpa. -/
import Derived.Test.YteigfapjiekdnaaGreatDoorKear
import Derived.Test.YteigfapjiekdnaaGreatDoorKeas
import Derived.Test.YteigfapjiekdnaaGreatDoorKeat
section
/- Orders, patterns turned. -/
namespace Go.Gr
open Go.Proofs.YteigfapjiekdnaaGreatDoor
/-! ### a list that holds all of another one -/
theorem perm_of_sub {α : Type} [DecidableEq α] : ∀ {l m : List α}, l.Nodup → (∀ x ∈ l, x ∈ m) → m.length ≤ l.length → l.Perm m
  | [], m, _, _, h => by
    have : m = [] := List.eq_nil_of_length_eq_zero (by simpa using h)
    subst this; exact .refl _
  | x :: l, m, hn, hs, h => by
    obtain ⟨h1, h2⟩ := List.nodup_cons.1 hn
    have hx : x ∈ m := hs x (by simp)
    have hp := List.perm_cons_erase hx
    have hl : m.length = (m.erase x).length + 1 := by have := hp.length_eq; simpa using this
    refine (List.Perm.cons x (perm_of_sub h2 (fun y hy => ?_) ?_)).trans hp.symm
    · exact (List.mem_erase_of_ne (fun e => by subst e; exact h1 hy)).2 (hs y (by simp [hy]))
    · simp only [List.length_cons] at h; omega
theorem nodup_len {α : Type} [DecidableEq α] {l m : List α} (hn : l.Nodup) (hs : ∀ x ∈ l, x ∈ m) : l.length ≤ m.length := by
  rcases Nat.lt_or_ge m.length l.length with h | h
  · have := (perm_of_sub hn hs (by omega)).length_eq; omega
  · exact h

/-! ### orders -/
/-- an order of n things -/
def IsOrd (n : Nat) (b : List Int) : Prop := b.length = n ∧ (∀ x ∈ b, 0 ≤ x ∧ x < (n : Int)) ∧ b.Nodup
instance (n : Nat) (b : List Int) : Decidable (IsOrd n b) := by unfold IsOrd; exact inferInstance
/-- a thing's place -/
def pl (b : List Int) (i : Nat) : Nat := ((b[i]?).getD 0).toNat
theorem ordR_is {b : List Int} (h8 : b.length ≤ 8) : ordR b = true ↔ IsOrd b.length b := by
  unfold ordR IsOrd
  simp [h8]
section
variable {n : Nat} {a b : List Int}
theorem pl_at (h : IsOrd n b) {i : Nat} (hi : i < n) : b[i]? = some (pl b i : Int) := by
  have hx := List.getElem?_eq_getElem (l := b) (i := i) (by rw [h.1]; exact hi)
  have := h.2.1 _ (List.getElem_mem (l := b) (n := i) (by rw [h.1]; exact hi))
  unfold pl
  rw [hx, Option.getD_some]
  congr 1; omega
theorem pl_lt (h : IsOrd n b) {i : Nat} (hi : i < n) : pl b i < n := by
  have := h.2.1 _ (List.mem_of_getElem? (pl_at h hi)); omega
theorem pl_inj (h : IsOrd n b) {i j : Nat} (hi : i < n) (hj : j < n) (e : pl b i = pl b j) : i = j := by
  refine (List.getElem?_inj (by rw [h.1]; exact hi) h.2.2).1 ?_
  rw [pl_at h hi, pl_at h hj, e]
theorem ord_perm (h : IsOrd n b) : b.Perm ((List.range n).map fun i : Nat => (i : Int)) := by
  refine perm_of_sub h.2.2 (fun x hx => ?_) (by rw [List.length_map, List.length_range, h.1]; exact Nat.le_refl _)
  have := h.2.1 x hx
  exact List.mem_map.2 ⟨x.toNat, List.mem_range.2 (by omega), by omega⟩
theorem pl_surj (h : IsOrd n b) {k : Nat} (hk : k < n) : ∃ i, i < n ∧ pl b i = k := by
  have hm : (k : Int) ∈ b := (ord_perm h).mem_iff.2 (List.mem_map.2 ⟨k, List.mem_range.2 hk, rfl⟩)
  obtain ⟨i, hi, e⟩ := List.mem_iff_getElem.1 hm
  have hi' : i < n := by rw [← h.1]; exact hi
  refine ⟨i, hi', ?_⟩
  have := pl_at h hi'
  rw [List.getElem?_eq_getElem hi, e] at this
  have h9 : (k : Int) = (pl b i : Int) := Option.some.inj this
  omega
theorem ord_ext (ha : IsOrd n a) (hb : IsOrd n b) (h : ∀ i, i < n → pl a i = pl b i) : a = b := by
  apply List.ext_getElem?
  intro i
  by_cases hi : i < n
  · rw [pl_at ha hi, pl_at hb hi, h i hi]
  · rw [List.getElem?_eq_none (by rw [ha.1]; omega), List.getElem?_eq_none (by rw [hb.1]; omega)]
theorem ord_of {f : Nat → Nat} (h1 : ∀ i, i < n → f i < n) (h2 : ∀ i j, i < n → j < n → f i = f j → i = j) : IsOrd n ((List.range n).map fun i => (f i : Int)) := by
  refine ⟨by simp, fun x hx => ?_, ?_⟩
  · obtain ⟨i, hi, rfl⟩ := List.mem_map.1 hx
    have := h1 i (List.mem_range.1 hi); omega
  · refine List.pairwise_map.2 (List.Pairwise.imp_of_mem ?_ List.nodup_range)
    intro i j hi hj hne e
    exact hne (h2 i j (List.mem_range.1 hi) (List.mem_range.1 hj) (by omega))
theorem pl_of {f : Nat → Nat} {i : Nat} (hi : i < n) : pl ((List.range n).map fun i => (f i : Int)) i = f i := by
  unfold pl; simp [hi]
/-- each thing in its own place -/
def idL (n : Nat) : List Int := (List.range n).map fun i : Nat => (i : Int)
theorem idL_ord (n : Nat) : IsOrd n (idL n) := ord_of (f := id) (fun _ h => h) (fun _ _ _ _ h => h)
theorem pl_id {i : Nat} (hi : i < n) : pl (idL n) i = i := pl_of (f := id) hi
/-- one order, then another one -/
def thenL (a b : List Int) : List Int := a.map fun x => (b[x.toNat]?).getD 0
theorem thenL_at (ha : IsOrd n a) (hb : IsOrd n b) {i : Nat} (hi : i < n) : (thenL a b)[i]? = some (pl b (pl a i) : Int) := by
  unfold thenL
  rw [List.getElem?_map, pl_at ha hi, Option.map_some, Int.toNat_natCast, pl_at hb (pl_lt ha hi)]; rfl
theorem thenL_is (ha : IsOrd n a) (hb : IsOrd n b) : thenL a b = (List.range n).map fun i => ((pl b (pl a i) : Nat) : Int) := by
  apply List.ext_getElem?
  intro i
  by_cases hi : i < n
  · rw [thenL_at ha hb hi]; simp [hi]
  · rw [List.getElem?_eq_none (by unfold thenL; rw [List.length_map, ha.1]; omega), List.getElem?_eq_none (by simp; omega)]
theorem thenL_ord (ha : IsOrd n a) (hb : IsOrd n b) : IsOrd n (thenL a b) := by
  rw [thenL_is ha hb]
  exact ord_of (fun i hi => pl_lt hb (pl_lt ha hi)) (fun i j hi hj e => pl_inj ha hi hj (pl_inj hb (pl_lt ha hi) (pl_lt ha hj) e))
theorem pl_then (ha : IsOrd n a) (hb : IsOrd n b) {i : Nat} (hi : i < n) : pl (thenL a b) i = pl b (pl a i) := by
  rw [thenL_is ha hb, pl_of (f := fun i => pl b (pl a i)) hi]

/-! ### a list in an order -/
theorem putL_spec (hb : IsOrd n b) {l : List Int} (hl : l.length = n) : ∀ m, m ≤ n → ∀ i, i < m → (putL b l m)[pl b i]? = l[i]? := by
  intro m
  induction m with
  | zero => intro _ i hi; omega
  | succ m ih =>
    intro hm i hi
    have hx := pl_at hb (show m < n by omega)
    have hy := List.getElem?_eq_getElem (l := l) (i := m) (by omega)
    rw [putL_step hx hy, Int.toNat_natCast, List.getElem?_set]
    by_cases e : m = i
    · subst e
      rw [if_pos rfl, if_pos (by rw [putL_len, hl]; exact pl_lt hb (by omega)), hy]
    · rw [if_neg (fun h => e (pl_inj hb (by omega) (by omega) h)), ih (by omega) i (by omega)]
theorem putL_at (hb : IsOrd n b) {l : List Int} (hl : l.length = n) {i : Nat} (hi : i < n) : (putL b l b.length)[pl b i]? = l[i]? := by
  rw [hb.1]; exact putL_spec hb hl n (Nat.le_refl _) i hi
/-- the order that leads back -/
def backL (b : List Int) : List Int := putL b (idL b.length) b.length
theorem back_at (hb : IsOrd n b) {i : Nat} (hi : i < n) : pl (backL b) (pl b i) = i := by
  unfold backL pl
  have := putL_at hb (l := idL b.length) (by unfold idL; simp [hb.1]) hi
  unfold pl at this
  rw [this]
  have : (idL b.length)[i]? = some (i : Int) := by rw [hb.1]; unfold idL; simp [hi]
  rw [this]; simp
theorem back_ord (hb : IsOrd n b) : IsOrd n (backL b) := by
  have hl : (backL b).length = n := by unfold backL; rw [putL_len]; unfold idL; simp [hb.1]
  have key : ∀ k, k < n → ∃ i, i < n ∧ pl b i = k ∧ (backL b)[k]? = some (i : Int) := fun k hk => by
    obtain ⟨i, hi, rfl⟩ := pl_surj hb hk
    refine ⟨i, hi, rfl, ?_⟩
    have := putL_at hb (l := idL b.length) (by unfold idL; simp [hb.1]) hi
    unfold backL
    rw [this, hb.1]; unfold idL; simp [hi]
  have e : backL b = (List.range n).map fun k => (pl (backL b) k : Int) := by
    apply List.ext_getElem?
    intro k
    by_cases hk : k < n
    · obtain ⟨i, hi, hp, hk'⟩ := key k hk
      have : pl (backL b) k = i := by unfold pl; rw [hk']; simp
      rw [hk']; simp [hk, this]
    · rw [List.getElem?_eq_none (by omega), List.getElem?_eq_none (by simp; omega)]
  rw [e]
  refine ord_of (fun k hk => ?_) (fun j k hj hk h => ?_)
  · obtain ⟨i, hi, hp, hk'⟩ := key k hk
    unfold pl; rw [hk']; simpa using hi
  · obtain ⟨i, hi, hp, hk'⟩ := key j hj
    obtain ⟨i2, hi2, hp2, hk2⟩ := key k hk
    unfold pl at h; rw [hk', hk2] at h
    have : i = i2 := by simpa using h
    subst this; omega
theorem then_back (hb : IsOrd n b) : thenL b (backL b) = idL n := ord_ext (thenL_ord hb (back_ord hb)) (idL_ord n) fun i hi => by
  rw [pl_then hb (back_ord hb) hi, back_at hb hi, pl_id hi]
end

/-! ### patterns turned -/
/-- a right pattern of n vertices -/
structure PtOk (n : Nat) (p : Pt) : Prop where
  len : p.labels.length = n
  edge : ∀ e ∈ p.edges, 0 ≤ e.a ∧ e.a < e.b ∧ e.b < (n : Int)
  strict : Strict p.edges
section
variable {n : Nat} {a b : List Int} {p q : Pt}
theorem strict_ext {E F : List Edg} (hE : Strict E) (hF : Strict F) (h : ∀ e, e ∈ E ↔ e ∈ F) : E = F := by
  have : DecidableEq Edg := fun x y => decidable_of_iff (cmpE x y = 0) (cmpE_eq x y)
  refine strict_eq (perm_of_sub hE.nodup (fun x hx => (h x).1 hx) ?_) hE hF
  exact nodup_len hF.nodup (fun x hx => (h x).2 hx)
theorem pt_ext (hp : PtOk n p) (hq : PtOk n q) (h1 : ∀ i, i < n → p.labels[i]? = q.labels[i]?) (h2 : ∀ e, e ∈ p.edges ↔ e ∈ q.edges) : p = q := by
  cases p; cases q
  simp only [Pt.mk.injEq]
  refine ⟨List.ext_getElem? fun i => ?_, strict_ext hp.strict hq.strict h2⟩
  by_cases hi : i < n
  · exact h1 i hi
  · have := hp.len; have := hq.len
    rw [List.getElem?_eq_none (by simp only at *; omega), List.getElem?_eq_none (by simp only at *; omega)]
theorem mv_is (b : List Int) {i j : Nat} (hb : IsOrd n b) (hi : i < n) (hj : j < n) : mvE b ⟨i, j⟩ = turn ⟨(pl b i : Int), (pl b j : Int)⟩ := by
  unfold mvE
  simp only [Int.toNat_natCast]
  rw [pl_at hb hi, pl_at hb hj]; rfl
theorem edge_nat {e : Edg} (h : 0 ≤ e.a ∧ e.a < e.b ∧ e.b < (n : Int)) : ∃ i j : Nat, i < j ∧ j < n ∧ e = ⟨i, j⟩ := by
  obtain ⟨x, y⟩ := e
  simp only at h
  obtain ⟨i, rfl⟩ := Int.eq_ofNat_of_zero_le h.1
  obtain ⟨j, rfl⟩ := Int.eq_ofNat_of_zero_le (show 0 ≤ y by omega)
  exact ⟨i, j, by omega, by omega, rfl⟩
theorem mv_ok (hb : IsOrd n b) {e : Edg} (h : 0 ≤ e.a ∧ e.a < e.b ∧ e.b < (n : Int)) : 0 ≤ (mvE b e).a ∧ (mvE b e).a < (mvE b e).b ∧ (mvE b e).b < (n : Int) := by
  obtain ⟨i, j, hij, hj, rfl⟩ := edge_nat h
  rw [mv_is b hb (by omega) hj]
  have h1 := pl_lt hb (show i < n by omega)
  have h2 := pl_lt hb hj
  have h3 : pl b i ≠ pl b j := fun e => by have := pl_inj hb (by omega) hj e; omega
  unfold turn; simp only; omega
theorem turnP_edges (hb : IsOrd n b) (hp : PtOk n p) : Strict (turnP p b).edges ∧ ∀ e, e ∈ (turnP p b).edges ↔ ∃ x ∈ p.edges, e = mvE b x := by
  have hn := mv_nodup hb.2.2 (E := p.edges) (fun e he => by rw [hb.1]; exact hp.edge e he) hp.strict.nodup
  obtain ⟨h1, h2⟩ := fold_ins _ hn [] List.Pairwise.nil (by simp)
  rw [List.append_nil] at h2
  refine ⟨h1, fun e => ?_⟩
  rw [show (turnP p b).edges = (p.edges.map (mvE b)).foldl insE [] from rfl, h2.mem_iff, List.mem_map]
  exact ⟨fun ⟨x, hx, e⟩ => ⟨x, hx, e.symm⟩, fun ⟨x, hx, e⟩ => ⟨x, hx, e.symm⟩⟩
theorem turnP_len (p : Pt) (b : List Int) : (turnP p b).labels.length = p.labels.length := putL_len _ _ _
theorem turnP_at (hb : IsOrd n b) (hp : PtOk n p) {i : Nat} (hi : i < n) : (turnP p b).labels[pl b i]? = p.labels[i]? := putL_at hb hp.len hi
theorem turnP_ok (hb : IsOrd n b) (hp : PtOk n p) : PtOk n (turnP p b) := by
  obtain ⟨h1, h2⟩ := turnP_edges hb hp
  refine ⟨by rw [turnP_len, hp.len], fun e he => ?_, h1⟩
  obtain ⟨x, hx, rfl⟩ := (h2 e).1 he
  exact mv_ok hb (hp.edge x hx)
theorem turnP_edge_len (hb : IsOrd n b) (hp : PtOk n p) : (turnP p b).edges.length = p.edges.length := by
  have hn := mv_nodup hb.2.2 (E := p.edges) (fun e he => by rw [hb.1]; exact hp.edge e he) hp.strict.nodup
  obtain ⟨h1, h2⟩ := fold_ins _ hn [] List.Pairwise.nil (by simp)
  rw [List.append_nil] at h2
  rw [show (turnP p b).edges = (p.edges.map (mvE b)).foldl insE [] from rfl, h2.length_eq, List.length_map]
theorem mv_then (ha : IsOrd n a) (hb : IsOrd n b) {e : Edg} (h : 0 ≤ e.a ∧ e.a < e.b ∧ e.b < (n : Int)) : mvE b (mvE a e) = mvE (thenL a b) e := by
  obtain ⟨i, j, hij, hj, rfl⟩ := edge_nat h
  have hi : i < n := by omega
  rw [mv_is a ha hi hj, mv_is _ (thenL_ord ha hb) hi hj, pl_then ha hb hi, pl_then ha hb hj]
  have hcase : turn ⟨(pl a i : Int), (pl a j : Int)⟩ = ⟨(pl a i : Int), (pl a j : Int)⟩ ∨ turn ⟨(pl a i : Int), (pl a j : Int)⟩ = ⟨(pl a j : Int), (pl a i : Int)⟩ := by
    unfold turn; simp only [Edg.mk.injEq]; omega
  rcases hcase with e | e
  · rw [e, mv_is b hb (pl_lt ha hi) (pl_lt ha hj)]
  · rw [e, mv_is b hb (pl_lt ha hj) (pl_lt ha hi), turn_sym]
theorem turn_then (ha : IsOrd n a) (hb : IsOrd n b) (hp : PtOk n p) : turnP (turnP p a) b = turnP p (thenL a b) := by
  have ho := turnP_ok ha hp
  refine pt_ext (turnP_ok hb ho) (turnP_ok (thenL_ord ha hb) hp) (fun k hk => ?_) (fun e => ?_)
  · obtain ⟨j, hj, rfl⟩ := pl_surj hb hk
    obtain ⟨i, hi, rfl⟩ := pl_surj ha hj
    rw [turnP_at hb ho hj, turnP_at ha hp hi, ← pl_then ha hb hi, turnP_at (thenL_ord ha hb) hp hi]
  · rw [(turnP_edges hb ho).2, (turnP_edges (thenL_ord ha hb) hp).2]
    constructor
    · rintro ⟨x, hx, rfl⟩
      obtain ⟨y, hy, rfl⟩ := ((turnP_edges ha hp).2 x).1 hx
      exact ⟨y, hy, mv_then ha hb (hp.edge y hy)⟩
    · rintro ⟨y, hy, rfl⟩
      exact ⟨mvE a y, ((turnP_edges ha hp).2 _).2 ⟨y, hy, rfl⟩, (mv_then ha hb (hp.edge y hy)).symm⟩
theorem turn_id (hp : PtOk n p) : turnP p (idL n) = p := by
  refine pt_ext (turnP_ok (idL_ord n) hp) hp (fun k hk => ?_) (fun e => ?_)
  · have := turnP_at (idL_ord n) hp hk; rwa [pl_id hk] at this
  · have hm : ∀ x ∈ p.edges, mvE (idL n) x = x := fun x hx => by
      obtain ⟨i, j, hij, hj, rfl⟩ := edge_nat (hp.edge x hx)
      rw [mv_is _ (idL_ord n) (by omega) hj, pl_id (by omega), pl_id hj]
      exact turn_le (by simp only; omega)
    rw [(turnP_edges (idL_ord n) hp).2]
    constructor
    · rintro ⟨x, hx, rfl⟩; rw [hm x hx]; exact hx
    · intro h; exact ⟨e, h, (hm e h).symm⟩
theorem turn_back (ha : IsOrd n a) (hp : PtOk n p) : turnP (turnP p a) (backL a) = p := by rw [turn_then ha (back_ord ha) hp, then_back ha, turn_id hp]
end
end Go.Gr
end
