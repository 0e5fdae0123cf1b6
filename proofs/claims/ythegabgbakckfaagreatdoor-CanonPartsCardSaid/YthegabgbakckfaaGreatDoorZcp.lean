/- Merged: Cpa Cpb Cpc. -/
import Derived.Test.YthegabgbakckfaaGreatDoorZpb
import Derived.Test.YthegabgbakckfaaGreatDoorZsa
section
/- Orders, patterns turned. -/
namespace Go.Gr
open Go.Proofs.YthegabgbakckfaaGreatDoor
/-! ### a list that holds all of another one -/
theorem perm_of_sub {α : Type} [DecidableEq α] : ∀ {l m : List α}, l.Nodup → (∀ x ∈ l, x ∈ m) → m.length ≤ l.length → l.Perm m
  | [], m, _, _, h => by
    have : m = [] := List.eq_nil_of_length_eq_zero (by simpa using h)
    subst this; exact .refl _
  | x :: l, m, hn, hs, h => by
    obtain ⟨h1, h2⟩ := List.nodup_cons.1 hn
    have hx : x ∈ m := hs x (by simp)
    have hp := List.perm_cons_erase hx
    have hl : m.length = (m.erase x).length + 1 := by have := hp.length_eq; simpa using this
    refine (List.Perm.cons x (perm_of_sub h2 (fun y hy => ?_) ?_)).trans hp.symm
    · exact (List.mem_erase_of_ne (fun e => by subst e; exact h1 hy)).2 (hs y (by simp [hy]))
    · simp only [List.length_cons] at h; omega
theorem nodup_len {α : Type} [DecidableEq α] {l m : List α} (hn : l.Nodup) (hs : ∀ x ∈ l, x ∈ m) : l.length ≤ m.length := by
  rcases Nat.lt_or_ge m.length l.length with h | h
  · have := (perm_of_sub hn hs (by omega)).length_eq; omega
  · exact h

/-! ### orders -/
/-- an order of n things -/
def IsOrd (n : Nat) (b : List Int) : Prop := b.length = n ∧ (∀ x ∈ b, 0 ≤ x ∧ x < (n : Int)) ∧ b.Nodup
instance (n : Nat) (b : List Int) : Decidable (IsOrd n b) := by unfold IsOrd; exact inferInstance
/-- a thing's place -/
def pl (b : List Int) (i : Nat) : Nat := ((b[i]?).getD 0).toNat
theorem ordR_is {b : List Int} (h8 : b.length ≤ 8) : ordR b = true ↔ IsOrd b.length b := by
  unfold ordR IsOrd
  simp [h8]
section
variable {n : Nat} {a b : List Int}
theorem pl_at (h : IsOrd n b) {i : Nat} (hi : i < n) : b[i]? = some (pl b i : Int) := by
  have hx := List.getElem?_eq_getElem (l := b) (i := i) (by rw [h.1]; exact hi)
  have := h.2.1 _ (List.getElem_mem (l := b) (n := i) (by rw [h.1]; exact hi))
  unfold pl
  rw [hx, Option.getD_some]
  congr 1; omega
theorem pl_lt (h : IsOrd n b) {i : Nat} (hi : i < n) : pl b i < n := by
  have := h.2.1 _ (List.mem_of_getElem? (pl_at h hi)); omega
theorem pl_inj (h : IsOrd n b) {i j : Nat} (hi : i < n) (hj : j < n) (e : pl b i = pl b j) : i = j := by
  refine (List.getElem?_inj (by rw [h.1]; exact hi) h.2.2).1 ?_
  rw [pl_at h hi, pl_at h hj, e]
theorem pl_out {i : Nat} (h : b.length ≤ i) : pl b i = 0 := by unfold pl; rw [List.getElem?_eq_none h]; rfl
theorem ord_perm (h : IsOrd n b) : b.Perm ((List.range n).map fun i : Nat => (i : Int)) := by
  refine perm_of_sub h.2.2 (fun x hx => ?_) (by rw [List.length_map, List.length_range, h.1]; exact Nat.le_refl _)
  have := h.2.1 x hx
  exact List.mem_map.2 ⟨x.toNat, List.mem_range.2 (by omega), by omega⟩
theorem pl_surj (h : IsOrd n b) {k : Nat} (hk : k < n) : ∃ i, i < n ∧ pl b i = k := by
  have hm : (k : Int) ∈ b := (ord_perm h).mem_iff.2 (List.mem_map.2 ⟨k, List.mem_range.2 hk, rfl⟩)
  obtain ⟨i, hi, e⟩ := List.mem_iff_getElem.1 hm
  have hi' : i < n := by rw [← h.1]; exact hi
  refine ⟨i, hi', ?_⟩
  have := pl_at h hi'
  rw [List.getElem?_eq_getElem hi, e] at this
  have h9 : (k : Int) = (pl b i : Int) := Option.some.inj this
  omega
theorem ord_ext (ha : IsOrd n a) (hb : IsOrd n b) (h : ∀ i, i < n → pl a i = pl b i) : a = b := by
  apply List.ext_getElem?
  intro i
  by_cases hi : i < n
  · rw [pl_at ha hi, pl_at hb hi, h i hi]
  · rw [List.getElem?_eq_none (by rw [ha.1]; omega), List.getElem?_eq_none (by rw [hb.1]; omega)]
theorem ord_of {f : Nat → Nat} (h1 : ∀ i, i < n → f i < n) (h2 : ∀ i j, i < n → j < n → f i = f j → i = j) : IsOrd n ((List.range n).map fun i => (f i : Int)) := by
  refine ⟨by simp, fun x hx => ?_, ?_⟩
  · obtain ⟨i, hi, rfl⟩ := List.mem_map.1 hx
    have := h1 i (List.mem_range.1 hi); omega
  · refine List.pairwise_map.2 (List.Pairwise.imp_of_mem ?_ List.nodup_range)
    intro i j hi hj hne e
    exact hne (h2 i j (List.mem_range.1 hi) (List.mem_range.1 hj) (by omega))
theorem pl_of {f : Nat → Nat} {i : Nat} (hi : i < n) : pl ((List.range n).map fun i => (f i : Int)) i = f i := by
  unfold pl; simp [hi]
/-- each thing in its own place -/
def idL (n : Nat) : List Int := (List.range n).map fun i : Nat => (i : Int)
theorem idL_ord (n : Nat) : IsOrd n (idL n) := ord_of (f := id) (fun _ h => h) (fun _ _ _ _ h => h)
theorem pl_id {i : Nat} (hi : i < n) : pl (idL n) i = i := pl_of (f := id) hi
/-- one order, then another one -/
def thenL (a b : List Int) : List Int := a.map fun x => (b[x.toNat]?).getD 0
theorem thenL_at (ha : IsOrd n a) (hb : IsOrd n b) {i : Nat} (hi : i < n) : (thenL a b)[i]? = some (pl b (pl a i) : Int) := by
  unfold thenL
  rw [List.getElem?_map, pl_at ha hi, Option.map_some, Int.toNat_natCast, pl_at hb (pl_lt ha hi)]; rfl
theorem thenL_is (ha : IsOrd n a) (hb : IsOrd n b) : thenL a b = (List.range n).map fun i => ((pl b (pl a i) : Nat) : Int) := by
  apply List.ext_getElem?
  intro i
  by_cases hi : i < n
  · rw [thenL_at ha hb hi]; simp [hi]
  · rw [List.getElem?_eq_none (by unfold thenL; rw [List.length_map, ha.1]; omega), List.getElem?_eq_none (by simp; omega)]
theorem thenL_ord (ha : IsOrd n a) (hb : IsOrd n b) : IsOrd n (thenL a b) := by
  rw [thenL_is ha hb]
  exact ord_of (fun i hi => pl_lt hb (pl_lt ha hi)) (fun i j hi hj e => pl_inj ha hi hj (pl_inj hb (pl_lt ha hi) (pl_lt ha hj) e))
theorem pl_then (ha : IsOrd n a) (hb : IsOrd n b) {i : Nat} (hi : i < n) : pl (thenL a b) i = pl b (pl a i) := by
  rw [thenL_is ha hb, pl_of (f := fun i => pl b (pl a i)) hi]

/-! ### a list in an order -/
theorem putL_spec (hb : IsOrd n b) {l : List Int} (hl : l.length = n) : ∀ m, m ≤ n → ∀ i, i < m → (putL b l m)[pl b i]? = l[i]? := by
  intro m
  induction m with
  | zero => intro _ i hi; omega
  | succ m ih =>
    intro hm i hi
    have hx := pl_at hb (show m < n by omega)
    have hy := List.getElem?_eq_getElem (l := l) (i := m) (by omega)
    rw [putL_step hx hy, Int.toNat_natCast, List.getElem?_set]
    by_cases e : m = i
    · subst e
      rw [if_pos rfl, if_pos (by rw [putL_len, hl]; exact pl_lt hb (by omega)), hy]
    · rw [if_neg (fun h => e (pl_inj hb (by omega) (by omega) h)), ih (by omega) i (by omega)]
theorem putL_at (hb : IsOrd n b) {l : List Int} (hl : l.length = n) {i : Nat} (hi : i < n) : (putL b l b.length)[pl b i]? = l[i]? := by
  rw [hb.1]; exact putL_spec hb hl n (Nat.le_refl _) i hi
/-- the order that leads back -/
def backL (b : List Int) : List Int := putL b (idL b.length) b.length
theorem back_at (hb : IsOrd n b) {i : Nat} (hi : i < n) : pl (backL b) (pl b i) = i := by
  unfold backL pl
  have := putL_at hb (l := idL b.length) (by unfold idL; simp [hb.1]) hi
  unfold pl at this
  rw [this]
  have : (idL b.length)[i]? = some (i : Int) := by rw [hb.1]; unfold idL; simp [hi]
  rw [this]; simp
theorem back_ord (hb : IsOrd n b) : IsOrd n (backL b) := by
  have hl : (backL b).length = n := by unfold backL; rw [putL_len]; unfold idL; simp [hb.1]
  have key : ∀ k, k < n → ∃ i, i < n ∧ pl b i = k ∧ (backL b)[k]? = some (i : Int) := fun k hk => by
    obtain ⟨i, hi, rfl⟩ := pl_surj hb hk
    refine ⟨i, hi, rfl, ?_⟩
    have := putL_at hb (l := idL b.length) (by unfold idL; simp [hb.1]) hi
    unfold backL
    rw [this, hb.1]; unfold idL; simp [hi]
  have e : backL b = (List.range n).map fun k => (pl (backL b) k : Int) := by
    apply List.ext_getElem?
    intro k
    by_cases hk : k < n
    · obtain ⟨i, hi, hp, hk'⟩ := key k hk
      have : pl (backL b) k = i := by unfold pl; rw [hk']; simp
      rw [hk']; simp [hk, this]
    · rw [List.getElem?_eq_none (by omega), List.getElem?_eq_none (by simp; omega)]
  rw [e]
  refine ord_of (fun k hk => ?_) (fun j k hj hk h => ?_)
  · obtain ⟨i, hi, hp, hk'⟩ := key k hk
    unfold pl; rw [hk']; simpa using hi
  · obtain ⟨i, hi, hp, hk'⟩ := key j hj
    obtain ⟨i2, hi2, hp2, hk2⟩ := key k hk
    unfold pl at h; rw [hk', hk2] at h
    have : i = i2 := by simpa using h
    subst this; omega
theorem then_back (hb : IsOrd n b) : thenL b (backL b) = idL n := ord_ext (thenL_ord hb (back_ord hb)) (idL_ord n) fun i hi => by
  rw [pl_then hb (back_ord hb) hi, back_at hb hi, pl_id hi]
theorem back_then (hb : IsOrd n b) : thenL (backL b) b = idL n := ord_ext (thenL_ord (back_ord hb) hb) (idL_ord n) fun k hk => by
  obtain ⟨i, hi, rfl⟩ := pl_surj hb hk
  rw [pl_then (back_ord hb) hb (pl_lt hb hi), back_at hb hi, pl_id (pl_lt hb hi)]
theorem then_assoc {c : List Int} (ha : IsOrd n a) (hb : IsOrd n b) (hc : IsOrd n c) : thenL (thenL a b) c = thenL a (thenL b c) := ord_ext (thenL_ord (thenL_ord ha hb) hc) (thenL_ord ha (thenL_ord hb hc)) fun i hi => by
  rw [pl_then (thenL_ord ha hb) hc hi, pl_then ha hb hi, pl_then ha (thenL_ord hb hc) hi, pl_then hb hc (pl_lt ha hi)]
theorem then_id (ha : IsOrd n a) : thenL a (idL n) = a := ord_ext (thenL_ord ha (idL_ord n)) ha fun i hi => by rw [pl_then ha (idL_ord n) hi, pl_id (pl_lt ha hi)]
theorem id_then (ha : IsOrd n a) : thenL (idL n) a = a := ord_ext (thenL_ord (idL_ord n) ha) ha fun i hi => by rw [pl_then (idL_ord n) ha hi, pl_id hi]
end

/-! ### patterns turned -/
/-- a right pattern of n vertices -/
structure PtOk (n : Nat) (p : Pt) : Prop where
  len : p.labels.length = n
  edge : ∀ e ∈ p.edges, 0 ≤ e.a ∧ e.a < e.b ∧ e.b < (n : Int)
  strict : Strict p.edges
section
variable {n : Nat} {a b : List Int} {p q : Pt}
theorem strict_ext {E F : List Edg} (hE : Strict E) (hF : Strict F) (h : ∀ e, e ∈ E ↔ e ∈ F) : E = F := by
  have : DecidableEq Edg := fun x y => decidable_of_iff (cmpE x y = 0) (cmpE_eq x y)
  refine strict_eq (perm_of_sub hE.nodup (fun x hx => (h x).1 hx) ?_) hE hF
  exact nodup_len hF.nodup (fun x hx => (h x).2 hx)
theorem pt_ext (hp : PtOk n p) (hq : PtOk n q) (h1 : ∀ i, i < n → p.labels[i]? = q.labels[i]?) (h2 : ∀ e, e ∈ p.edges ↔ e ∈ q.edges) : p = q := by
  cases p; cases q
  simp only [Pt.mk.injEq]
  refine ⟨List.ext_getElem? fun i => ?_, strict_ext hp.strict hq.strict h2⟩
  by_cases hi : i < n
  · exact h1 i hi
  · have := hp.len; have := hq.len
    rw [List.getElem?_eq_none (by simp only at *; omega), List.getElem?_eq_none (by simp only at *; omega)]
theorem mv_is (b : List Int) {i j : Nat} (hb : IsOrd n b) (hi : i < n) (hj : j < n) : mvE b ⟨i, j⟩ = turn ⟨(pl b i : Int), (pl b j : Int)⟩ := by
  unfold mvE
  simp only [Int.toNat_natCast]
  rw [pl_at hb hi, pl_at hb hj]; rfl
theorem edge_nat {e : Edg} (h : 0 ≤ e.a ∧ e.a < e.b ∧ e.b < (n : Int)) : ∃ i j : Nat, i < j ∧ j < n ∧ e = ⟨i, j⟩ := by
  obtain ⟨x, y⟩ := e
  simp only at h
  obtain ⟨i, rfl⟩ := Int.eq_ofNat_of_zero_le h.1
  obtain ⟨j, rfl⟩ := Int.eq_ofNat_of_zero_le (show 0 ≤ y by omega)
  exact ⟨i, j, by omega, by omega, rfl⟩
theorem mv_ok (hb : IsOrd n b) {e : Edg} (h : 0 ≤ e.a ∧ e.a < e.b ∧ e.b < (n : Int)) : 0 ≤ (mvE b e).a ∧ (mvE b e).a < (mvE b e).b ∧ (mvE b e).b < (n : Int) := by
  obtain ⟨i, j, hij, hj, rfl⟩ := edge_nat h
  rw [mv_is b hb (by omega) hj]
  have h1 := pl_lt hb (show i < n by omega)
  have h2 := pl_lt hb hj
  have h3 : pl b i ≠ pl b j := fun e => by have := pl_inj hb (by omega) hj e; omega
  unfold turn; simp only; omega
theorem turnP_edges (hb : IsOrd n b) (hp : PtOk n p) : Strict (turnP p b).edges ∧ ∀ e, e ∈ (turnP p b).edges ↔ ∃ x ∈ p.edges, e = mvE b x := by
  have hn := mv_nodup hb.2.2 (E := p.edges) (fun e he => by rw [hb.1]; exact hp.edge e he) hp.strict.nodup
  obtain ⟨h1, h2⟩ := fold_ins _ hn [] List.Pairwise.nil (by simp)
  rw [List.append_nil] at h2
  refine ⟨h1, fun e => ?_⟩
  rw [show (turnP p b).edges = (p.edges.map (mvE b)).foldl insE [] from rfl, h2.mem_iff, List.mem_map]
  exact ⟨fun ⟨x, hx, e⟩ => ⟨x, hx, e.symm⟩, fun ⟨x, hx, e⟩ => ⟨x, hx, e.symm⟩⟩
theorem turnP_len (p : Pt) (b : List Int) : (turnP p b).labels.length = p.labels.length := putL_len _ _ _
theorem turnP_at (hb : IsOrd n b) (hp : PtOk n p) {i : Nat} (hi : i < n) : (turnP p b).labels[pl b i]? = p.labels[i]? := putL_at hb hp.len hi
theorem turnP_ok (hb : IsOrd n b) (hp : PtOk n p) : PtOk n (turnP p b) := by
  obtain ⟨h1, h2⟩ := turnP_edges hb hp
  refine ⟨by rw [turnP_len, hp.len], fun e he => ?_, h1⟩
  obtain ⟨x, hx, rfl⟩ := (h2 e).1 he
  exact mv_ok hb (hp.edge x hx)
theorem turnP_edge_len (hb : IsOrd n b) (hp : PtOk n p) : (turnP p b).edges.length = p.edges.length := by
  have hn := mv_nodup hb.2.2 (E := p.edges) (fun e he => by rw [hb.1]; exact hp.edge e he) hp.strict.nodup
  obtain ⟨h1, h2⟩ := fold_ins _ hn [] List.Pairwise.nil (by simp)
  rw [List.append_nil] at h2
  rw [show (turnP p b).edges = (p.edges.map (mvE b)).foldl insE [] from rfl, h2.length_eq, List.length_map]
theorem mv_then (ha : IsOrd n a) (hb : IsOrd n b) {e : Edg} (h : 0 ≤ e.a ∧ e.a < e.b ∧ e.b < (n : Int)) : mvE b (mvE a e) = mvE (thenL a b) e := by
  obtain ⟨i, j, hij, hj, rfl⟩ := edge_nat h
  have hi : i < n := by omega
  rw [mv_is a ha hi hj, mv_is _ (thenL_ord ha hb) hi hj, pl_then ha hb hi, pl_then ha hb hj]
  have hcase : turn ⟨(pl a i : Int), (pl a j : Int)⟩ = ⟨(pl a i : Int), (pl a j : Int)⟩ ∨ turn ⟨(pl a i : Int), (pl a j : Int)⟩ = ⟨(pl a j : Int), (pl a i : Int)⟩ := by
    unfold turn; simp only [Edg.mk.injEq]; omega
  rcases hcase with e | e
  · rw [e, mv_is b hb (pl_lt ha hi) (pl_lt ha hj)]
  · rw [e, mv_is b hb (pl_lt ha hj) (pl_lt ha hi), turn_sym]
theorem turn_then (ha : IsOrd n a) (hb : IsOrd n b) (hp : PtOk n p) : turnP (turnP p a) b = turnP p (thenL a b) := by
  have ho := turnP_ok ha hp
  refine pt_ext (turnP_ok hb ho) (turnP_ok (thenL_ord ha hb) hp) (fun k hk => ?_) (fun e => ?_)
  · obtain ⟨j, hj, rfl⟩ := pl_surj hb hk
    obtain ⟨i, hi, rfl⟩ := pl_surj ha hj
    rw [turnP_at hb ho hj, turnP_at ha hp hi, ← pl_then ha hb hi, turnP_at (thenL_ord ha hb) hp hi]
  · rw [(turnP_edges hb ho).2, (turnP_edges (thenL_ord ha hb) hp).2]
    constructor
    · rintro ⟨x, hx, rfl⟩
      obtain ⟨y, hy, rfl⟩ := ((turnP_edges ha hp).2 x).1 hx
      exact ⟨y, hy, mv_then ha hb (hp.edge y hy)⟩
    · rintro ⟨y, hy, rfl⟩
      exact ⟨mvE a y, ((turnP_edges ha hp).2 _).2 ⟨y, hy, rfl⟩, (mv_then ha hb (hp.edge y hy)).symm⟩
theorem turn_id (hp : PtOk n p) : turnP p (idL n) = p := by
  refine pt_ext (turnP_ok (idL_ord n) hp) hp (fun k hk => ?_) (fun e => ?_)
  · have := turnP_at (idL_ord n) hp hk; rwa [pl_id hk] at this
  · have hm : ∀ x ∈ p.edges, mvE (idL n) x = x := fun x hx => by
      obtain ⟨i, j, hij, hj, rfl⟩ := edge_nat (hp.edge x hx)
      rw [mv_is _ (idL_ord n) (by omega) hj, pl_id (by omega), pl_id hj]
      exact turn_le (by simp only; omega)
    rw [(turnP_edges (idL_ord n) hp).2]
    constructor
    · rintro ⟨x, hx, rfl⟩; rw [hm x hx]; exact hx
    · intro h; exact ⟨e, h, (hm e h).symm⟩
theorem turn_back (ha : IsOrd n a) (hp : PtOk n p) : turnP (turnP p a) (backL a) = p := by rw [turn_then ha (back_ord ha) hp, then_back ha, turn_id hp]
end
end Go.Gr
end

section
/- Patterns' own order, search's orders, classes. -/
namespace Go.Gr
open Go.Proofs.YthegabgbakckfaaGreatDoor
/-! ### which pattern comes ahead -/
/-- a whole order, told by a number -/
structure TOrd {α : Type} (f : α → α → Int) : Prop where
  eq0 : ∀ x y, f x y = 0 ↔ x = y
  anti : ∀ x y, f y x < 0 ↔ 0 < f x y
  trans : ∀ x y z, f x y < 0 → f y z < 0 → f x z < 0
theorem torI : TOrd cmpI := ⟨cmpI_eq, fun x y => by rw [cmpI_anti]; omega, fun x y z => by rw [cmpI_lt, cmpI_lt, cmpI_lt]; omega⟩
theorem cmpF_self {α : Type} {f : α → α → Int} (h : TOrd f) : ∀ l, cmpF f l l = 0
  | [] => rfl
  | x :: l => by rw [cmpF_cons, if_pos ((h.eq0 x x).2 rfl)]; exact cmpF_self h l
theorem torF {α : Type} {f : α → α → Int} (h : TOrd f) : TOrd (cmpF f) := by
  refine ⟨fun x => ?_, fun x => ?_, fun x => ?_⟩
  · induction x with
    | nil => intro y; cases y <;> simp [cmpF]
    | cons a x ih =>
      intro y
      cases y with
      | nil => simp [cmpF]
      | cons b y =>
        rw [cmpF_cons]
        by_cases e : f a b = 0
        · rw [if_pos e, ih y]
          have := (h.eq0 a b).1 e
          subst this; simp
        · rw [if_neg e]
          have : a ≠ b := fun hh => e ((h.eq0 a b).2 hh)
          simp [e, this]
  · induction x with
    | nil => intro y; cases y <;> simp [cmpF]
    | cons a x ih =>
      intro y
      cases y with
      | nil => simp [cmpF]
      | cons b y =>
        rw [cmpF_cons, cmpF_cons]
        by_cases e : f a b = 0
        · have := (h.eq0 a b).1 e
          subst this
          rw [if_pos e, if_pos e]; exact ih y
        · have e2 : f b a ≠ 0 := fun hh => e ((h.eq0 a b).2 ((h.eq0 b a).1 hh).symm)
          rw [if_neg e, if_neg e2]; exact h.anti a b
  · induction x with
    | nil => intro y z; cases y <;> cases z <;> simp [cmpF]
    | cons a x ih =>
      intro y z
      cases y with
      | nil => simp [cmpF]
      | cons b y =>
        cases z with
        | nil => simp [cmpF]
        | cons c z =>
          rw [cmpF_cons, cmpF_cons, cmpF_cons]
          by_cases e1 : f a b = 0
          · have := (h.eq0 a b).1 e1
            subst this
            rw [if_pos e1]
            by_cases e2 : f a c = 0
            · rw [if_pos e2, if_pos e2]; exact ih y z
            · rw [if_neg e2, if_neg e2]; exact fun _ h => h
          · rw [if_neg e1]
            by_cases e2 : f b c = 0
            · have := (h.eq0 b c).1 e2
              subst this
              rw [if_pos e2, if_neg e1]; exact fun h _ => h
            · rw [if_neg e2]
              intro h1 h2
              have h3 := h.trans _ _ _ h1 h2
              rw [if_neg (by omega)]; exact h3
theorem cmpF_append {α : Type} {f : α → α → Int} (h : TOrd f) : ∀ {a b : List α} (c d : List α), a.length = b.length → cmpF f (a ++ c) (b ++ d) = if cmpF f a b = 0 then cmpF f c d else cmpF f a b
  | [], [], c, d, _ => by simp [cmpF]
  | x :: a, y :: b, c, d, hl => by
    rw [List.cons_append, List.cons_append, cmpF_cons, cmpF_cons, cmpF_append h (a := a) (b := b) c d (by simpa using hl)]
    by_cases e : f x y = 0
    · simp [e]
    · simp [e]
  | [], _ :: _, _, _, hl => by simp at hl
  | _ :: _, [], _, _, hl => by simp at hl
/-- a pattern's words -/
def keyP (p : Pt) : List Int := (p.labels.length : Int) :: (p.labels ++ (p.edges.length : Int) :: p.edges.flatMap fun e => [e.a, e.b])
theorem cmpF_edges : ∀ E F : List Edg, cmpF cmpE E F = cmpF cmpI (E.flatMap fun e => [e.a, e.b]) (F.flatMap fun e => [e.a, e.b])
  | [], [] => rfl
  | [], _ :: _ => rfl
  | _ :: _, [] => rfl
  | x :: E, y :: F => by
    simp only [List.flatMap_cons, List.cons_append, List.nil_append, cmpF_cons]
    rw [cmpF_edges E F]
    unfold cmpE
    by_cases h : cmpI x.a y.a = 0
    · simp [h]
    · simp [h]
theorem cmpP_key (p q : Pt) : cmpP p q = cmpF cmpI (keyP p) (keyP q) := by
  unfold cmpP keyP orF
  rw [cmpF_cons]
  by_cases h1 : cmpI (p.labels.length : Int) (q.labels.length : Int) = 0
  · rw [if_pos h1, if_pos h1, cmpF_append torI _ _ (by have := (cmpI_eq _ _).1 h1; omega)]
    unfold orF
    by_cases h2 : cmpF cmpI p.labels q.labels = 0
    · rw [if_pos h2, if_pos h2, cmpF_cons, ← cmpF_edges]
      unfold orF
      by_cases h3 : cmpI (p.edges.length : Int) (q.edges.length : Int) = 0
      · rw [if_pos h3, if_pos h3]; unfold orF
        by_cases h4 : cmpF cmpE p.edges q.edges = 0
        · rw [if_pos h4, h4]; rfl
        · rw [if_neg h4]
      · rw [if_neg h3, if_neg h3]
    · rw [if_neg h2, if_neg h2]
  · rw [if_neg h1, if_neg h1]
theorem flat_inj : ∀ {E F : List Edg}, (E.flatMap fun e => [e.a, e.b]) = (F.flatMap fun e => [e.a, e.b]) → E = F
  | [], [], _ => rfl
  | [], _ :: _, h => by simp at h
  | _ :: _, [], h => by simp at h
  | x :: E, y :: F, h => by
    simp only [List.flatMap_cons, List.cons_append, List.nil_append, List.cons.injEq] at h
    rw [flat_inj h.2.2]
    cases x; cases y; simp only at h; simp [h.1, h.2.1]
theorem keyP_inj {p q : Pt} (h : keyP p = keyP q) : p = q := by
  unfold keyP at h
  rw [List.cons.injEq] at h
  obtain ⟨h1, h2⟩ := List.append_inj h.2 (by have := h.1; omega)
  rw [List.cons.injEq] at h2
  cases p; cases q
  simp only at h1 h2
  simp [h1, flat_inj h2.2]
theorem torP : TOrd cmpP := ⟨fun x y => by
    rw [cmpP_key, (torF torI).eq0]; exact ⟨keyP_inj, fun h => by rw [h]⟩, fun x y => by
    rw [cmpP_key, cmpP_key]; exact (torF torI).anti _ _, fun x y z => by
    rw [cmpP_key, cmpP_key, cmpP_key]; exact (torF torI).trans _ _ _⟩
instance : DecidableEq Pt := fun p q => decidable_of_iff (cmpP p q = 0) (torP.eq0 p q)
section
variable {α : Type} {f : α → α → Int} (h : TOrd f)
include h
theorem TOrd.not_lt {x y : α} : ¬ f x y < 0 ↔ f y x ≤ 0 := by
  rw [h.anti y x]; omega
theorem TOrd.le_of {x y : α} (hxy : f x y ≤ 0) : f x y < 0 ∨ x = y := by
  rcases Int.lt_or_eq_of_le hxy with h1 | h1
  · exact .inl h1
  · exact .inr ((h.eq0 _ _).1 h1)
theorem TOrd.self (x : α) : f x x = 0 := (h.eq0 x x).2 rfl
theorem TOrd.le_trans {x y z : α} (h1 : f x y ≤ 0) (h2 : f y z ≤ 0) : f x z ≤ 0 := by
  rcases h.le_of h1 with h1 | rfl
  · rcases h.le_of h2 with h2 | rfl
    · exact Int.le_of_lt (h.trans _ _ _ h1 h2)
    · omega
  · exact h2
theorem TOrd.antisymm {x y : α} (h1 : f x y ≤ 0) (h2 : f y x ≤ 0) : x = y := by
  rcases h.le_of h1 with h1 | rfl
  · have := (h.anti y x).1 h1; omega
  · rfl
end
/-- what lies in order comes ahead of all that it may be laid to -/
theorem sorted_least : ∀ {S T : List Int}, S.Pairwise (· ≤ ·) → T.Perm S → cmpF cmpI S T ≤ 0
  | [], T, _, hp => by rw [hp.eq_nil]; exact Int.le_refl _
  | s :: S, [], _, hp => by have := hp.length_eq; simp at this
  | s :: S, t :: T, hs, hp => by
    obtain ⟨h1, h2⟩ := List.pairwise_cons.1 hs
    rw [cmpF_cons]
    by_cases e : s = t
    · subst e
      rw [if_pos ((cmpI_eq s s).2 rfl)]
      exact sorted_least h2 ((List.perm_cons s).1 hp)
    · have : t ∈ S := by
        have := hp.mem_iff.1 (List.mem_cons_self (a := t) (l := T))
        rcases List.mem_cons.1 this with h | h
        · exact absurd h.symm e
        · exact h
      have hlt : s < t := by have := h1 t this; omega
      rw [if_neg (by rw [cmpI_eq]; exact e)]
      have := (cmpI_lt s t).2 hlt; omega
/-- patterns of as many vertices: the labels come first -/
theorem cmpP_labels {p q : Pt} (hl : p.labels.length = q.labels.length) (h : cmpF cmpI p.labels q.labels < 0) : cmpP p q < 0 := by
  unfold cmpP
  rw [show cmpI (p.labels.length : Int) (q.labels.length : Int) = 0 from (cmpI_eq _ _).2 (by omega)]
  unfold orF; rw [if_pos rfl]; unfold orF
  rw [if_neg (by omega)]; exact h

/-! ### the orders that search goes through -/
theorem mem_ordL (fr to : List Int) : ∀ (k : Nat) (ah : List Nat) (o : List Int), o ∈ ordL fr to k ah ↔ ∃ t : List Nat, t.length = k ∧ o = (ah ++ t).map (fun j : Nat => (j : Int)) ∧
    ∀ i j, t[i]? = some j → j ∉ ah ++ t.take i ∧ j < to.length ∧ to[j]? = fr[ah.length + i]?
  | 0, ah, o => by
    simp only [ordL, List.mem_singleton]
    constructor
    · rintro rfl; exact ⟨[], rfl, by simp, by simp⟩
    · rintro ⟨t, ht, rfl, _⟩
      rw [List.eq_nil_of_length_eq_zero ht]; simp
  | k + 1, ah, o => by
    simp only [ordL, List.mem_flatMap, List.mem_filter, List.mem_range, Bool.and_eq_true, decide_eq_true_eq, Bool.not_eq_true']
    constructor
    · rintro ⟨j, ⟨hj, hc, he⟩, ho⟩
      obtain ⟨t, ht, rfl, hh⟩ := (mem_ordL fr to k (ah ++ [j]) o).1 ho
      refine ⟨j :: t, by simp [ht], by simp, fun i j' hi => ?_⟩
      cases i with
      | zero =>
        simp at hi; subst hi
        refine ⟨by simpa using hc, hj, by simpa using he⟩
      | succ i =>
        have := hh i j' (by simpa using hi)
        refine ⟨by simpa using this.1, this.2.1, ?_⟩
        rw [this.2.2, List.length_append, List.length_singleton, Nat.add_assoc, Nat.add_comm 1 i]
    · rintro ⟨t, ht, rfl, hh⟩
      cases t with
      | nil => simp at ht
      | cons j t =>
        have h0 := hh 0 j rfl
        refine ⟨j, ⟨h0.2.1, by simpa using h0.1, by simpa using h0.2.2⟩, (mem_ordL fr to k (ah ++ [j]) _).2 ⟨t, by simpa using ht, by simp, fun i j' hi => ?_⟩⟩
        have := hh (i + 1) j' (by simpa using hi)
        refine ⟨by simpa using this.1, this.2.1, ?_⟩
        rw [this.2.2, List.length_append, List.length_singleton, Nat.add_assoc, Nat.add_comm 1 i]
theorem mem_ords {fr to : List Int} {n : Nat} (ht : to.length = n) {o : List Int} : o ∈ ordL fr to n [] ↔ IsOrd n o ∧ ∀ i, i < n → to[pl o i]? = fr[i]? := by
  rw [mem_ordL]
  constructor
  · rintro ⟨t, hl, rfl, hh⟩
    simp only [List.nil_append, List.length_nil, Nat.zero_add] at hh ⊢
    refine ⟨⟨by simp [hl], fun x hx => ?_, ?_⟩, fun i hi => ?_⟩
    · obtain ⟨j, hj, rfl⟩ := List.mem_map.1 hx
      obtain ⟨i, hi, rfl⟩ := List.mem_iff_getElem.1 hj
      have := (hh i _ (List.getElem?_eq_getElem hi)).2.1
      omega
    · refine List.pairwise_map.2 ?_
      rw [List.pairwise_iff_getElem]
      intro i j hi hj hij e
      have := (hh j _ (List.getElem?_eq_getElem hj)).1
      refine this (List.mem_take_iff_getElem.2 ⟨i, by omega, ?_⟩)
      omega
    · have hx := List.getElem?_eq_getElem (l := t) (i := i) (by omega)
      have := (hh i _ hx).2.2
      rw [← this]
      congr 1
      unfold pl
      rw [List.getElem?_map, hx]; simp
  · rintro ⟨ho, hh⟩
    refine ⟨o.map Int.toNat, by simp [ho.1], ?_, fun i j hi => ?_⟩
    · rw [List.nil_append, List.map_map]
      refine (List.map_id _).symm.trans (List.map_congr_left fun x hx => ?_)
      have := ho.2.1 x hx
      simp only [Function.comp_apply, id]; omega
    · have hin : i < n := by
        have := (List.getElem?_eq_some_iff.1 hi).1
        rw [List.length_map, ho.1] at this; exact this
      rw [List.getElem?_map, pl_at ho hin] at hi
      simp only [Option.map_some, Int.toNat_natCast, Option.some.injEq] at hi
      subst hi
      refine ⟨?_, by rw [ht]; exact pl_lt ho hin, by simpa using hh i hin⟩
      rw [List.nil_append]
      intro hm
      obtain ⟨k, hk, e⟩ := List.mem_take_iff_getElem.1 hm
      rw [List.getElem_map] at e
      have hkn : k < n := by omega
      have := pl_at ho hkn
      have hkl : k < o.length := by rw [ho.1]; exact hkn
      rw [List.getElem?_eq_getElem hkl] at this
      have e2 : pl o k = pl o i := by
        rw [Option.some.inj this] at e
        simpa using e
      have := pl_inj ho hkn hin e2; omega
theorem ordL_nodup (fr to : List Int) : ∀ (k : Nat) (ah : List Nat), (ordL fr to k ah).Nodup
  | 0, ah => by simp [ordL]
  | k + 1, ah => by
    simp only [ordL]
    refine List.pairwise_flatMap.2 ⟨fun j _ => ordL_nodup fr to k _, ?_⟩
    refine List.Pairwise.imp ?_ (List.nodup_range.filter _)
    intro i j hij x hx y hy e
    subst e
    obtain ⟨t1, _, e1, _⟩ := (mem_ordL fr to k _ _).1 hx
    obtain ⟨t2, _, e2, _⟩ := (mem_ordL fr to k _ _).1 hy
    rw [e1] at e2
    have e3 : ((ah ++ [i]) ++ t1).map (fun j : Nat => (j : Int)) = ((ah ++ [j]) ++ t2).map (fun j : Nat => (j : Int)) := e2
    have e4 := congrArg (fun l : List Int => l[ah.length]?) e3
    simp at e4
    omega
/-- .. how many there are where all may be -/
def facN : Nat → Nat
  | 0 => 1
  | n + 1 => (n + 1) * facN n
theorem flatMap_len {α β : Type} {l : List α} {f : α → List β} {k : Nat} (h : ∀ x ∈ l, (f x).length = k) : (l.flatMap f).length = l.length * k := by
  induction l with
  | nil => simp
  | cons x l ih =>
    rw [List.flatMap_cons, List.length_append, h x (by simp), ih fun y hy => h y (by simp [hy]), List.length_cons, Nat.add_mul]; omega
theorem filter_len2 {α : Type} (p : α → Bool) : ∀ l : List α, l.length = (l.filter p).length + (l.filter fun x => !p x).length
  | [] => rfl
  | x :: l => by
    have := filter_len2 p l
    cases h : p x with
    | true => rw [List.filter_cons_of_pos h, List.filter_cons_of_neg (by simp [h]), List.length_cons, List.length_cons]; omega
    | false => rw [List.filter_cons_of_neg (by simp [h]), List.filter_cons_of_pos (by simp [h]), List.length_cons, List.length_cons]; omega
theorem free_len {n : Nat} {ah : List Nat} (hn : ah.Nodup) (h : ∀ j ∈ ah, j < n) : ((List.range n).filter fun j => !(ah.contains j)).length + ah.length = n := by
  have h1 : ((List.range n).filter fun j => ah.contains j).Perm ah := by
    refine perm_of_sub (List.nodup_range.filter _) (fun x hx => by simpa using (List.mem_filter.1 hx).2) ?_
    exact nodup_len hn fun x hx => List.mem_filter.2 ⟨List.mem_range.2 (h x hx), by simpa using hx⟩
  have h2 := filter_len2 (fun j => ah.contains j) (List.range n)
  rw [List.length_range, h1.length_eq] at h2
  omega
theorem ordL_len (n : Nat) : ∀ (k : Nat) (ah : List Nat), ah.Nodup → (∀ j ∈ ah, j < n) → ah.length + k = n → (ordL (List.replicate n 0) (List.replicate n 0) k ah).length = facN k
  | 0, ah, _, _, _ => rfl
  | k + 1, ah, hn, hj, hk => by
    simp only [ordL, List.length_replicate]
    have hf : ((List.range n).filter fun j => !(ah.contains j) && decide ((List.replicate n (0 : Int))[j]? = (List.replicate n (0 : Int))[ah.length]?)) = (List.range n).filter fun j => !(ah.contains j) := by
      refine List.filter_congr fun j hj' => ?_
      have : j < n := List.mem_range.1 hj'
      simp [this, show ah.length < n by omega]
    rw [hf, flatMap_len (k := facN k)]
    · have := free_len hn hj
      rw [show ((List.range n).filter fun j => !(ah.contains j)).length = k + 1 by omega]; rfl
    · intro j hjm
      obtain ⟨h1, h2⟩ := List.mem_filter.1 hjm
      have h1' := List.mem_range.1 h1
      refine ordL_len n k (ah ++ [j]) ?_ ?_ (by simp; omega)
      · exact List.nodup_append.2 ⟨hn, by simp, fun a ha b hb e => by simp at hb; subst hb; subst e; simp at h2; exact h2 ha⟩
      · intro x hx
        rcases List.mem_append.1 hx with hx | hx
        · exact hj x hx
        · simp at hx; subst hx; exact h1'
/-- all orders of n -/
def allO (n : Nat) : List (List Int) := ordL (List.replicate n 0) (List.replicate n 0) n []
theorem mem_allO {n : Nat} {o : List Int} : o ∈ allO n ↔ IsOrd n o := by
  unfold allO
  rw [mem_ords (by simp)]
  refine ⟨fun h => h.1, fun h => ⟨h, fun i hi => ?_⟩⟩
  simp [hi, pl_lt h hi]
theorem allO_len (n : Nat) : (allO n).length = facN n := ordL_len n n [] (by simp) (by simp) (by simp)
theorem allO_nodup (n : Nat) : (allO n).Nodup := ordL_nodup _ _ _ _

/-! ### things in classes of as many each -/
theorem classes {α β : Type} [DecidableEq β] (f : α → β) (k : Nat) : ∀ (m : Nat) (l : List α), l.length ≤ m → (∀ y ∈ l, (l.filter fun x => decide (f x = f y)).length = k) → ∃ c : List β, c.Nodup ∧ (∀ b, b ∈ c ↔ ∃ x ∈ l, f x = b) ∧ l.length = c.length * k
  | _, [], _, _ => ⟨[], by simp, by simp, by simp⟩
  | 0, x :: l, h, _ => by simp at h
  | m + 1, x :: l, h, hk => by
    have h2 := filter_len2 (fun y => decide (f y = f x)) (x :: l)
    have hx := hk x (by simp)
    have hlt : ((x :: l).filter fun y => !decide (f y = f x)).length ≤ m := by
      have : 1 ≤ ((x :: l).filter fun y => decide (f y = f x)).length := by
        rw [List.filter_cons_of_pos (by simp)]; simp
      simp only [List.length_cons] at h h2
      omega
    obtain ⟨c, h3, h4, h5⟩ := classes f k m ((x :: l).filter fun y => !decide (f y = f x)) hlt (fun y hy => by
      obtain ⟨hy1, hy2⟩ := List.mem_filter.1 hy
      rw [← hk y hy1, List.filter_filter]
      congr 1
      refine List.filter_congr fun z _ => ?_
      simp only [Bool.not_eq_true', decide_eq_false_iff_not] at hy2
      by_cases e : f z = f y
      · rw [e]; simp [hy2]
      · simp [e])
    refine ⟨f x :: c, List.nodup_cons.2 ⟨fun hm => ?_, h3⟩, fun b => ?_, ?_⟩
    · obtain ⟨y, hy, e⟩ := (h4 _).1 hm
      have := (List.mem_filter.1 hy).2
      simp [e] at this
    · rw [List.mem_cons, h4]
      constructor
      · rintro (rfl | ⟨y, hy, rfl⟩)
        · exact ⟨x, by simp, rfl⟩
        · exact ⟨y, (List.mem_filter.1 hy).1, rfl⟩
      · rintro ⟨y, hy, rfl⟩
        by_cases e : f y = f x
        · exact .inl e
        · exact .inr ⟨y, List.mem_filter.2 ⟨hy, by simpa using e⟩, rfl⟩
    · rw [h2, hx, h5, List.length_cons, Nat.add_mul]; omega
/-- a list with as many things as another one by a map there and back -/
theorem len_bij {α β : Type} [DecidableEq α] [DecidableEq β] {l : List α} {m : List β} (hl : l.Nodup) (hm : m.Nodup) (f : α → β) (g : β → α) (hf : ∀ x ∈ l, f x ∈ m ∧ g (f x) = x) (hg : ∀ y ∈ m, g y ∈ l ∧ f (g y) = y) : l.length = m.length := by
  have key : ∀ {α β : Type} [DecidableEq α] [DecidableEq β] {l : List α} {m : List β} (f : α → β) (g : β → α), l.Nodup → (∀ x ∈ l, f x ∈ m ∧ g (f x) = x) → l.length ≤ m.length := fun {_ _} _ _ {l m} f g hl hf => by
    have : (l.map f).Nodup := by
      refine List.pairwise_map.2 (List.Pairwise.imp_of_mem ?_ hl)
      intro x y hx hy hne e
      exact hne (by rw [← (hf x hx).2, ← (hf y hy).2, e])
    have := nodup_len this (m := m) fun y hy => by
      obtain ⟨x, hx, rfl⟩ := List.mem_map.1 hy; exact (hf x hx).1
    simpa using this
  exact Nat.le_antisymm (key f g hl hf) (key g f hm hg)
end Go.Gr
end

section
/- The least form, the orders from one pattern to another one. -/
namespace Go.Gr
open Go.Proofs.YthegabgbakckfaaGreatDoor
def sortI (l : List Int) : List Int := l.mergeSort fun x y => decide (x ≤ y)
theorem sortI_perm (l : List Int) : (sortI l).Perm l := List.mergeSort_perm _ _
theorem sortI_le (l : List Int) : (sortI l).Pairwise (· ≤ ·) := by
  have h := List.pairwise_mergeSort (le := fun x y : Int => decide (x ≤ y)) (fun a b c h1 h2 => by simp at *; omega) (fun a b => by simp; omega) l
  exact h.imp fun h => by simpa using h
theorem sortI_len (l : List Int) : (sortI l).length = l.length := (sortI_perm l).length_eq
/-! ### the least form -/
/-- the least so far, and the order that led to it -/
def stepB (p : Pt) (s : Option (Pt × List Int)) (o : List Int) : Option (Pt × List Int) := match s with
  | none => some (turnP p o, o)
  | some (q, b) => if cmpP (turnP p o) q < 0 then some (turnP p o, o) else some (q, b)
/-- the orders that the form is looked for among -/
def formO (p : Pt) : List (List Int) := ordL p.labels (sortI p.labels) p.labels.length []
def formB (p : Pt) : Option (Pt × List Int) := (formO p).foldl (stepB p) none
def formP (p : Pt) : Pt := ((formB p).getD (⟨[], []⟩, [])).1
def byP (p : Pt) : List Int := ((formB p).getD (⟨[], []⟩, [])).2
theorem best_some (p : Pt) : ∀ (xs : List (List Int)) (b : List Int), ∃ b', xs.foldl (stepB p) (some (turnP p b, b)) = some (turnP p b', b') ∧ (b' = b ∨ b' ∈ xs) ∧ cmpP (turnP p b') (turnP p b) ≤ 0 ∧ ∀ o ∈ xs, cmpP (turnP p b') (turnP p o) ≤ 0
  | [], b => ⟨b, rfl, .inl rfl, Int.le_of_eq (torP.self _), by simp⟩
  | x :: xs, b => by
    rw [List.foldl_cons]
    by_cases h : cmpP (turnP p x) (turnP p b) < 0
    · obtain ⟨b', h1, h2, h3, h4⟩ := best_some p xs x
      refine ⟨b', by rw [← h1]; simp only [stepB]; rw [if_pos h], .inr (by rcases h2 with rfl | h2 <;> simp [*]), torP.le_trans h3 (Int.le_of_lt h), fun o ho => ?_⟩
      rcases List.mem_cons.1 ho with rfl | ho
      · exact h3
      · exact h4 o ho
    · obtain ⟨b', h1, h2, h3, h4⟩ := best_some p xs b
      refine ⟨b', by rw [← h1]; simp only [stepB]; rw [if_neg h], by rcases h2 with rfl | h2 <;> simp [*], h3, fun o ho => ?_⟩
      rcases List.mem_cons.1 ho with rfl | ho
      · exact torP.le_trans h3 (torP.not_lt.1 h)
      · exact h4 o ho
theorem best_of (p : Pt) {xs : List (List Int)} (h : xs ≠ []) : ∃ b, xs.foldl (stepB p) none = some (turnP p b, b) ∧ b ∈ xs ∧ ∀ o ∈ xs, cmpP (turnP p b) (turnP p o) ≤ 0 := by
  cases xs with
  | nil => exact absurd rfl h
  | cons x xs =>
    obtain ⟨b, h1, h2, h3, h4⟩ := best_some p xs x
    refine ⟨b, h1, by rcases h2 with rfl | h2 <;> simp [*], fun o ho => ?_⟩
    rcases List.mem_cons.1 ho with rfl | ho
    · exact h3
    · exact h4 o ho
theorem mem_formO {n : Nat} {p : Pt} (hp : PtOk n p) {o : List Int} : o ∈ formO p ↔ IsOrd n o ∧ ∀ i, i < n → (sortI p.labels)[pl o i]? = p.labels[i]? := by
  unfold formO
  rw [hp.len]
  exact mem_ords (by rw [sortI_len, hp.len])
theorem mem_formO2 {n : Nat} {p : Pt} (hp : PtOk n p) {o : List Int} : o ∈ formO p ↔ IsOrd n o ∧ (turnP p o).labels = sortI p.labels := by
  rw [mem_formO hp]
  refine and_congr_right fun ho => ⟨fun h => ?_, fun h i hi => ?_⟩
  · apply List.ext_getElem?
    intro k
    by_cases hk : k < n
    · obtain ⟨i, hi, rfl⟩ := pl_surj ho hk
      rw [turnP_at ho hp hi, h i hi]
    · have := hp.len
      rw [List.getElem?_eq_none (by rw [turnP_len]; omega), List.getElem?_eq_none (by rw [sortI_len]; omega)]
  · rw [← h, turnP_at ho hp hi]
theorem turnP_labels {n : Nat} {p : Pt} (hp : PtOk n p) {o : List Int} (ho : IsOrd n o) : (turnP p o).labels.Perm p.labels := by
  -- the places of one are those of the other
  have h1 : (turnP p o).labels = (List.range n).map fun k => ((turnP p o).labels[k]?).getD 0 := by
    apply List.ext_getElem?
    intro k
    by_cases hk : k < n
    · have hl : k < (turnP p o).labels.length := by rw [turnP_len, hp.len]; exact hk
      rw [List.getElem?_map, List.getElem?_range hk]; simp [hl]
    · rw [List.getElem?_eq_none (by rw [turnP_len, hp.len]; omega), List.getElem?_eq_none (by simp; omega)]
  have h2 : p.labels = (List.range n).map fun i => ((turnP p o).labels[pl o i]?).getD 0 := by
    apply List.ext_getElem?
    intro i
    by_cases hi : i < n
    · rw [List.getElem?_map, List.getElem?_range hi, Option.map_some, turnP_at ho hp hi, List.getElem?_eq_getElem (by rw [hp.len]; exact hi)]; rfl
    · rw [List.getElem?_eq_none (by rw [hp.len]; omega), List.getElem?_eq_none (by simp; omega)]
  have h3 : ((List.range n).map (pl o)).Perm (List.range n) := by
    refine perm_of_sub ?_ (fun x hx => ?_) (by simp)
    · refine List.pairwise_map.2 (List.Pairwise.imp_of_mem ?_ List.nodup_range)
      intro i j hi hj hne e
      exact hne (pl_inj ho (List.mem_range.1 hi) (List.mem_range.1 hj) e)
    · obtain ⟨i, hi, rfl⟩ := List.mem_map.1 hx
      exact List.mem_range.2 (pl_lt ho (List.mem_range.1 hi))
  have h4 := h3.map fun k => ((turnP p o).labels[k]?).getD 0
  rw [List.map_map] at h4
  rw [← h1] at h4
  refine h4.symm.trans ?_
  rw [show ((fun k => ((turnP p o).labels[k]?).getD 0) ∘ pl o) = fun i => ((turnP p o).labels[pl o i]?).getD 0 from rfl, ← h2]
/-- some order lays the labels in their order -/
theorem formO_ne {n : Nat} {p : Pt} (hp : PtOk n p) : formO p ≠ [] := by
  -- an order for every permutation of a list
  have key : ∀ {l m : List Int}, m.Perm l → ∃ f : Nat → Nat, (∀ i, i < l.length → f i < l.length) ∧ (∀ i j, i < l.length → j < l.length → f i = f j → i = j) ∧ ∀ i, i < l.length → m[f i]? = l[i]? := by
    intro l
    induction l with
    | nil => intro m h; exact ⟨id, by simp, by simp, by simp⟩
    | cons x l ih =>
      intro m h
      have hx : x ∈ m := h.mem_iff.2 (by simp)
      obtain ⟨k, hk, e⟩ := List.mem_iff_getElem.1 hx
      have hml := h.length_eq
      simp only [List.length_cons] at hml
      have hp1 : (m.eraseIdx k).Perm l := by
        have h1 : m.Perm (m[k] :: m.eraseIdx k) := by
          conv => lhs; rw [← List.take_append_drop k m, List.drop_eq_getElem_cons hk]
          rw [List.eraseIdx_eq_take_drop_succ]
          exact List.perm_middle
        rw [e] at h1
        exact (List.perm_cons x).1 (h1.symm.trans h)
      obtain ⟨f, f1, f2, f3⟩ := ih hp1
      refine ⟨fun i => match i with
        | 0 => k
        | i + 1 => if f i < k then f i else f i + 1, fun i hi => ?_, fun i j hi hj hij => ?_, fun i hi => ?_⟩
      · cases i with
        | zero => simp only [List.length_cons]; omega
        | succ i =>
          have := f1 i (by simpa using hi)
          simp only [List.length_cons]; split <;> omega
      · cases i with
        | zero =>
          cases j with
          | zero => rfl
          | succ j => simp only at hij; split at hij <;> omega
        | succ i =>
          cases j with
          | zero => simp only at hij; split at hij <;> omega
          | succ j =>
            simp only at hij
            have : f i = f j := by split at hij <;> split at hij <;> omega
            have := f2 i j (by simpa using hi) (by simpa using hj) this
            omega
      · cases i with
        | zero => simp only; rw [List.getElem?_eq_getElem hk, e]; rfl
        | succ i =>
          have := f3 i (by simpa using hi)
          rw [List.getElem?_cons_succ, ← this, List.getElem?_eraseIdx]
          simp only
          split
          · rfl
          · rfl
  obtain ⟨f, f1, f2, f3⟩ := key (sortI_perm p.labels)
  rw [hp.len] at f1 f2 f3
  have : ((List.range n).map fun i => (f i : Int)) ∈ formO p := (mem_formO hp).2 ⟨ord_of f1 f2, fun i hi => by rw [pl_of hi]; exact f3 i hi⟩
  exact List.ne_nil_of_mem this
theorem form_spec {n : Nat} {p : Pt} (hp : PtOk n p) : formB p = some (formP p, byP p) ∧ IsOrd n (byP p) ∧ formP p = turnP p (byP p) ∧ (formP p).labels = sortI p.labels ∧ ∀ o, IsOrd n o → cmpP (formP p) (turnP p o) ≤ 0 := by
  obtain ⟨b, h1, h2, h3⟩ := best_of p (formO_ne hp)
  have hb : formB p = some (turnP p b, b) := h1
  have e1 : formP p = turnP p b := by unfold formP; rw [hb]; rfl
  have e2 : byP p = b := by unfold byP; rw [hb]; rfl
  obtain ⟨g1, g2⟩ := (mem_formO2 hp).1 h2
  rw [e1, e2]
  refine ⟨hb, g1, rfl, g2, fun o ho => ?_⟩
  have hl := sorted_least (sortI_le p.labels) ((turnP_labels hp ho).trans (sortI_perm p.labels).symm)
  rcases (torF torI).le_of hl with h | h
  · exact Int.le_of_lt (cmpP_labels (by rw [turnP_len, turnP_len]) (by rw [g2]; exact h))
  · exact h3 o ((mem_formO2 hp).2 ⟨ho, h.symm⟩)
theorem form_ok {n : Nat} {p : Pt} (hp : PtOk n p) : PtOk n (formP p) := by
  obtain ⟨_, h1, h2, _⟩ := form_spec hp
  rw [h2]; exact turnP_ok h1 hp
/-- what a pattern is turned to has its form -/
theorem form_turn {n : Nat} {p : Pt} (hp : PtOk n p) {o : List Int} (ho : IsOrd n o) : formP (turnP p o) = formP p := by
  have hq := turnP_ok ho hp
  obtain ⟨_, a1, a2, _, a3⟩ := form_spec hp
  obtain ⟨_, b1, b2, _, b3⟩ := form_spec hq
  refine torP.antisymm ?_ ?_
  · have := b3 (thenL (backL o) (byP p)) (thenL_ord (back_ord ho) a1)
    rw [← turn_then (back_ord ho) a1 hq, turn_back ho hp, ← a2] at this
    exact this
  · have := a3 (thenL o (byP (turnP p o))) (thenL_ord ho b1)
    rw [← turn_then ho b1 hp, ← b2] at this
    exact this
/-! ### orders from one pattern to another one -/
def mapsP (p q : Pt) : List (List Int) := (ordL p.labels q.labels p.labels.length []).filter fun o => decide (cmpP (turnP p o) q = 0)
section
variable {n : Nat} {p q : Pt}
theorem mem_maps (hp : PtOk n p) (hq : PtOk n q) {o : List Int} : o ∈ mapsP p q ↔ IsOrd n o ∧ turnP p o = q := by
  unfold mapsP
  rw [hp.len, List.mem_filter, mem_ords hq.len, decide_eq_true_eq, torP.eq0]
  constructor
  · exact fun h => ⟨h.1.1, h.2⟩
  · rintro ⟨ho, rfl⟩
    exact ⟨⟨ho, fun i hi => turnP_at ho hp hi⟩, rfl⟩
theorem maps_nodup (p q : Pt) : (mapsP p q).Nodup := (ordL_nodup _ _ _ _).filter _
theorem id_own (hp : PtOk n p) : idL n ∈ mapsP p p := (mem_maps hp hp).2 ⟨idL_ord n, turn_id hp⟩
theorem maps_len (hp : PtOk n p) {m : List Int} (hm : IsOrd n m) : (mapsP p (turnP p m)).length = (mapsP p p).length := by
  have hq := turnP_ok hm hp
  refine len_bij (maps_nodup _ _) (maps_nodup _ _) (fun o => thenL o (backL m)) (fun o => thenL o m) (fun o ho => ?_) (fun o ho => ?_)
  · obtain ⟨h1, h2⟩ := (mem_maps hp hq).1 ho
    refine ⟨(mem_maps hp hp).2 ⟨thenL_ord h1 (back_ord hm), by rw [← turn_then h1 (back_ord hm) hp, h2, turn_back hm hp]⟩, ?_⟩
    show thenL (thenL o (backL m)) m = o
    rw [then_assoc h1 (back_ord hm) hm, back_then hm, then_id h1]
  · obtain ⟨h1, h2⟩ := (mem_maps hp hp).1 ho
    refine ⟨(mem_maps hp hq).2 ⟨thenL_ord h1 hm, by rw [← turn_then h1 hm hp, h2]⟩, ?_⟩
    show thenL (thenL o m) (backL m) = o
    rw [then_assoc h1 hm (back_ord hm), then_back hm, then_id h1]
theorem own_turn (hp : PtOk n p) {m : List Int} (hm : IsOrd n m) : (mapsP (turnP p m) (turnP p m)).length = (mapsP p p).length := by
  have hq := turnP_ok hm hp
  rw [← maps_len hp hm]
  refine len_bij (maps_nodup _ _) (maps_nodup _ _) (fun o => thenL m o) (fun o => thenL (backL m) o) (fun o ho => ?_) (fun o ho => ?_)
  · obtain ⟨h1, h2⟩ := (mem_maps hq hq).1 ho
    refine ⟨(mem_maps hp hq).2 ⟨thenL_ord hm h1, by rw [← turn_then hm h1 hp, h2]⟩, ?_⟩
    show thenL (backL m) (thenL m o) = o
    rw [← then_assoc (back_ord hm) hm h1, back_then hm, id_then h1]
  · obtain ⟨h1, h2⟩ := (mem_maps hp hq).1 ho
    refine ⟨(mem_maps hq hq).2 ⟨thenL_ord (back_ord hm) h1, by rw [← turn_then (back_ord hm) h1 hq, turn_back hm hp, h2]⟩, ?_⟩
    show thenL m (thenL (backL m) o) = o
    rw [← then_assoc hm (back_ord hm) h1, then_back hm, id_then h1]
/-- the own orders' number goes into that of all orders -/
theorem own_all (hp : PtOk n p) : ∃ c, facN n = c * (mapsP p p).length := by
  obtain ⟨c, _, _, h⟩ := classes (turnP p) (mapsP p p).length (allO n).length (allO n) (Nat.le_refl _) (fun y hy => by
    have hy := mem_allO.1 hy
    rw [← maps_len hp hy]
    have hq := turnP_ok hy hp
    exact len_bij ((allO_nodup n).filter _) (maps_nodup _ _) id id (fun o ho => by
      obtain ⟨h1, h2⟩ := List.mem_filter.1 ho
      exact ⟨(mem_maps hp hq).2 ⟨mem_allO.1 h1, by simpa using h2⟩, rfl⟩) (fun o ho => by
      obtain ⟨h1, h2⟩ := (mem_maps hp hq).1 ho
      exact ⟨List.mem_filter.2 ⟨mem_allO.2 h1, by simpa using h2⟩, rfl⟩))
  rw [allO_len] at h
  exact ⟨_, h⟩
theorem own_pos (hp : PtOk n p) : 0 < (mapsP p p).length := List.length_pos_of_mem (id_own hp)
/-- alike: the forms are the same just if an order leads from one to the other -/
theorem alike_iff (hp : PtOk n p) (hq : PtOk n q) : formP p = formP q ↔ ∃ m, m ∈ mapsP p q := by
  constructor
  · intro h
    obtain ⟨_, a1, a2, _⟩ := form_spec hp
    obtain ⟨_, b1, b2, _⟩ := form_spec hq
    refine ⟨thenL (byP p) (backL (byP q)), (mem_maps hp hq).2 ⟨thenL_ord a1 (back_ord b1), ?_⟩⟩
    rw [← turn_then a1 (back_ord b1) hp, ← a2, h, b2, turn_back b1 hq]
  · rintro ⟨m, hm⟩
    obtain ⟨h1, h2⟩ := (mem_maps hp hq).1 hm
    rw [← h2, form_turn hp h1]
end
/-! ### the orders come in their own order -/
theorem ordL_lex (fr to : List Int) : ∀ (k : Nat) (ah : List Nat), (ordL fr to k ah).Pairwise fun x y => cmpF cmpI x y < 0
  | 0, ah => by simp [ordL]
  | k + 1, ah => by
    simp only [ordL]
    refine List.pairwise_flatMap.2 ⟨fun j _ => ordL_lex fr to k _, ?_⟩
    refine List.Pairwise.imp ?_ (List.pairwise_lt_range.filter _)
    intro i j hij x hx y hy
    obtain ⟨t1, _, rfl, _⟩ := (mem_ordL fr to k _ _).1 hx
    obtain ⟨t2, _, rfl, _⟩ := (mem_ordL fr to k _ _).1 hy
    rw [List.append_assoc, List.append_assoc, List.map_append, List.map_append (l₁ := ah), cmpF_append torI _ _ rfl, if_pos (cmpF_self torI _), List.map_append, List.map_append, List.map_cons, List.map_cons, List.cons_append, List.cons_append, cmpF_cons]
    have : cmpI (i : Int) (j : Int) < 0 := (cmpI_lt _ _).2 (by omega)
    rw [if_neg (by omega)]; exact this
theorem lex_eq : ∀ {l m : List (List Int)}, (l.Pairwise fun x y => cmpF cmpI x y < 0) → (m.Pairwise fun x y => cmpF cmpI x y < 0) → (∀ x, x ∈ l ↔ x ∈ m) → l = m
  | [], [], _, _, _ => rfl
  | [], y :: m, _, _, h => absurd ((h y).2 (by simp)) (by simp)
  | x :: l, [], _, _, h => absurd ((h x).1 (by simp)) (by simp)
  | x :: l, y :: m, h1, h2, h => by
    obtain ⟨a1, a2⟩ := List.pairwise_cons.1 h1
    obtain ⟨b1, b2⟩ := List.pairwise_cons.1 h2
    have irr : ∀ z : List Int, ¬ cmpF cmpI z z < 0 := fun z => by rw [cmpF_self torI]; omega
    have e : x = y := by
      rcases List.mem_cons.1 ((h x).1 (by simp)) with e | hx
      · exact e
      · rcases List.mem_cons.1 ((h y).2 (by simp)) with e | hy
        · exact e.symm
        · exact absurd ((torF torI).trans _ _ _ (a1 y hy) (b1 x hx)) (irr x)
    subst e
    rw [lex_eq a2 b2 fun z => ?_]
    constructor
    · intro hz
      rcases List.mem_cons.1 ((h z).1 (by simp [hz])) with rfl | h3
      · exact absurd (a1 z hz) (irr z)
      · exact h3
    · intro hz
      rcases List.mem_cons.1 ((h z).2 (by simp [hz])) with rfl | h3
      · exact absurd (b1 z hz) (irr z)
      · exact h3
theorem maps_lex (p q : Pt) : (mapsP p q).Pairwise fun x y => cmpF cmpI x y < 0 := (ordL_lex _ _ _ _).filter _
theorem maps_all {n : Nat} {p q : Pt} (hp : PtOk n p) (hq : PtOk n q) : mapsP p q = (allO n).filter fun o => decide (cmpP (turnP p o) q = 0) := by
  refine lex_eq (maps_lex p q) ((ordL_lex _ _ _ _).filter _) fun o => ?_
  rw [mem_maps hp hq, List.mem_filter, mem_allO, decide_eq_true_eq, torP.eq0]
/-- of the own ones the first leaves all where it is -/
theorem own_first {n : Nat} {p : Pt} (hp : PtOk n p) : (mapsP p p)[0]? = some (idL n) := by
  have hid := id_own hp
  have hl := maps_lex p p
  have hm := fun o => (mem_maps hp hp (o := o)).1
  generalize mapsP p p = L at hid hl hm
  cases L with
  | nil => simp at hid
  | cons x L =>
    obtain ⟨h1, h2⟩ := List.pairwise_cons.1 hl
    rcases List.mem_cons.1 hid with e | h
    · rw [e]; rfl
    · have h3 := h1 _ h
      have h4 : cmpF cmpI (idL n) x ≤ 0 := by
        refine sorted_least ?_ (ord_perm (hm x (by simp)).1)
        unfold idL
        refine List.pairwise_map.2 (List.pairwise_lt_range.imp fun h => by omega)
      exact absurd h3 (by rw [(torF torI).not_lt]; exact h4)
end Go.Gr
end
