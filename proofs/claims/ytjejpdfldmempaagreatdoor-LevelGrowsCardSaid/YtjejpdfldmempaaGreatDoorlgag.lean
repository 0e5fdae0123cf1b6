/- Merged: Pin Ptu Ptv Itr Sea Cpa Cpb Cpc Cpd Atk Lso. -/
import Derived.Test.YtjejpdfldmempaaGreatDoorlgaa
import Derived.Test.YtjejpdfldmempaaGreatDoorlgaf
import Derived.Test.YtjejpdfldmempaaGreatDoorlgae
import Derived.RangeFuncNested
import Derived.Test.YtjejpdfldmempaaGreatDoorSxu
import Derived.Test.YtjejpdfldmempaaGreatDoorlgab
import Derived.Shelf.SlIterI.Sorted
import Derived.RangeFuncBox
import Derived.RangeFuncLeaves
import Derived.Shelf.Abstract
import Derived.WalkKit
import Derived.OwnWalkIn
import Derived.TacticsInMore
import Derived.LoopNIn
import Derived.LoopIn
import Derived.Shelf.SortM.Plain
import Derived.Shelf.SortM.SortNone
import Derived.Test.YtjejpdfldmempaaGreatDoorRows
section
namespace Go.Gr
def ltsB (E : List Edg) (e : Edg) : Nat := E.countP (fun x => decide (cmpE x e < 0))
def insE (E : List Edg) (x : Edg) : List Edg := E.take (ltsB E x) ++ x :: E.drop (ltsB E x)
def accE (E : List Edg) (i : Nat) : List Edg := ((E.take i).map turn).foldl insE []
theorem lts_split {E : List Edg} (h : Strict E) (x : Edg) : (∀ y ∈ E.take (ltsB E x), cmpE y x < 0) ∧ ∀ y ∈ E.drop (ltsB E x), ¬ cmpE y x < 0 := by
 induction E with
 | nil => simp
 | cons z E ih =>
   obtain ⟨h1, h2⟩ := List.pairwise_cons.1 h
   by_cases hz : cmpE z x < 0
   ·have e : ltsB (z :: E) x = ltsB E x + 1 := by unfold ltsB; rw [List.countP_cons_of_pos (by simp [hz])]
    rw [e, List.take_succ_cons, List.drop_succ_cons]
    obtain ⟨i1, i2⟩ := ih h2
    refine ⟨fun y hy => ?_, i2⟩
    rcases List.mem_cons.1 hy with rfl | hy
    ·exact hz
    ·exact i1 y hy
   ·have hall : ∀ y ∈ z :: E, ¬ cmpE y x < 0 := by
     intro y hy
     rcases List.mem_cons.1 hy with rfl | hy
     ·exact hz
     ·exact fun hc => hz (cmpE_trans (h1 y hy) hc)
    have e : ltsB (z :: E) x = 0 := by
     unfold ltsB
     exact List.countP_eq_zero.2 fun y hy => by have := hall y hy; simpa using this
    rw [e]
    exact ⟨by simp, hall⟩
theorem insE_perm (E : List Edg) (x : Edg) : (insE E x).Perm (x :: E) := by
 unfold insE
 refine List.perm_middle.trans ?_
 rw [List.take_append_drop]
theorem insE_strict {E : List Edg} (h : Strict E) {x : Edg} (hx : x ∉ E) : Strict (insE E x) := by
 obtain ⟨h1, h2⟩ := lts_split h x
 unfold insE
 have hg : ∀ y ∈ E.drop (ltsB E x), cmpE x y < 0 := fun y hy => by
  rcases cmpE_tri x y with h3 | h3 | h3
  ·exact h3
  ·subst h3; exact absurd (List.mem_of_mem_drop hy) hx
  ·exact absurd h3 (h2 y hy)
 refine List.pairwise_append.2 ⟨List.Pairwise.sublist (List.take_sublist _ _) h, List.pairwise_cons.2 ⟨hg, List.Pairwise.sublist (List.drop_sublist _ _) h⟩, fun a ha b hb => ?_⟩
 rcases List.mem_cons.1 hb with rfl | hb
 ·exact h1 a ha
 ·exact cmpE_trans (h1 a ha) (hg b hb)
theorem fold_ins (L : List Edg) (hn : L.Nodup) : ∀ E, Strict E → (∀ x ∈ L, x ∉ E) → Strict (L.foldl insE E) ∧ (L.foldl insE E).Perm (L ++ E) := by
 induction L with
 | nil => intro E h _; exact ⟨h, List.Perm.refl _⟩
 | cons x L ih =>
   intro E h hx
   obtain ⟨n1, n2⟩ := List.nodup_cons.1 hn
   have hs := insE_strict h (hx x (by simp))
   obtain ⟨i1, i2⟩ := ih n2 (insE E x) hs (fun y hy hm => by
    have := (insE_perm E x).mem_iff.1 hm
    rcases List.mem_cons.1 this with rfl | h3
    ·exact n1 hy
    ·exact hx y (by simp [hy]) h3)
   refine ⟨i1, i2.trans ?_⟩
   refine (List.Perm.append_left L (insE_perm E x)).trans ?_
   exact List.perm_middle
theorem accE_ok {E : List Edg} (hn : (E.map turn).Nodup) (i : Nat) : Strict (accE E i) ∧ (accE E i).Perm ((E.take i).map turn) := by
 have hn' : ((E.take i).map turn).Nodup := by rw [List.map_take]; exact hn.sublist (List.take_sublist _ _)
 have := fold_ins _ hn' [] List.Pairwise.nil (by simp)
 rwa [List.append_nil] at this
theorem accE_step {E : List Edg} {i : Nat} {x : Edg} (h : E[i]? = some x) : accE E (i + 1) = insE (accE E i) (turn x) := by
 unfold accE
 rw [List.take_add_one, h]
 simp
end Go.Gr
end
section
namespace Go.Gr
theorem pErr_none {p : Pt} (h : pErr p = none) : lErr p.labels = none ∧ (∀ e ∈ p.edges, 0 ≤ e.a ∧ e.a < e.b ∧ e.b < p.labels.length) ∧ Strict p.edges := by
 unfold pErr at h
 cases hl : lErr p.labels with
 | some x => rw [hl] at h; cases h
 | none =>
   rw [hl] at h
   obtain ⟨h1, h2⟩ := eErr_none h
   refine ⟨rfl, h1, ?_⟩
   unfold Strict
   rw [List.pairwise_iff_getElem]
   intro i j hi hj hij
   obtain ⟨d, rfl⟩ : ∃ d, j = i + 1 + d := ⟨j - (i + 1), by omega⟩
   induction d with
   | zero => exact h2 i _ _ (List.getElem?_eq_getElem hi) (List.getElem?_eq_getElem hj)
   | succ d ih =>
     have hj' : i + 1 + d < p.edges.length := by omega
     exact cmpE_trans (ih hj' (by omega)) (h2 (i + 1 + d) _ _ (List.getElem?_eq_getElem hj') (List.getElem?_eq_getElem hj))
end Go.Gr
namespace Go.Proofs.YtjejpdfldmempaaGreatDoor
open Go.Sx Go.RowKit Go.Reg Go.Gr
set_option maxRecDepth 100000
theorem turn_turn (e : Edg) : turn (turn e) = turn e := by unfold turn; simp only [Edg.mk.injEq]; omega
end Go.Proofs.YtjejpdfldmempaaGreatDoor
end
section
namespace Go.Gr
def cmpF {α : Type} (f : α → α → Int) : List α → List α → Int
 | [], [] => 0
 | [], _ :: _ => -1
 | _ :: _, [] => 1
 | x :: a, y :: b => if f x y = 0 then cmpF f a b else f x y
theorem cmpF_cons {α : Type} (f : α → α → Int) (x y : α) (a b : List α) : cmpF f (x :: a) (y :: b) = if f x y = 0 then cmpF f a b else f x y := rfl
def orF : List Int → Int
 | [] => 0
 | x :: l => if x = 0 then orF l else x
def cmpP (p q : Pt) : Int := orF [cmpI p.labels.length q.labels.length, cmpF cmpI p.labels q.labels, cmpI p.edges.length q.edges.length, cmpF cmpE p.edges q.edges]
end Go.Gr
end
section
namespace Go.Sx
open Go Go.RowKit Go.Reg
structure Grow (S : List Nat) (A : World) (S' : List Nat) (B : World) : Prop where
 tch : Tch S A B
 sub : ∀ b ∈ S, b ∈ S'
 new : ∀ b ∈ S', b ∈ S ∨ A.heap.size ≤ b
 lt : ∀ b ∈ S', b < B.heap.size
theorem Grow.refl {S : List Nat} {A : World} (h : ∀ b ∈ S, b < A.heap.size) : Grow S A S A := ⟨Tch.refl _ _, fun _ h => h, fun _ h => .inl h, h⟩
theorem Grow.same {S : List Nat} {A B : World} (t : Tch S A B) (h : ∀ b ∈ S, b < A.heap.size) : Grow S A S B := ⟨t, fun _ h => h, fun _ h => .inl h, fun b hb => Nat.lt_of_lt_of_le (h b hb) t.size⟩
theorem Grow.trans {S S' S2 : List Nat} {A B C : World} (h : Grow S A S' B) (k : Grow S' B S2 C) : Grow S A S2 C :=
 ⟨h.tch.trans k.tch (fun _ h => h) (fun b hb => h.new b hb), fun b hb => k.sub b (h.sub b hb), fun b hb => (k.new b hb).elim (fun hb => h.new b hb) (fun hb => .inr (Nat.le_trans h.tch.size hb)), k.lt⟩
theorem Grow.later {S S' : List Nat} {A B : World} (h : Grow S A S' B) : Later S A S' B := ⟨h.tch.size, fun b hb hn => h.tch.blk b hb hn, fun b hn hb hm => (h.new b hm).elim hn (fun h => by omega)⟩
end Go.Sx
end
section
namespace Go.Gr
open Go.Proofs.YtjejpdfldmempaaGreatDoor
theorem perm_of_sub {α : Type} [DecidableEq α] : ∀ {l m : List α}, l.Nodup → (∀ x ∈ l, x ∈ m) → m.length ≤ l.length → l.Perm m
 | [], m, _, _, h => by
   have : m = [] := List.eq_nil_of_length_eq_zero (by simpa using h)
   subst this; exact .refl _
 | x :: l, m, hn, hs, h => by
   obtain ⟨h1, h2⟩ := List.nodup_cons.1 hn
   have hx : x ∈ m := hs x (by simp)
   have hp := List.perm_cons_erase hx
   have hl : m.length = (m.erase x).length + 1 := by have := hp.length_eq; simpa using this
   refine (List.Perm.cons x (perm_of_sub h2 (fun y hy => ?_) ?_)).trans hp.symm
   ·exact (List.mem_erase_of_ne (fun e => by subst e; exact h1 hy)).2 (hs y (by simp [hy]))
   ·simp only [List.length_cons] at h; omega
theorem nodup_len {α : Type} [DecidableEq α] {l m : List α} (hn : l.Nodup) (hs : ∀ x ∈ l, x ∈ m) : l.length ≤ m.length := by
 rcases Nat.lt_or_ge m.length l.length with h | h
 ·have := (perm_of_sub hn hs (by omega)).length_eq; omega
 ·exact h
def IsOrd (n : Nat) (b : List Int) : Prop := b.length = n ∧ (∀ x ∈ b, 0 ≤ x ∧ x < (n : Int)) ∧ b.Nodup
instance (n : Nat) (b : List Int) : Decidable (IsOrd n b) := by unfold IsOrd; exact inferInstance
def pl (b : List Int) (i : Nat) : Nat := ((b[i]?).getD 0).toNat
section
variable {n : Nat} {a b : List Int}
end
structure PtOk (n : Nat) (p : Pt) : Prop where
 len : p.labels.length = n
 edge : ∀ e ∈ p.edges, 0 ≤ e.a ∧ e.a < e.b ∧ e.b < (n : Int)
 strict : Strict p.edges
end Go.Gr
end
section
namespace Go.Gr
open Go.Proofs.YtjejpdfldmempaaGreatDoor
structure TOrd {α : Type} (f : α → α → Int) : Prop where
 eq0 : ∀ x y, f x y = 0 ↔ x = y
 anti : ∀ x y, f y x < 0 ↔ 0 < f x y
 trans : ∀ x y z, f x y < 0 → f y z < 0 → f x z < 0
theorem torI : TOrd cmpI := ⟨cmpI_eq, fun x y => by rw [cmpI_anti]; omega, fun x y z => by rw [cmpI_lt, cmpI_lt, cmpI_lt]; omega⟩
theorem torF {α : Type} {f : α → α → Int} (h : TOrd f) : TOrd (cmpF f) := by
 refine ⟨fun x => ?_, fun x => ?_, fun x => ?_⟩
 ·induction x with
  | nil => intro y; cases y <;> simp [cmpF]
  | cons a x ih =>
    intro y
    cases y with
    | nil => simp [cmpF]
    | cons b y =>
      rw [cmpF_cons]
      by_cases e : f a b = 0
      ·rw [if_pos e, ih y]
       have := (h.eq0 a b).1 e
       subst this; simp
      ·rw [if_neg e]
       have : a ≠ b := fun hh => e ((h.eq0 a b).2 hh)
       simp [e, this]
 ·induction x with
  | nil => intro y; cases y <;> simp [cmpF]
  | cons a x ih =>
    intro y
    cases y with
    | nil => simp [cmpF]
    | cons b y =>
      rw [cmpF_cons, cmpF_cons]
      by_cases e : f a b = 0
      ·have := (h.eq0 a b).1 e
       subst this
       rw [if_pos e, if_pos e]; exact ih y
      ·have e2 : f b a ≠ 0 := fun hh => e ((h.eq0 a b).2 ((h.eq0 b a).1 hh).symm)
       rw [if_neg e, if_neg e2]; exact h.anti a b
 ·induction x with
  | nil => intro y z; cases y <;> cases z <;> simp [cmpF]
  | cons a x ih =>
    intro y z
    cases y with
    | nil => simp [cmpF]
    | cons b y =>
      cases z with
      | nil => simp [cmpF]
      | cons c z =>
        rw [cmpF_cons, cmpF_cons, cmpF_cons]
        by_cases e1 : f a b = 0
        ·have := (h.eq0 a b).1 e1
         subst this
         rw [if_pos e1]
         by_cases e2 : f a c = 0
         ·rw [if_pos e2, if_pos e2]; exact ih y z
         ·rw [if_neg e2, if_neg e2]; exact fun _ h => h
        ·rw [if_neg e1]
         by_cases e2 : f b c = 0
         ·have := (h.eq0 b c).1 e2
          subst this
          rw [if_pos e2, if_neg e1]; exact fun h _ => h
         ·rw [if_neg e2]
          intro h1 h2
          have h3 := h.trans _ _ _ h1 h2
          rw [if_neg (by omega)]; exact h3
theorem cmpF_append {α : Type} {f : α → α → Int} (h : TOrd f) : ∀ {a b : List α} (c d : List α), a.length = b.length → cmpF f (a ++ c) (b ++ d) = if cmpF f a b = 0 then cmpF f c d else cmpF f a b
 | [], [], c, d, _ => by simp [cmpF]
 | x :: a, y :: b, c, d, hl => by
   rw [List.cons_append, List.cons_append, cmpF_cons, cmpF_cons, cmpF_append h (a := a) (b := b) c d (by simpa using hl)]
   by_cases e : f x y = 0
   ·simp [e]
   ·simp [e]
 | [], _ :: _, _, _, hl => by simp at hl
 | _ :: _, [], _, _, hl => by simp at hl
def keyP (p : Pt) : List Int := (p.labels.length : Int) :: (p.labels ++ (p.edges.length : Int) :: p.edges.flatMap fun e => [e.a, e.b])
theorem cmpF_edges : ∀ E F : List Edg, cmpF cmpE E F = cmpF cmpI (E.flatMap fun e => [e.a, e.b]) (F.flatMap fun e => [e.a, e.b])
 | [], [] => rfl
 | [], _ :: _ => rfl
 | _ :: _, [] => rfl
 | x :: E, y :: F => by
   simp only [List.flatMap_cons, List.cons_append, List.nil_append, cmpF_cons]
   rw [cmpF_edges E F]
   unfold cmpE
   by_cases h : cmpI x.a y.a = 0
   ·simp [h]
   ·simp [h]
theorem cmpP_key (p q : Pt) : cmpP p q = cmpF cmpI (keyP p) (keyP q) := by
 unfold cmpP keyP orF
 rw [cmpF_cons]
 by_cases h1 : cmpI (p.labels.length : Int) (q.labels.length : Int) = 0
 ·rw [if_pos h1, if_pos h1, cmpF_append torI _ _ (by have := (cmpI_eq _ _).1 h1; omega)]
  unfold orF
  by_cases h2 : cmpF cmpI p.labels q.labels = 0
  ·rw [if_pos h2, if_pos h2, cmpF_cons, ← cmpF_edges]
   unfold orF
   by_cases h3 : cmpI (p.edges.length : Int) (q.edges.length : Int) = 0
   ·rw [if_pos h3, if_pos h3]; unfold orF
    by_cases h4 : cmpF cmpE p.edges q.edges = 0
    ·rw [if_pos h4, h4]; rfl
    ·rw [if_neg h4]
   ·rw [if_neg h3, if_neg h3]
  ·rw [if_neg h2, if_neg h2]
 ·rw [if_neg h1, if_neg h1]
theorem flat_inj : ∀ {E F : List Edg}, (E.flatMap fun e => [e.a, e.b]) = (F.flatMap fun e => [e.a, e.b]) → E = F
 | [], [], _ => rfl
 | [], _ :: _, h => by simp at h
 | _ :: _, [], h => by simp at h
 | x :: E, y :: F, h => by
   simp only [List.flatMap_cons, List.cons_append, List.nil_append, List.cons.injEq] at h
   rw [flat_inj h.2.2]
   cases x; cases y; simp only at h; simp [h.1, h.2.1]
theorem keyP_inj {p q : Pt} (h : keyP p = keyP q) : p = q := by
 unfold keyP at h
 rw [List.cons.injEq] at h
 obtain ⟨h1, h2⟩ := List.append_inj h.2 (by have := h.1; omega)
 rw [List.cons.injEq] at h2
 cases p; cases q
 simp only at h1 h2
 simp [h1, flat_inj h2.2]
theorem torP : TOrd cmpP := ⟨fun x y => by
  rw [cmpP_key, (torF torI).eq0]; exact ⟨keyP_inj, fun h => by rw [h]⟩, fun x y => by
  rw [cmpP_key, cmpP_key]; exact (torF torI).anti _ _, fun x y z => by
  rw [cmpP_key, cmpP_key, cmpP_key]; exact (torF torI).trans _ _ _⟩
instance : DecidableEq Pt := fun p q => decidable_of_iff (cmpP p q = 0) (torP.eq0 p q)
section
variable {α : Type} {f : α → α → Int} (h : TOrd f)
include h
theorem TOrd.le_of {x y : α} (hxy : f x y ≤ 0) : f x y < 0 ∨ x = y := by
 rcases Int.lt_or_eq_of_le hxy with h1 | h1
 ·exact .inl h1
 ·exact .inr ((h.eq0 _ _).1 h1)
theorem TOrd.le_trans {x y z : α} (h1 : f x y ≤ 0) (h2 : f y z ≤ 0) : f x z ≤ 0 := by
 rcases h.le_of h1 with h1 | rfl
 ·rcases h.le_of h2 with h2 | rfl
  ·exact Int.le_of_lt (h.trans _ _ _ h1 h2)
  ·omega
 ·exact h2
end
theorem filter_len2 {α : Type} (p : α → Bool) : ∀ l : List α, l.length = (l.filter p).length + (l.filter fun x => !p x).length
 | [] => rfl
 | x :: l => by
   have := filter_len2 p l
   cases h : p x with
   | true => rw [List.filter_cons_of_pos h, List.filter_cons_of_neg (by simp [h]), List.length_cons, List.length_cons]; omega
   | false => rw [List.filter_cons_of_neg (by simp [h]), List.filter_cons_of_pos (by simp [h]), List.length_cons, List.length_cons]; omega
theorem classes {α β : Type} [DecidableEq β] (f : α → β) (k : Nat) : ∀ (m : Nat) (l : List α), l.length ≤ m → (∀ y ∈ l, (l.filter fun x => decide (f x = f y)).length = k) → ∃ c : List β, c.Nodup ∧ (∀ b, b ∈ c ↔ ∃ x ∈ l, f x = b) ∧ l.length = c.length * k
 | _, [], _, _ => ⟨[], by simp, by simp, by simp⟩
 | 0, x :: l, h, _ => by simp at h
 | m + 1, x :: l, h, hk => by
   have h2 := filter_len2 (fun y => decide (f y = f x)) (x :: l)
   have hx := hk x (by simp)
   have hlt : ((x :: l).filter fun y => !decide (f y = f x)).length ≤ m := by
    have : 1 ≤ ((x :: l).filter fun y => decide (f y = f x)).length := by
     rw [List.filter_cons_of_pos (by simp)]; simp
    simp only [List.length_cons] at h h2
    omega
   obtain ⟨c, h3, h4, h5⟩ := classes f k m ((x :: l).filter fun y => !decide (f y = f x)) hlt (fun y hy => by
    obtain ⟨hy1, hy2⟩ := List.mem_filter.1 hy
    rw [← hk y hy1, List.filter_filter]
    congr 1
    refine List.filter_congr fun z _ => ?_
    simp only [Bool.not_eq_true', decide_eq_false_iff_not] at hy2
    by_cases e : f z = f y
    ·rw [e]; simp [hy2]
    ·simp [e])
   refine ⟨f x :: c, List.nodup_cons.2 ⟨fun hm => ?_, h3⟩, fun b => ?_, ?_⟩
   ·obtain ⟨y, hy, e⟩ := (h4 _).1 hm
    have := (List.mem_filter.1 hy).2
    simp [e] at this
   ·rw [List.mem_cons, h4]
    constructor
    ·rintro (rfl | ⟨y, hy, rfl⟩)
     ·exact ⟨x, by simp, rfl⟩
     ·exact ⟨y, (List.mem_filter.1 hy).1, rfl⟩
    ·rintro ⟨y, hy, rfl⟩
     by_cases e : f y = f x
     ·exact .inl e
     ·exact .inr ⟨y, List.mem_filter.2 ⟨hy, by simpa using e⟩, rfl⟩
   ·rw [h2, hx, h5, List.length_cons, Nat.add_mul]; omega
end Go.Gr
end
section
namespace Go.Gr
open Go.Proofs.YtjejpdfldmempaaGreatDoor
def sortI (l : List Int) : List Int := l.mergeSort fun x y => decide (x ≤ y)
end Go.Gr
end
section
namespace Go.Gr
open Go.Proofs.YtjejpdfldmempaaGreatDoor
def degE (E : List Edg) (v : Int) : Nat := E.countP fun e => decide (e.a = v ∨ e.b = v)
section
variable {n : Nat} {p q : Pt} {b : List Int}
end
end Go.Gr
end
section
namespace Go.Proofs.YtjejpdfldmempaaGreatDoor
open Go.RowKit Go.Maps Go.Sort Go.Shelf
variable {P : Program} {ρ : Ren}
def SeqK (F : Fence) (n : Nat) (P : Program) (g : Nat) (lb : Array Value) (S : List Int → Prop) (N : Nat) (w : World) : Prop :=
 ∀ (l : Nat) (J : List Int → World → Prop) (W : World), Below w.heap.size w W → AbidesFrom W.heap.size J → (∀ pre W1, J pre W1 → Below w.heap.size w W1) →
  (∀ pre x W1, J pre W1 → pre.length < N → YieldAt F (n - 1) P l #[encZ x] W1 fun e W' => e = .returned (.bool true) ∧ J (pre ++ [x]) W' ∧ KeepsWalks W1 W') →
  J [] W →
  CallsIn F n P g (#[.func (.yield l) #[] #[]] ++ lb) W fun e W' => (∃ v, e = .returned v) ∧ ∃ xs, S xs ∧ J xs W'
set_option maxRecDepth 100000 in
set_option maxHeartbeats 2000000 in
theorem appendSeqK_in (L : SlLaysZI.n11 P ρ) (F : Fence) (n : Nat) (h11 : F.fn (ρ.f 11)) (hro : F.round = none) (hn : 2 ≤ n) (g : Nat) (lb : Array Value) (hFg : F.fn g) (eg : ∀ args w, (callFunc g args).run P w = .ok (.enter g args) w)
  (S : List Int → Prop) (N : Nat) (hN : N ≤ maxLen) (hNb : N * 8 ≤ 140737488355328) (w : World) (hseq : SeqK F (n - 1) P g lb S N w) :
  CallsIn F n P (ρ.f 11) #[.slice none 0 0, .func (.func g) #[] lb] w fun e w' => ∃ (v : Value) (ss : List Int), e = .returned v ∧ S ss ∧ w'.ownsRow w.heap.size (ρ.t 26) 1 v ss.length (ss.map encZ) ∧ (v = .slice none 0 0 ↔ ss = []) ∧ Below w.heap.size w w' := by
 have h1 : 1 ≤ n := by omega
 have mixed := L.mixed; have t0 := L.t0; have a0 := L.a0; have z0 := L.z0; have v0 := L.v0; have t24 := L.t24; have a24 := L.a24; have z24 := L.z24; have v24 := L.v24; have t26 := L.t26; have a26 := L.a26; have z26 := L.z26; have v26 := L.v26; have t28 := L.t28; have a28 := L.a28; have z28 := L.z28; have v28 := L.v28
 have hne : ρ.t 24 ≠ ρ.t 26 := fun e => by have h := L.t24; rw [e, L.t26] at h; cases h
 have u0 := run_underlying L.t0; have u24 := run_underlying L.t24; have u26 := run_underlying L.t26; have u28 := run_underlying L.t28
 obtain ⟨_, _, FG⟩ := L.f11
 refine callsIn_of_wp_marks FG rfl h11 ?_ hro
 simp only [SlBodyZ.n11_ntmps ρ, List.size_toArray, List.length_cons, List.length_nil, Nat.reduceAdd, Nat.reduceSub, Array.replicate_succ, Array.replicate_zero, List.push_toArray, List.append_toArray, List.nil_append, List.cons_append]
 gi_wp2
 refine wpIn_rangeFunc ?_
 intro fn hfn
 rw [hro]
 obtain ⟨W0, hW0⟩ : ∃ W0, w.alloc (.cells #[.slice none 0 0] (ρ.t 24)) = W0 := ⟨_, rfl⟩
 have hs0 : W0.heap.size = w.heap.size + 1 := by rw [← hW0]; simp
 have hv0 : W0.heap[w.heap.size]? = some (.cells #[.slice none 0 0] (ρ.t 24) (0, 0)) := by rw [← hW0]; exact World.alloc_heap_new w _
 have hb0 : Below w.heap.size w W0 := by rw [← hW0]; exact (Below.refl _ w).alloc (Nat.le_refl _) _
 rw [hW0]
 obtain ⟨W1, hW1⟩ : ∃ W1, (W0.alloc (.deferred (some []))).alloc (.loop (AnyZI.apRec ρ fn (.func (.func g) #[] lb) w.heap.size W0.heap.size .ready none)) = W1 := ⟨_, rfl⟩
 have hold : ∀ k, k < W0.heap.size → W1.heap[k]? = W0.heap[k]? := fun k hk => by
  rw [← hW1]; exact (Below.heap_alloc _ _ k (by simp; omega)).trans (Below.heap_alloc _ _ k hk)
 have hb1 : Below w.heap.size w W1 := by rw [← hW1]; exact (hb0.alloc hb0.size _).alloc (by have := hb0.size; simp; omega) _
 have hs1 : W1.heap.size = W0.heap.size + 2 := by rw [← hW1]; simp
 have hM : AnyZI.ApAt ρ w fn (.func (.func g) #[] lb) w.heap.size (W0.heap.size + 1) W0.heap.size [] W1 :=
  ⟨⟨_, (hold w.heap.size (by omega)).trans hv0, ⟨rfl, .inl ⟨rfl, rfl⟩⟩, by simp⟩,
   by rw [← hW1]; have := World.alloc_heap_new (W0.alloc (.deferred (some []))) (.loop (AnyZI.apRec ρ fn (.func (.func g) #[] lb) w.heap.size W0.heap.size .ready none)); rwa [World.size_alloc] at this,
   by rw [← hW1]; exact (Below.heap_alloc _ _ _ (by simp)).trans (World.alloc_heap_new W0 _), hb1⟩
 refine ⟨W0.heap.size + 1, [{ target := .collected W0.heap.size, args := #[] }], W1, { target := .fn (.func g) lb, args := #[.func (.yield (W0.heap.size + 1)) #[] #[]] }, W1, g,
  #[.func (.yield (W0.heap.size + 1)) #[] #[]] ++ lb, W1, ?_, ?_, ?_, ?_, fun _ => h1, ?_⟩
 ·rw [← hW1]; exact run_enterLoop_outer _ _ _ _ _
 ·simp [resolve, go_sem]
 ·intro f' hf'; simp [Target.leads] at hf'; subst hf'; exact hFg
 ·simp [invoke, go_sem, eg]
 ·refine (hseq (W0.heap.size + 1) (AnyZI.ApAt ρ w fn (.func (.func g) #[] lb) w.heap.size (W0.heap.size + 1) W0.heap.size) W1 hb1 (AnyZI.ap_abides ρ _ _ _ _ _ _ _ hb1.size) (fun pre W h => h.below)
   (fun pre x W hJ hl => AnyZI.apYield { L with } F (n - 1 - 1) w fn hfn _ w.heap.size (W0.heap.size + 1) W0.heap.size (by omega) (by omega) (by omega) (Nat.le_refl _) (by omega) N hN hNb pre x W hJ hl) hM).mono ?_
  rintro e W2 ⟨⟨v0, rfl⟩, ss, hS, h2⟩
  obtain ⟨v, hv, hrow, hnil⟩ := h2.box
  have hend := run_endLoop (P := P) h2.L (by simp [AnyZI.apRec])
  obtain ⟨W3, hW3⟩ : ∃ W3, W2.putObj (W0.heap.size + 1) (.loop { AnyZI.apRec ρ fn (.func (.func g) #[] lb) w.heap.size W0.heap.size .ready none with state := .exhausted }) = W3 := ⟨_, rfl⟩
  rw [hW3] at hend
  have hg3 : W2.grownBy W3 (some (W0.heap.size + 1)) := by rw [← hW3]; exact grownBy_putObj_a _ _ _
  have hv3 : W3.heap[w.heap.size]? = some (.cells #[v] (ρ.t 24) (0, 0)) := by rw [← hW3]; exact (World.putObj_heap_other (by omega)).trans hv
  have hK3 : W3.heap[W0.heap.size]? = some (.deferred (some [])) := by rw [← hW3]; exact (World.putObj_heap_other (by omega)).trans h2.K
  have hrow3 := hrow.kept hg3 (ownsRow_ne_a hrow h2.L (fun cur e => by first | cases e | exact hne (Obj.cells.inj e).2.1))
  have hb3 : Below w.heap.size w W3 := h2.below.grown hg3 h2.below.size (fun k e => by cases e; omega)
  obtain ⟨hc3, hf3⟩ := cell_of_box_a hv3
  clear hW3
  refine ⟨none, W3, hend, ?_⟩
  gi_wp2
  rw [← hs0]
  refine ⟨by simp, .inl ⟨_, _, rfl, run_takeDeferred hK3, ?_⟩⟩
  exact ⟨_, results_tmp rfl _ _ _, v, ss, rfl, hS, hrow3.kept (grownBy_putObj_a _ _ _) (ownsRow_ne_a hrow3 hK3 (fun cur e => by first | cases e | exact hne (Obj.cells.inj e).2.1)), hnil, hb3.grown (grownBy_putObj_a _ _ _) hb3.size (fun k e => by cases e; omega)⟩
set_option maxHeartbeats 1000000 in
theorem collectK_in (L : SlLaysZI.n8 P ρ) (F : Fence) (n : Nat) (h8 : F.fn (ρ.f 8)) (h11 : F.fn (ρ.f 11)) (hro : F.round = none) (hn : 3 ≤ n) (g : Nat) (lb : Array Value) (hFg : F.fn g) (eg : ∀ args w, (callFunc g args).run P w = .ok (.enter g args) w)
  (S : List Int → Prop) (N : Nat) (hN : N ≤ maxLen) (hNb : N * 8 ≤ 140737488355328) (w : World) (hseq : SeqK F (n - 1 - 1) P g lb S N w) :
  CallsIn F n P (ρ.f 8) #[.func (.func g) #[] lb] w fun e w' => ∃ (v : Value) (ss : List Int), e = .returned v ∧ S ss ∧ w'.ownsRow w.heap.size (ρ.t 26) 1 v ss.length (ss.map encZ) ∧ (v = .slice none 0 0 ↔ ss = []) ∧ Below w.heap.size w w' := by
 have h1 : 1 ≤ n := by omega
 have e11 : ∀ args w, (callFunc (ρ.f 11) args).run P w = .ok (.enter (ρ.f 11) args) w := L.f11.enters rfl
 have mixed := L.mixed; have t0 := L.t0; have a0 := L.a0; have z0 := L.z0; have v0 := L.v0; have t24 := L.t24; have a24 := L.a24; have z24 := L.z24; have v24 := L.v24; have t26 := L.t26; have a26 := L.a26; have z26 := L.z26; have v26 := L.v26; have t28 := L.t28; have a28 := L.a28; have z28 := L.z28; have v28 := L.v28
 have u0 := run_underlying L.t0; have u24 := run_underlying L.t24; have u26 := run_underlying L.t26; have u28 := run_underlying L.t28
 obtain ⟨_, _, FG⟩ := L.f8
 refine callsIn_of_wp FG rfl h8 ?_ hro
 simp only [SlBodyZ.n8_ntmps ρ, List.size_toArray, List.length_cons, List.length_nil, Nat.reduceAdd, Nat.reduceSub, Array.replicate_succ, Array.replicate_zero, List.push_toArray, List.append_toArray, List.nil_append, List.cons_append]
 gi_wp2_with (gi_at_fn (ρ.f 11); refine (appendSeqK_in { L with } F (n - 1) h11 hro (by omega) g lb hFg eg S N hN hNb _ hseq).mono ?_; rintro e w' ⟨v, ss, rfl, hS, hrow, hnil, hb⟩)
 go_ret
 exact ⟨v, ss, rfl, hS, hrow, hnil, hb⟩
set_option maxRecDepth 100000 in
set_option maxHeartbeats 2000000 in
theorem sortedK_in (L : SlLaysZI.n6 P ρ) (F : Fence) (n : Nat) (h6 : F.fn (ρ.f 6)) (h8 : F.fn (ρ.f 8)) (h9 : F.fn (ρ.f 9)) (h11 : F.fn (ρ.f 11)) (hro : F.round = none) (hn : 4 ≤ n) (hsort : AnyZI.SortsIn P ρ F (n - 1)) (e9 : ∀ args w, (callFunc (ρ.f 9) args).run P w = .ok (.enter (ρ.f 9) args) w) (g : Nat) (lb : Array Value) (hFg : F.fn g) (eg : ∀ args w, (callFunc g args).run P w = .ok (.enter g args) w)
  (S : List Int → Prop) (N : Nat) (hN : N ≤ maxLen) (hNb : N * 8 ≤ 140737488355328) (w : World) (hSN : ∀ ss, S ss → ss.length ≤ N) (hseq : SeqK F (n - 1 - 1 - 1) P g lb S N w) :
  CallsIn F n P (ρ.f 6) #[.func (.func g) #[] lb] w fun e w' => ∃ (v : Value) (ss : List Int), e = .returned v ∧ S ss ∧
   w'.ownsRow w.heap.size (ρ.t 26) 1 v ss.length ((ss.mergeSort (fun x y => decide (x ≤ y))).map encZ) ∧ (v = .slice none 0 0 ↔ ss = []) ∧ Below w.heap.size w w' := by
 have h1 : 1 ≤ n := by omega
 have e8 : ∀ args w, (callFunc (ρ.f 8) args).run P w = .ok (.enter (ρ.f 8) args) w := L.f8.enters rfl
 have mixed := L.mixed; have t0 := L.t0; have a0 := L.a0; have z0 := L.z0; have v0 := L.v0; have t24 := L.t24; have a24 := L.a24; have z24 := L.z24; have v24 := L.v24; have t26 := L.t26; have a26 := L.a26; have z26 := L.z26; have v26 := L.v26; have t28 := L.t28; have a28 := L.a28; have z28 := L.z28; have v28 := L.v28
 have u0 := run_underlying L.t0; have u24 := run_underlying L.t24; have u26 := run_underlying L.t26; have u28 := run_underlying L.t28
 obtain ⟨_, _, FG⟩ := L.f6
 refine callsIn_of_wp FG rfl h6 ?_ hro
 simp only [SlBodyZ.n6_ntmps ρ, List.size_toArray, List.length_cons, List.length_nil, Nat.reduceAdd, Nat.reduceSub, Array.replicate_succ, Array.replicate_zero, List.push_toArray, List.append_toArray, List.nil_append, List.cons_append]
 gi_wp2_with (gi_at_fn (ρ.f 8); refine (collectK_in { L with } F (n - 1) h8 h11 hro (by omega) g lb hFg eg _ N hN hNb _ hseq).mono ?_; rintro e W ⟨v, ss, rfl, hS, hrow, hnil, hb⟩; have hlen := hSN ss hS)
 rcases hrow.2 with ⟨rfl, hz⟩ | ⟨gb, cap, cur, rfl, hbase, hgb, r1, r2, r3, r4⟩
 ·
  have hss : ss = [] := List.eq_nil_of_length_eq_zero hz
  subst hss
  gi_wp2_with (gi_at_fn (ρ.f 9); refine (hsort.2 none 0 W).mono ?_; rintro e w' ⟨rfl, rfl⟩)
  go_ret
  exact ⟨.slice none 0 0, [], rfl, hS, by simpa using hrow, by simp, hb⟩
 ·have hH : Holds encZ W gb 0 ss.toArray := holds_of_block_i hgb (by simpa using r4)
  have hgl : gb < W.heap.size := (Array.getElem?_eq_some_iff.1 hgb).1
  have hsz : ss.length < 4611686018427387904 := by omega
  have cS := hsort.1 gb 0 cap ss W hH hgl hsz
  gi_wp2_with (gi_at_fn (ρ.f 9); refine cS.mono ?_; rintro e w' ⟨rfl, nn, os, rfl⟩)
  go_ret
  exact ⟨_, ss, rfl, hS, ownsRow_sorted_i (by simp) hbase hgb r1 r2 r3, hnil, hb.grown (grownBy_sorted_i _) hb.size (fun j hj => by cases hj; exact hbase)⟩
end Go.Proofs.YtjejpdfldmempaaGreatDoor
end
section
namespace Go.Proofs
open Go.Shelf
def Tryz.sortedI_ren : Go.Shelf.Ren := ⟨fun | 6 => 160 | 8 => 220 | 9 => 221 | 11 => 252 | 13 => 104 | 12 => 253 | 23 => 153 | 24 => 154 | 14 => 263 | 15 => 264 | 16 => 265 | 17 => 266 | 18 => 267 | 19 => 268 | 20 => 269 | 21 => 270 | 22 => 271 | 25 => 280 | 26 => 211 | 27 => 212 | 28 => 281 | 29 => 282 | 30 => 143 | 31 => 287 | n => n, fun | 26 => 3 | 28 => 237 | 24 => 28 | 0 => 0 | 3 => 3 | 37 => 177 | 48 => 184 | 50 => 186 | 4 => 4 | 40 => 218 | 39 => 217 | 45 => 222 | 5 => 5 | 9 => 9 | 51 => 281 | 55 => 285 | 57 => 313 | 58 => 138 | 33 => 215 | n => n, fun | n => n⟩
theorem Tryz.sortedI : Go.Proofs.SlLaysZI.n6 Tryz.prog Tryz.sortedI_ren := {
 mixed := by kernel_rfl
 f6 := ⟨Tryz.f160.name, by decide, Tryz.func160.trans (congrArg some (by kernel_rfl))⟩
 f8 := ⟨Tryz.f220.name, by decide, Tryz.func220.trans (congrArg some (by kernel_rfl))⟩
 f11 := ⟨Tryz.f252.name, by decide, Tryz.func252.trans (congrArg some (by kernel_rfl))⟩
 t0 := Tryz.underlying0
 a0 := Tryz.isAgg0
 z0 := Tryz.sizeOf0
 v0 := Tryz.zeroValue0
 t24 := Tryz.underlying28
 a24 := Tryz.isAgg28
 z24 := Tryz.sizeOf28
 v24 := Tryz.zeroValue28
 t26 := Tryz.underlying3
 a26 := Tryz.isAgg3
 z26 := Tryz.sizeOf3
 v26 := Tryz.zeroValue3
 t28 := Tryz.underlying237
 a28 := Tryz.isAgg237
 z28 := Tryz.sizeOf237
 v28 := Tryz.zeroValue237
 i26 := by kernel_rfl }
def Tryz.sortI_ren : Go.Shelf.Ren := ⟨fun | 5 => 221 | 8 => 104 | 7 => 253 | 19 => 153 | 20 => 154 | 10 => 263 | 11 => 264 | 12 => 265 | 13 => 266 | 14 => 267 | 15 => 268 | 16 => 269 | 17 => 270 | 18 => 271 | 30 => 280 | 31 => 211 | 32 => 212 | 33 => 281 | 34 => 282 | 35 => 143 | 40 => 287 | n => n, fun | 23 => 28 | 25 => 3 | 3 => 3 | 32 => 177 | 22 => 28 | 0 => 0 | 44 => 184 | 46 => 186 | 4 => 4 | 36 => 218 | 35 => 217 | 41 => 222 | 5 => 5 | 9 => 9 | 53 => 281 | 57 => 285 | 63 => 313 | 64 => 138 | n => n, fun | n => n⟩
theorem Tryz.sortI : Go.Proofs.SlLaysM.n5 Tryz.prog Tryz.sortI_ren := {
 mixed := by kernel_rfl
 f5 := ⟨Tryz.f221.name, by decide, Tryz.func221.trans (congrArg some (by kernel_rfl))⟩
 f7 := ⟨Tryz.f253.name, by decide, Tryz.func253.trans (congrArg some (by kernel_rfl))⟩
 f8 := Tryz.func104.trans (congrArg some (by kernel_rfl))
 f10 := ⟨Tryz.f263.name, by decide, Tryz.func263.trans (congrArg some (by kernel_rfl))⟩
 f11 := ⟨Tryz.f264.name, by decide, Tryz.func264.trans (congrArg some (by kernel_rfl))⟩
 f12 := ⟨Tryz.f265.name, by decide, Tryz.func265.trans (congrArg some (by kernel_rfl))⟩
 f13 := ⟨Tryz.f266.name, by decide, Tryz.func266.trans (congrArg some (by kernel_rfl))⟩
 f14 := ⟨Tryz.f267.name, by decide, Tryz.func267.trans (congrArg some (by kernel_rfl))⟩
 f15 := ⟨Tryz.f268.name, by decide, Tryz.func268.trans (congrArg some (by kernel_rfl))⟩
 f16 := ⟨Tryz.f269.name, by decide, Tryz.func269.trans (congrArg some (by kernel_rfl))⟩
 f17 := ⟨Tryz.f270.name, by decide, Tryz.func270.trans (congrArg some (by kernel_rfl))⟩
 f18 := ⟨Tryz.f271.name, by decide, Tryz.func271.trans (congrArg some (by kernel_rfl))⟩
 f19 := Tryz.func153.trans (congrArg some (by kernel_rfl))
 f20 := Tryz.func154.trans (congrArg some (by kernel_rfl))
 f30 := ⟨Tryz.f280.name, by decide, Tryz.func280.trans (congrArg some (by kernel_rfl))⟩
 f31 := Tryz.func211.trans (congrArg some (by kernel_rfl))
 f32 := Tryz.func212.trans (congrArg some (by kernel_rfl))
 f33 := ⟨Tryz.f281.name, by decide, Tryz.func281.trans (congrArg some (by kernel_rfl))⟩
 f34 := ⟨Tryz.f282.name, by decide, Tryz.func282.trans (congrArg some (by kernel_rfl))⟩
 f35 := ⟨Tryz.f143.name, by decide, Tryz.func143.trans (congrArg some (by kernel_rfl))⟩
 f40 := ⟨Tryz.f287.name, by decide, Tryz.func287.trans (congrArg some (by kernel_rfl))⟩
 t0 := Tryz.underlying0
 a0 := Tryz.isAgg0
 z0 := Tryz.sizeOf0
 v0 := Tryz.zeroValue0
 t3 := Tryz.underlying3
 a3 := Tryz.isAgg3
 z3 := Tryz.sizeOf3
 v3 := Tryz.zeroValue3
 t4 := Tryz.underlying4
 a4 := Tryz.isAgg4
 z4 := Tryz.sizeOf4
 v4 := Tryz.zeroValue4
 t5 := Tryz.underlying5
 a5 := Tryz.isAgg5
 z5 := Tryz.sizeOf5
 v5 := Tryz.zeroValue5
 t9 := Tryz.underlying9
 a9 := Tryz.isAgg9
 z9 := Tryz.sizeOf9
 v9 := Tryz.zeroValue9
 t22 := Tryz.underlying28
 a22 := Tryz.isAgg28
 z22 := Tryz.sizeOf28
 v22 := Tryz.zeroValue28
 t23 := Tryz.underlying28
 a23 := Tryz.isAgg28
 z23 := Tryz.sizeOf28
 v23 := Tryz.zeroValue28
 t25 := Tryz.underlying3
 a25 := Tryz.isAgg3
 z25 := Tryz.sizeOf3
 v25 := Tryz.zeroValue3
 t32 := Tryz.underlying177
 a32 := Tryz.isAgg177
 z32 := Tryz.sizeOf177
 v32 := Tryz.zeroValue177
 t35 := Tryz.underlying217
 a35 := Tryz.isAgg217
 z35 := Tryz.sizeOf217
 v35 := Tryz.zeroValue217
 t36 := Tryz.underlying218
 a36 := Tryz.isAgg218
 z36 := Tryz.sizeOf218
 v36 := Tryz.zeroValue218
 t41 := Tryz.underlying222
 a41 := Tryz.isAgg222
 z41 := Tryz.sizeOf222
 v41 := Tryz.zeroValue222
 t44 := Tryz.underlying184
 a44 := Tryz.isAgg184
 z44 := Tryz.sizeOf184
 v44 := Tryz.zeroValue184
 t46 := Tryz.underlying186
 a46 := Tryz.isAgg186
 z46 := Tryz.sizeOf186
 v46 := Tryz.zeroValue186
 t53 := Tryz.underlying281
 a53 := Tryz.isAgg281
 z53 := Tryz.sizeOf281
 v53 := Tryz.zeroValue281
 t57 := Tryz.underlying285
 a57 := Tryz.isAgg285
 z57 := Tryz.sizeOf285
 v57 := Tryz.zeroValue285
 t63 := Tryz.underlying313
 a63 := Tryz.isAgg313
 z63 := Tryz.sizeOf313
 v63 := Tryz.zeroValue313
 t64 := Tryz.underlying138
 a64 := Tryz.isAgg138
 z64 := Tryz.sizeOf138
 v64 := Tryz.zeroValue138 }
end Go.Proofs
end
