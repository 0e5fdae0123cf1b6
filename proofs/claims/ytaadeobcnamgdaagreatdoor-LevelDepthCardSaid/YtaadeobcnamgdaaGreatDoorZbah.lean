/- Merged: Cpb Cpc Cpd Atk Lso. -/
import Derived.Test.YtaadeobcnamgdaaGreatDoorZbag
import Derived.Shelf.SlIterI.Sorted
import Derived.RangeFuncBox
import Derived.RangeFuncLeaves
import Derived.Shelf.Abstract
import Derived.WalkKit
import Derived.OwnWalkIn
import Derived.TacticsInMore
import Derived.LoopNIn
import Derived.LoopIn
import Derived.Shelf.SortM.Plain
import Derived.Shelf.SortM.SortNone
import Derived.Test.YtaadeobcnamgdaaGreatDoorRows
section
/- Patterns' own order, search's orders, classes. -/
namespace Go.Gr
open Go.Proofs.YtaadeobcnamgdaaGreatDoor
/-! ### which pattern comes ahead -/
/-- a whole order, told by a number -/
structure TOrd {α : Type} (f : α → α → Int) : Prop where
  eq0 : ∀ x y, f x y = 0 ↔ x = y
  anti : ∀ x y, f y x < 0 ↔ 0 < f x y
  trans : ∀ x y z, f x y < 0 → f y z < 0 → f x z < 0
theorem torI : TOrd cmpI := ⟨cmpI_eq, fun x y => by rw [cmpI_anti]; omega, fun x y z => by rw [cmpI_lt, cmpI_lt, cmpI_lt]; omega⟩
theorem torF {α : Type} {f : α → α → Int} (h : TOrd f) : TOrd (cmpF f) := by
  refine ⟨fun x => ?_, fun x => ?_, fun x => ?_⟩
  · induction x with
    | nil => intro y; cases y <;> simp [cmpF]
    | cons a x ih =>
      intro y
      cases y with
      | nil => simp [cmpF]
      | cons b y =>
        rw [cmpF_cons]
        by_cases e : f a b = 0
        · rw [if_pos e, ih y]
          have := (h.eq0 a b).1 e
          subst this; simp
        · rw [if_neg e]
          have : a ≠ b := fun hh => e ((h.eq0 a b).2 hh)
          simp [e, this]
  · induction x with
    | nil => intro y; cases y <;> simp [cmpF]
    | cons a x ih =>
      intro y
      cases y with
      | nil => simp [cmpF]
      | cons b y =>
        rw [cmpF_cons, cmpF_cons]
        by_cases e : f a b = 0
        · have := (h.eq0 a b).1 e
          subst this
          rw [if_pos e, if_pos e]; exact ih y
        · have e2 : f b a ≠ 0 := fun hh => e ((h.eq0 a b).2 ((h.eq0 b a).1 hh).symm)
          rw [if_neg e, if_neg e2]; exact h.anti a b
  · induction x with
    | nil => intro y z; cases y <;> cases z <;> simp [cmpF]
    | cons a x ih =>
      intro y z
      cases y with
      | nil => simp [cmpF]
      | cons b y =>
        cases z with
        | nil => simp [cmpF]
        | cons c z =>
          rw [cmpF_cons, cmpF_cons, cmpF_cons]
          by_cases e1 : f a b = 0
          · have := (h.eq0 a b).1 e1
            subst this
            rw [if_pos e1]
            by_cases e2 : f a c = 0
            · rw [if_pos e2, if_pos e2]; exact ih y z
            · rw [if_neg e2, if_neg e2]; exact fun _ h => h
          · rw [if_neg e1]
            by_cases e2 : f b c = 0
            · have := (h.eq0 b c).1 e2
              subst this
              rw [if_pos e2, if_neg e1]; exact fun h _ => h
            · rw [if_neg e2]
              intro h1 h2
              have h3 := h.trans _ _ _ h1 h2
              rw [if_neg (by omega)]; exact h3
theorem cmpF_append {α : Type} {f : α → α → Int} (h : TOrd f) : ∀ {a b : List α} (c d : List α), a.length = b.length → cmpF f (a ++ c) (b ++ d) = if cmpF f a b = 0 then cmpF f c d else cmpF f a b
  | [], [], c, d, _ => by simp [cmpF]
  | x :: a, y :: b, c, d, hl => by
    rw [List.cons_append, List.cons_append, cmpF_cons, cmpF_cons, cmpF_append h (a := a) (b := b) c d (by simpa using hl)]
    by_cases e : f x y = 0
    · simp [e]
    · simp [e]
  | [], _ :: _, _, _, hl => by simp at hl
  | _ :: _, [], _, _, hl => by simp at hl
/-- a pattern's words -/
def keyP (p : Pt) : List Int := (p.labels.length : Int) :: (p.labels ++ (p.edges.length : Int) :: p.edges.flatMap fun e => [e.a, e.b])
theorem cmpF_edges : ∀ E F : List Edg, cmpF cmpE E F = cmpF cmpI (E.flatMap fun e => [e.a, e.b]) (F.flatMap fun e => [e.a, e.b])
  | [], [] => rfl
  | [], _ :: _ => rfl
  | _ :: _, [] => rfl
  | x :: E, y :: F => by
    simp only [List.flatMap_cons, List.cons_append, List.nil_append, cmpF_cons]
    rw [cmpF_edges E F]
    unfold cmpE
    by_cases h : cmpI x.a y.a = 0
    · simp [h]
    · simp [h]
theorem cmpP_key (p q : Pt) : cmpP p q = cmpF cmpI (keyP p) (keyP q) := by
  unfold cmpP keyP orF
  rw [cmpF_cons]
  by_cases h1 : cmpI (p.labels.length : Int) (q.labels.length : Int) = 0
  · rw [if_pos h1, if_pos h1, cmpF_append torI _ _ (by have := (cmpI_eq _ _).1 h1; omega)]
    unfold orF
    by_cases h2 : cmpF cmpI p.labels q.labels = 0
    · rw [if_pos h2, if_pos h2, cmpF_cons, ← cmpF_edges]
      unfold orF
      by_cases h3 : cmpI (p.edges.length : Int) (q.edges.length : Int) = 0
      · rw [if_pos h3, if_pos h3]; unfold orF
        by_cases h4 : cmpF cmpE p.edges q.edges = 0
        · rw [if_pos h4, h4]; rfl
        · rw [if_neg h4]
      · rw [if_neg h3, if_neg h3]
    · rw [if_neg h2, if_neg h2]
  · rw [if_neg h1, if_neg h1]
theorem flat_inj : ∀ {E F : List Edg}, (E.flatMap fun e => [e.a, e.b]) = (F.flatMap fun e => [e.a, e.b]) → E = F
  | [], [], _ => rfl
  | [], _ :: _, h => by simp at h
  | _ :: _, [], h => by simp at h
  | x :: E, y :: F, h => by
    simp only [List.flatMap_cons, List.cons_append, List.nil_append, List.cons.injEq] at h
    rw [flat_inj h.2.2]
    cases x; cases y; simp only at h; simp [h.1, h.2.1]
theorem keyP_inj {p q : Pt} (h : keyP p = keyP q) : p = q := by
  unfold keyP at h
  rw [List.cons.injEq] at h
  obtain ⟨h1, h2⟩ := List.append_inj h.2 (by have := h.1; omega)
  rw [List.cons.injEq] at h2
  cases p; cases q
  simp only at h1 h2
  simp [h1, flat_inj h2.2]
theorem torP : TOrd cmpP := ⟨fun x y => by
    rw [cmpP_key, (torF torI).eq0]; exact ⟨keyP_inj, fun h => by rw [h]⟩, fun x y => by
    rw [cmpP_key, cmpP_key]; exact (torF torI).anti _ _, fun x y z => by
    rw [cmpP_key, cmpP_key, cmpP_key]; exact (torF torI).trans _ _ _⟩
instance : DecidableEq Pt := fun p q => decidable_of_iff (cmpP p q = 0) (torP.eq0 p q)
section
variable {α : Type} {f : α → α → Int} (h : TOrd f)
include h
theorem TOrd.le_of {x y : α} (hxy : f x y ≤ 0) : f x y < 0 ∨ x = y := by
  rcases Int.lt_or_eq_of_le hxy with h1 | h1
  · exact .inl h1
  · exact .inr ((h.eq0 _ _).1 h1)
theorem TOrd.le_trans {x y z : α} (h1 : f x y ≤ 0) (h2 : f y z ≤ 0) : f x z ≤ 0 := by
  rcases h.le_of h1 with h1 | rfl
  · rcases h.le_of h2 with h2 | rfl
    · exact Int.le_of_lt (h.trans _ _ _ h1 h2)
    · omega
  · exact h2
end
/-! ### the orders that search goes through -/
theorem filter_len2 {α : Type} (p : α → Bool) : ∀ l : List α, l.length = (l.filter p).length + (l.filter fun x => !p x).length
  | [] => rfl
  | x :: l => by
    have := filter_len2 p l
    cases h : p x with
    | true => rw [List.filter_cons_of_pos h, List.filter_cons_of_neg (by simp [h]), List.length_cons, List.length_cons]; omega
    | false => rw [List.filter_cons_of_neg (by simp [h]), List.filter_cons_of_pos (by simp [h]), List.length_cons, List.length_cons]; omega
/-! ### things in classes of as many each -/
theorem classes {α β : Type} [DecidableEq β] (f : α → β) (k : Nat) : ∀ (m : Nat) (l : List α), l.length ≤ m → (∀ y ∈ l, (l.filter fun x => decide (f x = f y)).length = k) → ∃ c : List β, c.Nodup ∧ (∀ b, b ∈ c ↔ ∃ x ∈ l, f x = b) ∧ l.length = c.length * k
  | _, [], _, _ => ⟨[], by simp, by simp, by simp⟩
  | 0, x :: l, h, _ => by simp at h
  | m + 1, x :: l, h, hk => by
    have h2 := filter_len2 (fun y => decide (f y = f x)) (x :: l)
    have hx := hk x (by simp)
    have hlt : ((x :: l).filter fun y => !decide (f y = f x)).length ≤ m := by
      have : 1 ≤ ((x :: l).filter fun y => decide (f y = f x)).length := by
        rw [List.filter_cons_of_pos (by simp)]; simp
      simp only [List.length_cons] at h h2
      omega
    obtain ⟨c, h3, h4, h5⟩ := classes f k m ((x :: l).filter fun y => !decide (f y = f x)) hlt (fun y hy => by
      obtain ⟨hy1, hy2⟩ := List.mem_filter.1 hy
      rw [← hk y hy1, List.filter_filter]
      congr 1
      refine List.filter_congr fun z _ => ?_
      simp only [Bool.not_eq_true', decide_eq_false_iff_not] at hy2
      by_cases e : f z = f y
      · rw [e]; simp [hy2]
      · simp [e])
    refine ⟨f x :: c, List.nodup_cons.2 ⟨fun hm => ?_, h3⟩, fun b => ?_, ?_⟩
    · obtain ⟨y, hy, e⟩ := (h4 _).1 hm
      have := (List.mem_filter.1 hy).2
      simp [e] at this
    · rw [List.mem_cons, h4]
      constructor
      · rintro (rfl | ⟨y, hy, rfl⟩)
        · exact ⟨x, by simp, rfl⟩
        · exact ⟨y, (List.mem_filter.1 hy).1, rfl⟩
      · rintro ⟨y, hy, rfl⟩
        by_cases e : f y = f x
        · exact .inl e
        · exact .inr ⟨y, List.mem_filter.2 ⟨hy, by simpa using e⟩, rfl⟩
    · rw [h2, hx, h5, List.length_cons, Nat.add_mul]; omega
end Go.Gr
end

section
/- The least form, the orders from one pattern to another one. -/
namespace Go.Gr
open Go.Proofs.YtaadeobcnamgdaaGreatDoor
def sortI (l : List Int) : List Int := l.mergeSort fun x y => decide (x ≤ y)
/-! ### the least form -/
/-! ### orders from one pattern to another one -/
/-! ### the orders come in their own order -/
end Go.Gr
end

section
/- Degrees, an edge less, orbits: plain laws. -/
namespace Go.Gr
open Go.Proofs.YtaadeobcnamgdaaGreatDoor
/-! ### degrees, edges, an edge less -/
def degE (E : List Edg) (v : Int) : Nat := E.countP fun e => decide (e.a = v ∨ e.b = v)
section
variable {n : Nat} {p q : Pt} {b : List Int}
/-! ### orbits -/
end
end Go.Gr
end

section
/- slices.Sorted(slices.Values(l)) at ints, by the library's contracts: the iterator reads its slice between two rounds. -/
namespace Go.Proofs.YtaadeobcnamgdaaGreatDoor
open Go.RowKit Go.Maps Go.Sort Go.Shelf
variable {P : Program} {ρ : Ren}

/-- an iterator's word to a caller that keeps what lay ahead of its making -/
def SeqK (F : Fence) (n : Nat) (P : Program) (g : Nat) (lb : Array Value) (S : List Int → Prop) (N : Nat) (w : World) : Prop :=
  ∀ (l : Nat) (J : List Int → World → Prop) (W : World), Below w.heap.size w W → AbidesFrom W.heap.size J → (∀ pre W1, J pre W1 → Below w.heap.size w W1) →
    (∀ pre x W1, J pre W1 → pre.length < N → YieldAt F (n - 1) P l #[encZ x] W1 fun e W' => e = .returned (.bool true) ∧ J (pre ++ [x]) W' ∧ KeepsWalks W1 W') →
    J [] W →
    CallsIn F n P g (#[.func (.yield l) #[] #[]] ++ lb) W fun e W' => (∃ v, e = .returned v) ∧ ∃ xs, S xs ∧ J xs W'

set_option maxRecDepth 100000 in
set_option maxHeartbeats 2000000 in
theorem appendSeqK_in (L : SlLaysZI.n11 P ρ) (F : Fence) (n : Nat) (h11 : F.fn (ρ.f 11)) (hro : F.round = none) (hn : 2 ≤ n) (g : Nat) (lb : Array Value) (hFg : F.fn g) (eg : ∀ args w, (callFunc g args).run P w = .ok (.enter g args) w)
    (S : List Int → Prop) (N : Nat) (hN : N ≤ maxLen) (hNb : N * 8 ≤ 140737488355328) (w : World) (hseq : SeqK F (n - 1) P g lb S N w) :
    CallsIn F n P (ρ.f 11) #[.slice none 0 0, .func (.func g) #[] lb] w fun e w' => ∃ (v : Value) (ss : List Int), e = .returned v ∧ S ss ∧ w'.ownsRow w.heap.size (ρ.t 26) 1 v ss.length (ss.map encZ) ∧ (v = .slice none 0 0 ↔ ss = []) ∧ Below w.heap.size w w' := by
  have h1 : 1 ≤ n := by omega
  have mixed := L.mixed; have t0 := L.t0; have a0 := L.a0; have z0 := L.z0; have v0 := L.v0; have t24 := L.t24; have a24 := L.a24; have z24 := L.z24; have v24 := L.v24; have t26 := L.t26; have a26 := L.a26; have z26 := L.z26; have v26 := L.v26; have t28 := L.t28; have a28 := L.a28; have z28 := L.z28; have v28 := L.v28
  have hne : ρ.t 24 ≠ ρ.t 26 := fun e => by have h := L.t24; rw [e, L.t26] at h; cases h
  have u0 := run_underlying L.t0; have u24 := run_underlying L.t24; have u26 := run_underlying L.t26; have u28 := run_underlying L.t28
  obtain ⟨_, _, FG⟩ := L.f11
  refine callsIn_of_wp_marks FG rfl h11 ?_ hro
  simp only [SlBodyZ.n11_ntmps ρ, List.size_toArray, List.length_cons, List.length_nil, Nat.reduceAdd, Nat.reduceSub, Array.replicate_succ, Array.replicate_zero, List.push_toArray, List.append_toArray, List.nil_append, List.cons_append]
  gi_wp2
  refine wpIn_rangeFunc ?_
  intro fn hfn
  rw [hro]
  obtain ⟨W0, hW0⟩ : ∃ W0, w.alloc (.cells #[.slice none 0 0] (ρ.t 24)) = W0 := ⟨_, rfl⟩
  have hs0 : W0.heap.size = w.heap.size + 1 := by rw [← hW0]; simp
  have hv0 : W0.heap[w.heap.size]? = some (.cells #[.slice none 0 0] (ρ.t 24) (0, 0)) := by rw [← hW0]; exact World.alloc_heap_new w _
  have hb0 : Below w.heap.size w W0 := by rw [← hW0]; exact (Below.refl _ w).alloc (Nat.le_refl _) _
  rw [hW0]
  obtain ⟨W1, hW1⟩ : ∃ W1, (W0.alloc (.deferred (some []))).alloc (.loop (AnyZI.apRec ρ fn (.func (.func g) #[] lb) w.heap.size W0.heap.size .ready none)) = W1 := ⟨_, rfl⟩
  have hold : ∀ k, k < W0.heap.size → W1.heap[k]? = W0.heap[k]? := fun k hk => by
    rw [← hW1]; exact (Below.heap_alloc _ _ k (by simp; omega)).trans (Below.heap_alloc _ _ k hk)
  have hb1 : Below w.heap.size w W1 := by rw [← hW1]; exact (hb0.alloc hb0.size _).alloc (by have := hb0.size; simp; omega) _
  have hs1 : W1.heap.size = W0.heap.size + 2 := by rw [← hW1]; simp
  have hM : AnyZI.ApAt ρ w fn (.func (.func g) #[] lb) w.heap.size (W0.heap.size + 1) W0.heap.size [] W1 :=
    ⟨⟨_, (hold w.heap.size (by omega)).trans hv0, ⟨rfl, .inl ⟨rfl, rfl⟩⟩, by simp⟩,
     by rw [← hW1]; have := World.alloc_heap_new (W0.alloc (.deferred (some []))) (.loop (AnyZI.apRec ρ fn (.func (.func g) #[] lb) w.heap.size W0.heap.size .ready none)); rwa [World.size_alloc] at this,
     by rw [← hW1]; exact (Below.heap_alloc _ _ _ (by simp)).trans (World.alloc_heap_new W0 _), hb1⟩
  refine ⟨W0.heap.size + 1, [{ target := .collected W0.heap.size, args := #[] }], W1, { target := .fn (.func g) lb, args := #[.func (.yield (W0.heap.size + 1)) #[] #[]] }, W1, g,
    #[.func (.yield (W0.heap.size + 1)) #[] #[]] ++ lb, W1, ?_, ?_, ?_, ?_, fun _ => h1, ?_⟩
  · rw [← hW1]; exact run_enterLoop_outer _ _ _ _ _
  · simp [resolve, go_sem]
  · intro f' hf'; simp [Target.leads] at hf'; subst hf'; exact hFg
  · simp [invoke, go_sem, eg]
  · refine (hseq (W0.heap.size + 1) (AnyZI.ApAt ρ w fn (.func (.func g) #[] lb) w.heap.size (W0.heap.size + 1) W0.heap.size) W1 hb1 (AnyZI.ap_abides ρ _ _ _ _ _ _ _ hb1.size) (fun pre W h => h.below)
      (fun pre x W hJ hl => AnyZI.apYield { L with } F (n - 1 - 1) w fn hfn _ w.heap.size (W0.heap.size + 1) W0.heap.size (by omega) (by omega) (by omega) (Nat.le_refl _) (by omega) N hN hNb pre x W hJ hl) hM).mono ?_
    rintro e W2 ⟨⟨v0, rfl⟩, ss, hS, h2⟩
    obtain ⟨v, hv, hrow, hnil⟩ := h2.box
    have hend := run_endLoop (P := P) h2.L (by simp [AnyZI.apRec])
    obtain ⟨W3, hW3⟩ : ∃ W3, W2.putObj (W0.heap.size + 1) (.loop { AnyZI.apRec ρ fn (.func (.func g) #[] lb) w.heap.size W0.heap.size .ready none with state := .exhausted }) = W3 := ⟨_, rfl⟩
    rw [hW3] at hend
    have hg3 : W2.grownBy W3 (some (W0.heap.size + 1)) := by rw [← hW3]; exact grownBy_putObj_a _ _ _
    have hv3 : W3.heap[w.heap.size]? = some (.cells #[v] (ρ.t 24) (0, 0)) := by rw [← hW3]; exact (World.putObj_heap_other (by omega)).trans hv
    have hK3 : W3.heap[W0.heap.size]? = some (.deferred (some [])) := by rw [← hW3]; exact (World.putObj_heap_other (by omega)).trans h2.K
    have hrow3 := hrow.kept hg3 (ownsRow_ne_a hrow h2.L (fun cur e => by first | cases e | exact hne (Obj.cells.inj e).2.1))
    have hb3 : Below w.heap.size w W3 := h2.below.grown hg3 h2.below.size (fun k e => by cases e; omega)
    obtain ⟨hc3, hf3⟩ := cell_of_box_a hv3
    clear hW3
    refine ⟨none, W3, hend, ?_⟩
    gi_wp2
    rw [← hs0]
    refine ⟨by simp, .inl ⟨_, _, rfl, run_takeDeferred hK3, ?_⟩⟩
    exact ⟨_, results_tmp rfl _ _ _, v, ss, rfl, hS, hrow3.kept (grownBy_putObj_a _ _ _) (ownsRow_ne_a hrow3 hK3 (fun cur e => by first | cases e | exact hne (Obj.cells.inj e).2.1)), hnil, hb3.grown (grownBy_putObj_a _ _ _) hb3.size (fun k e => by cases e; omega)⟩


set_option maxHeartbeats 1000000 in
theorem collectK_in (L : SlLaysZI.n8 P ρ) (F : Fence) (n : Nat) (h8 : F.fn (ρ.f 8)) (h11 : F.fn (ρ.f 11)) (hro : F.round = none) (hn : 3 ≤ n) (g : Nat) (lb : Array Value) (hFg : F.fn g) (eg : ∀ args w, (callFunc g args).run P w = .ok (.enter g args) w)
    (S : List Int → Prop) (N : Nat) (hN : N ≤ maxLen) (hNb : N * 8 ≤ 140737488355328) (w : World) (hseq : SeqK F (n - 1 - 1) P g lb S N w) :
    CallsIn F n P (ρ.f 8) #[.func (.func g) #[] lb] w fun e w' => ∃ (v : Value) (ss : List Int), e = .returned v ∧ S ss ∧ w'.ownsRow w.heap.size (ρ.t 26) 1 v ss.length (ss.map encZ) ∧ (v = .slice none 0 0 ↔ ss = []) ∧ Below w.heap.size w w' := by
  have h1 : 1 ≤ n := by omega
  have e11 : ∀ args w, (callFunc (ρ.f 11) args).run P w = .ok (.enter (ρ.f 11) args) w := L.f11.enters rfl
  have mixed := L.mixed; have t0 := L.t0; have a0 := L.a0; have z0 := L.z0; have v0 := L.v0; have t24 := L.t24; have a24 := L.a24; have z24 := L.z24; have v24 := L.v24; have t26 := L.t26; have a26 := L.a26; have z26 := L.z26; have v26 := L.v26; have t28 := L.t28; have a28 := L.a28; have z28 := L.z28; have v28 := L.v28
  have u0 := run_underlying L.t0; have u24 := run_underlying L.t24; have u26 := run_underlying L.t26; have u28 := run_underlying L.t28
  obtain ⟨_, _, FG⟩ := L.f8
  refine callsIn_of_wp FG rfl h8 ?_ hro
  simp only [SlBodyZ.n8_ntmps ρ, List.size_toArray, List.length_cons, List.length_nil, Nat.reduceAdd, Nat.reduceSub, Array.replicate_succ, Array.replicate_zero, List.push_toArray, List.append_toArray, List.nil_append, List.cons_append]
  gi_wp2_with (gi_at_fn (ρ.f 11); refine (appendSeqK_in { L with } F (n - 1) h11 hro (by omega) g lb hFg eg S N hN hNb _ hseq).mono ?_; rintro e w' ⟨v, ss, rfl, hS, hrow, hnil, hb⟩)
  go_ret
  exact ⟨v, ss, rfl, hS, hrow, hnil, hb⟩


set_option maxRecDepth 100000 in
set_option maxHeartbeats 2000000 in
theorem sortedK_in (L : SlLaysZI.n6 P ρ) (F : Fence) (n : Nat) (h6 : F.fn (ρ.f 6)) (h8 : F.fn (ρ.f 8)) (h9 : F.fn (ρ.f 9)) (h11 : F.fn (ρ.f 11)) (hro : F.round = none) (hn : 4 ≤ n) (hsort : AnyZI.SortsIn P ρ F (n - 1)) (e9 : ∀ args w, (callFunc (ρ.f 9) args).run P w = .ok (.enter (ρ.f 9) args) w) (g : Nat) (lb : Array Value) (hFg : F.fn g) (eg : ∀ args w, (callFunc g args).run P w = .ok (.enter g args) w)
    (S : List Int → Prop) (N : Nat) (hN : N ≤ maxLen) (hNb : N * 8 ≤ 140737488355328) (w : World) (hSN : ∀ ss, S ss → ss.length ≤ N) (hseq : SeqK F (n - 1 - 1 - 1) P g lb S N w) :
    CallsIn F n P (ρ.f 6) #[.func (.func g) #[] lb] w fun e w' => ∃ (v : Value) (ss : List Int), e = .returned v ∧ S ss ∧
      w'.ownsRow w.heap.size (ρ.t 26) 1 v ss.length ((ss.mergeSort (fun x y => decide (x ≤ y))).map encZ) ∧ (v = .slice none 0 0 ↔ ss = []) ∧ Below w.heap.size w w' := by
  have h1 : 1 ≤ n := by omega
  have e8 : ∀ args w, (callFunc (ρ.f 8) args).run P w = .ok (.enter (ρ.f 8) args) w := L.f8.enters rfl
  have mixed := L.mixed; have t0 := L.t0; have a0 := L.a0; have z0 := L.z0; have v0 := L.v0; have t24 := L.t24; have a24 := L.a24; have z24 := L.z24; have v24 := L.v24; have t26 := L.t26; have a26 := L.a26; have z26 := L.z26; have v26 := L.v26; have t28 := L.t28; have a28 := L.a28; have z28 := L.z28; have v28 := L.v28
  have u0 := run_underlying L.t0; have u24 := run_underlying L.t24; have u26 := run_underlying L.t26; have u28 := run_underlying L.t28
  obtain ⟨_, _, FG⟩ := L.f6
  refine callsIn_of_wp FG rfl h6 ?_ hro
  simp only [SlBodyZ.n6_ntmps ρ, List.size_toArray, List.length_cons, List.length_nil, Nat.reduceAdd, Nat.reduceSub, Array.replicate_succ, Array.replicate_zero, List.push_toArray, List.append_toArray, List.nil_append, List.cons_append]
  gi_wp2_with (gi_at_fn (ρ.f 8); refine (collectK_in { L with } F (n - 1) h8 h11 hro (by omega) g lb hFg eg _ N hN hNb _ hseq).mono ?_; rintro e W ⟨v, ss, rfl, hS, hrow, hnil, hb⟩; have hlen := hSN ss hS)
  rcases hrow.2 with ⟨rfl, hz⟩ | ⟨gb, cap, cur, rfl, hbase, hgb, r1, r2, r3, r4⟩
  · -- nothing came: the nil slice is sorted and handed back
    have hss : ss = [] := List.eq_nil_of_length_eq_zero hz
    subst hss
    gi_wp2_with (gi_at_fn (ρ.f 9); refine (hsort.2 none 0 W).mono ?_; rintro e w' ⟨rfl, rfl⟩)
    go_ret
    exact ⟨.slice none 0 0, [], rfl, hS, by simpa using hrow, by simp, hb⟩
  · have hH : Holds encZ W gb 0 ss.toArray := holds_of_block_i hgb (by simpa using r4)
    have hgl : gb < W.heap.size := (Array.getElem?_eq_some_iff.1 hgb).1
    have hsz : ss.length < 4611686018427387904 := by omega
    have cS := hsort.1 gb 0 cap ss W hH hgl hsz
    gi_wp2_with (gi_at_fn (ρ.f 9); refine cS.mono ?_; rintro e w' ⟨rfl, nn, os, rfl⟩)
    go_ret
    exact ⟨_, ss, rfl, hS, ownsRow_sorted_i (by simp) hbase hgb r1 r2 r3, hnil, hb.grown (grownBy_sorted_i _) hb.size (fun j hj => by cases hj; exact hbase)⟩


end Go.Proofs.YtaadeobcnamgdaaGreatDoor
end

section
/-
  DERIVED: THE SHELF's CONTRACTS AT THIS DUMP, IN PLAIN WORDS (tools/lay-plain.mjs out of 'YtaadeobcnamgdaaGreatDoorLsoTmp.lean', which tools/lay-shelf.mjs wrote): THE SAME DECLARATIONS UNDER THE SAME NAMES: 'import', 'namespace', 'open', 'def', 'theorem' AND NOTHING ELSE: no command of the shelf's: FOR A HAND-IN. Each laying: the table of numbers ('.._ren') and one theorem, a field a fact of the dump's own or the kernel's comparison; each contract: ONE APPLICATION.
-/
namespace Go.Proofs
open Go.Shelf
def Tryz.sortedI_ren : Go.Shelf.Ren := ⟨fun | 6 => 208 | 8 => 242 | 9 => 243 | 11 => 257 | 13 => 132 | 12 => 258 | 23 => 191 | 24 => 192 | 14 => 270 | 15 => 271 | 16 => 272 | 17 => 273 | 18 => 274 | 19 => 275 | 20 => 264 | 21 => 276 | 22 => 277 | 25 => 284 | 26 => 230 | 27 => 231 | 28 => 285 | 29 => 286 | 30 => 193 | 31 => 289 | n => n, fun | 26 => 3 | 28 => 279 | 24 => 22 | 0 => 0 | 3 => 3 | 37 => 197 | 48 => 194 | 50 => 196 | 4 => 4 | 40 => 256 | 39 => 255 | 45 => 248 | 5 => 5 | 9 => 9 | 51 => 302 | 55 => 306 | 57 => 315 | 58 => 106 | 33 => 221 | n => n, fun | n => n⟩
theorem Tryz.sortedI : Go.Proofs.SlLaysZI.n6 Tryz.prog Tryz.sortedI_ren := {
  mixed := by kernel_rfl
  f6 := ⟨Tryz.f208.name, by decide, Tryz.func208.trans (congrArg some (by kernel_rfl))⟩
  f8 := ⟨Tryz.f242.name, by decide, Tryz.func242.trans (congrArg some (by kernel_rfl))⟩
  f11 := ⟨Tryz.f257.name, by decide, Tryz.func257.trans (congrArg some (by kernel_rfl))⟩
  t0 := Tryz.underlying0
  a0 := Tryz.isAgg0
  z0 := Tryz.sizeOf0
  v0 := Tryz.zeroValue0
  t24 := Tryz.underlying22
  a24 := Tryz.isAgg22
  z24 := Tryz.sizeOf22
  v24 := Tryz.zeroValue22
  t26 := Tryz.underlying3
  a26 := Tryz.isAgg3
  z26 := Tryz.sizeOf3
  v26 := Tryz.zeroValue3
  t28 := Tryz.underlying279
  a28 := Tryz.isAgg279
  z28 := Tryz.sizeOf279
  v28 := Tryz.zeroValue279
  i26 := by kernel_rfl }
def Tryz.sortI_ren : Go.Shelf.Ren := ⟨fun | 5 => 243 | 8 => 132 | 7 => 258 | 19 => 191 | 20 => 192 | 10 => 270 | 11 => 271 | 12 => 272 | 13 => 273 | 14 => 274 | 15 => 275 | 16 => 264 | 17 => 276 | 18 => 277 | 30 => 284 | 31 => 230 | 32 => 231 | 33 => 285 | 34 => 286 | 35 => 193 | 40 => 289 | n => n, fun | 23 => 22 | 25 => 3 | 3 => 3 | 32 => 197 | 22 => 22 | 0 => 0 | 44 => 194 | 46 => 196 | 4 => 4 | 36 => 256 | 35 => 255 | 41 => 248 | 5 => 5 | 9 => 9 | 53 => 302 | 57 => 306 | 63 => 315 | 64 => 106 | n => n, fun | n => n⟩
theorem Tryz.sortI : Go.Proofs.SlLaysM.n5 Tryz.prog Tryz.sortI_ren := {
  mixed := by kernel_rfl
  f5 := ⟨Tryz.f243.name, by decide, Tryz.func243.trans (congrArg some (by kernel_rfl))⟩
  f7 := ⟨Tryz.f258.name, by decide, Tryz.func258.trans (congrArg some (by kernel_rfl))⟩
  f8 := Tryz.func132.trans (congrArg some (by kernel_rfl))
  f10 := ⟨Tryz.f270.name, by decide, Tryz.func270.trans (congrArg some (by kernel_rfl))⟩
  f11 := ⟨Tryz.f271.name, by decide, Tryz.func271.trans (congrArg some (by kernel_rfl))⟩
  f12 := ⟨Tryz.f272.name, by decide, Tryz.func272.trans (congrArg some (by kernel_rfl))⟩
  f13 := ⟨Tryz.f273.name, by decide, Tryz.func273.trans (congrArg some (by kernel_rfl))⟩
  f14 := ⟨Tryz.f274.name, by decide, Tryz.func274.trans (congrArg some (by kernel_rfl))⟩
  f15 := ⟨Tryz.f275.name, by decide, Tryz.func275.trans (congrArg some (by kernel_rfl))⟩
  f16 := ⟨Tryz.f264.name, by decide, Tryz.func264.trans (congrArg some (by kernel_rfl))⟩
  f17 := ⟨Tryz.f276.name, by decide, Tryz.func276.trans (congrArg some (by kernel_rfl))⟩
  f18 := ⟨Tryz.f277.name, by decide, Tryz.func277.trans (congrArg some (by kernel_rfl))⟩
  f19 := Tryz.func191.trans (congrArg some (by kernel_rfl))
  f20 := Tryz.func192.trans (congrArg some (by kernel_rfl))
  f30 := ⟨Tryz.f284.name, by decide, Tryz.func284.trans (congrArg some (by kernel_rfl))⟩
  f31 := Tryz.func230.trans (congrArg some (by kernel_rfl))
  f32 := Tryz.func231.trans (congrArg some (by kernel_rfl))
  f33 := ⟨Tryz.f285.name, by decide, Tryz.func285.trans (congrArg some (by kernel_rfl))⟩
  f34 := ⟨Tryz.f286.name, by decide, Tryz.func286.trans (congrArg some (by kernel_rfl))⟩
  f35 := ⟨Tryz.f193.name, by decide, Tryz.func193.trans (congrArg some (by kernel_rfl))⟩
  f40 := ⟨Tryz.f289.name, by decide, Tryz.func289.trans (congrArg some (by kernel_rfl))⟩
  t0 := Tryz.underlying0
  a0 := Tryz.isAgg0
  z0 := Tryz.sizeOf0
  v0 := Tryz.zeroValue0
  t3 := Tryz.underlying3
  a3 := Tryz.isAgg3
  z3 := Tryz.sizeOf3
  v3 := Tryz.zeroValue3
  t4 := Tryz.underlying4
  a4 := Tryz.isAgg4
  z4 := Tryz.sizeOf4
  v4 := Tryz.zeroValue4
  t5 := Tryz.underlying5
  a5 := Tryz.isAgg5
  z5 := Tryz.sizeOf5
  v5 := Tryz.zeroValue5
  t9 := Tryz.underlying9
  a9 := Tryz.isAgg9
  z9 := Tryz.sizeOf9
  v9 := Tryz.zeroValue9
  t22 := Tryz.underlying22
  a22 := Tryz.isAgg22
  z22 := Tryz.sizeOf22
  v22 := Tryz.zeroValue22
  t23 := Tryz.underlying22
  a23 := Tryz.isAgg22
  z23 := Tryz.sizeOf22
  v23 := Tryz.zeroValue22
  t25 := Tryz.underlying3
  a25 := Tryz.isAgg3
  z25 := Tryz.sizeOf3
  v25 := Tryz.zeroValue3
  t32 := Tryz.underlying197
  a32 := Tryz.isAgg197
  z32 := Tryz.sizeOf197
  v32 := Tryz.zeroValue197
  t35 := Tryz.underlying255
  a35 := Tryz.isAgg255
  z35 := Tryz.sizeOf255
  v35 := Tryz.zeroValue255
  t36 := Tryz.underlying256
  a36 := Tryz.isAgg256
  z36 := Tryz.sizeOf256
  v36 := Tryz.zeroValue256
  t41 := Tryz.underlying248
  a41 := Tryz.isAgg248
  z41 := Tryz.sizeOf248
  v41 := Tryz.zeroValue248
  t44 := Tryz.underlying194
  a44 := Tryz.isAgg194
  z44 := Tryz.sizeOf194
  v44 := Tryz.zeroValue194
  t46 := Tryz.underlying196
  a46 := Tryz.isAgg196
  z46 := Tryz.sizeOf196
  v46 := Tryz.zeroValue196
  t53 := Tryz.underlying302
  a53 := Tryz.isAgg302
  z53 := Tryz.sizeOf302
  v53 := Tryz.zeroValue302
  t57 := Tryz.underlying306
  a57 := Tryz.isAgg306
  z57 := Tryz.sizeOf306
  v57 := Tryz.zeroValue306
  t63 := Tryz.underlying315
  a63 := Tryz.isAgg315
  z63 := Tryz.sizeOf315
  v63 := Tryz.zeroValue315
  t64 := Tryz.underlying106
  a64 := Tryz.isAgg106
  z64 := Tryz.sizeOf106
  v64 := Tryz.zeroValue106 }
end Go.Proofs
end
