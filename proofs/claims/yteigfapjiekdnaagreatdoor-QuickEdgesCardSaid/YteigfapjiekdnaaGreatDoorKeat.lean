/- Merged: Itr Sea. -/
import Derived.RangeFuncNested
import Derived.Test.YteigfapjiekdnaaGreatDoorSxu
import Derived.Test.YteigfapjiekdnaaGreatDoorKeaq
import Derived.Test.YteigfapjiekdnaaGreatDoorKeab
section
/- Ranges over functions that yield slices of ints: what an iterator owes, and the loop's law. -/
namespace Go.Sx
open Go Go.RowKit Go.Reg
/-- ints -/
def dInts (l : List Int) : Da := .list 1 (l.map fun n => Da.int .i64 n)
/-- a step that turns but what is among S, which it may make greater by new blocks -/
structure Grow (S : List Nat) (A : World) (S' : List Nat) (B : World) : Prop where
  tch : Tch S A B
  sub : ∀ b ∈ S, b ∈ S'
  new : ∀ b ∈ S', b ∈ S ∨ A.heap.size ≤ b
  lt : ∀ b ∈ S', b < B.heap.size
theorem Grow.refl {S : List Nat} {A : World} (h : ∀ b ∈ S, b < A.heap.size) : Grow S A S A := ⟨Tch.refl _ _, fun _ h => h, fun _ h => .inl h, h⟩
theorem Grow.same {S : List Nat} {A B : World} (t : Tch S A B) (h : ∀ b ∈ S, b < A.heap.size) : Grow S A S B := ⟨t, fun _ h => h, fun _ h => .inl h, fun b hb => Nat.lt_of_lt_of_le (h b hb) t.size⟩
theorem Grow.trans {S S' S2 : List Nat} {A B C : World} (h : Grow S A S' B) (k : Grow S' B S2 C) : Grow S A S2 C :=
  ⟨h.tch.trans k.tch (fun _ h => h) (fun b hb => h.new b hb), fun b hb => k.sub b (h.sub b hb), fun b hb => (k.new b hb).elim (fun hb => h.new b hb) (fun hb => .inr (Nat.le_trans h.tch.size hb)), k.lt⟩
theorem Grow.later {S S' : List Nat} {A B : World} (h : Grow S A S' B) : Later S A S' B := ⟨h.tch.size, fun b hb hn => h.tch.blk b hb hn, fun b hn hb hm => (h.new b hm).elim hn (fun h => by omega)⟩
/-- WHAT AN ITERATOR OWES at a loop's record l: O: the blocks that a round may turn at first (S: later on: a round may make it greater by blocks that it lays); R: those of its own that it turns between rounds (told at its end). -/
def SeqAt (C : Cx) (fv : Value) (xs : List (List Int)) (O : List Nat) (l : Nat) (W : World) : Prop :=
  ∃ g lb, fv = .func (.func g) #[] lb ∧ (∀ args w, (callFunc g args).run C.P w = .ok (.enter g args) w) ∧
  ∀ (J Jx : List Nat → List Nat → List (List Int) → World → Prop),
    (∀ R S pre A B, (∀ r ∈ R, W.heap.size ≤ r) → J R S pre A → Tch R A B → J R S pre B) → (∀ R S pre A B, (∀ r ∈ R, W.heap.size ≤ r) → Jx R S pre A → Tch R A B → Jx R S pre B) →
    (∀ R S pre x v A, (∀ r ∈ R, W.heap.size ≤ r) → (∀ b ∈ S, b < A.heap.size) → J R S pre A → pre ++ [x] <+: xs → Rep (S ++ R) A (dInts x) v → (W.heap.size ≤ A.heap.size ∧ ∀ r ∈ R, r < A.heap.size) → YieldAt Fence.wide 2 C.P l #[v] A fun e B =>
      ∃ S', Grow S A S' B ∧ ((e = .returned (.bool true) ∧ J R S' (pre ++ [x]) B) ∨ (e = .returned (.bool false) ∧ Jx R S' (pre ++ [x]) B))) →
    (∀ R, (∀ r ∈ R, W.heap.size ≤ r) → J R O [] W) →
    CallsIn Fence.wide 3 C.P g (#[.func (.yield l) #[] #[]] ++ lb) W fun e B => (∃ u, e = .returned u) ∧ ∃ R S : List Nat, (∀ r ∈ R, W.heap.size ≤ r) ∧ Tch (O ++ R) W B ∧ (∀ b ∈ S, b ∈ O ∨ W.heap.size ≤ b) ∧ (J R S xs B ∨ ∃ pre, pre <+: xs ∧ Jx R S pre B)
theorem tch_putObj (W : World) (l : Nat) (o : Obj) : Tch [l] W (W.putObj l o) :=
  ⟨rfl, rfl, rfl, by simp, fun k _ hn => World.putObj_heap_other (by simpa using hn)⟩
/-- how a round's body may be left -/
def itrPost (I Ix : List Nat → World → Prop) (S : List Nat) (A : World) : Exit → Act → World → Prop
  | .normal, _, B => ∃ S', Grow S A S' B ∧ I S' B
  | .ret, _, B => ∃ S', Grow S A S' B ∧ Ix S' B
  | _, _, _ => False
theorem wpIn_itr {C : Cx} {g : Operand} {ps : Array Tmp} {assign body : Code} {Q : Exit → Act → World → Prop} {a : Act} {w : World} {n : Nat} (xs : List (List Int)) (Ob : List Nat) (hOb : ∀ b ∈ Ob, b < w.heap.size)
    (hps : ps.size = 1) (hseq : ∀ W, Tch [] w W → W.heap.size = w.heap.size + 2 → SeqAt C (a.eval g) xs (w.heap.size :: (w.heap.size + 1) :: Ob) (w.heap.size + 1) W)
    (I Ix : List Nat → List Nat → List (List Int) → World → Prop)
    (hI : ∀ R S pre A B, (∀ r ∈ R, w.heap.size ≤ r) → I R S pre A → Tch R A B → I R S pre B) (hIx : ∀ R S pre A B, (∀ r ∈ R, w.heap.size ≤ r) → Ix R S pre A → Tch R A B → Ix R S pre B)
    (h0 : ∀ R W, (∀ r ∈ R, w.heap.size ≤ r) → Tch [] w W → I R Ob [] W)
    (hbody : ∀ (l : Nat) (R S : List Nat) (pre : List (List Int)) (x : List Int) (v : Value) (A : World), w.heap.size ≤ l → l ∈ R → (∀ r ∈ R, w.heap.size ≤ r) → (∀ b ∈ S, b < A.heap.size) → (∀ b ∈ S, b ∉ R) → I R S pre A → pre ++ [x] <+: xs → Rep (S ++ R) A (dInts x) v → w.heap.size ≤ A.heap.size → (∀ r ∈ R, r < A.heap.size) →
      assign.wpIn (Fence.wide.inRound l) 2 C.P (Exit.then (fun a₁ A₁ => Tch [] A A₁ ∧ ∀ A₂, Tch [l] A₁ A₂ → body.wpIn (Fence.wide.inRound l) 2 C.P (itrPost (fun S' => I R S' (pre ++ [x])) (fun S' => Ix R S' (pre ++ [x])) S A₂) a₁ A₂) (fun _ _ _ => False)) { tmps := (ps.zip #[v]).foldl (fun t (p, v) => t.setIfInBounds p v) a.tmps, defers := [] } A)
    (hdone : ∀ (D : Nat) (R S : List Nat) (W : World), w.heap.size ≤ D → D ∈ R → (∀ r ∈ R, w.heap.size ≤ r) → (∀ b ∈ S, b ∉ R) → I R S xs W → Tch Ob w W → W.heap[D]? = some (.deferred (some [])) → Q .normal { a with defers := { target := .collected D, args := #[] } :: a.defers } W)
    (hstop : ∀ (D : Nat) (R S : List Nat) (pre : List (List Int)) (W : World), w.heap.size ≤ D → D ∈ R → (∀ r ∈ R, w.heap.size ≤ r) → (∀ b ∈ S, b ∉ R) → pre <+: xs → Ix R S pre W → Tch Ob w W → W.heap[D]? = some (.deferred (some [])) → Code.ret.wpIn Fence.wide n C.P Q { a with defers := { target := .collected D, args := #[] } :: a.defers } W) :
    (Code.rangeFunc g ps assign body).wpIn Fence.wide n C.P Q a w := by
  refine wpIn_rangeFunc ?_
  intro fn hfn
  obtain ⟨rec, hrec⟩ : ∃ rec : LoopState → Option Code → Loop, rec = fun st pe => { state := st, pending := pe, fn, tmps := a.tmps, params := ps, assign, body, defers := w.heap.size } := ⟨_, rfl⟩
  obtain ⟨W1, hW1⟩ : ∃ W1, (w.alloc (.deferred (some []))).alloc (.loop (rec .ready none)) = W1 := ⟨_, rfl⟩
  have hL1 : W1.heap[w.heap.size + 1]? = some (.loop (rec .ready none)) := by
    rw [← hW1]; have := World.alloc_heap_new (w.alloc (.deferred (some []))) (.loop (rec .ready none)); rwa [World.size_alloc] at this
  have hK1 : W1.heap[w.heap.size]? = some (.deferred (some [])) := by
    rw [← hW1]; exact (Below.heap_alloc _ _ _ (by simp)).trans (World.alloc_heap_new w _)
  have hT1 : Tch [] w W1 := by rw [← hW1]; exact (Tch.alloc w _ []).andAlloc _
  have hs1 : W1.heap.size = w.heap.size + 2 := by rw [← hW1]; simp
  obtain ⟨gf, lb, hg, eg, hcall⟩ := hseq W1 hT1 hs1
  have hRo : ∀ R : List Nat, (∀ r ∈ R, W1.heap.size ≤ r) → ∀ r ∈ w.heap.size :: (w.heap.size + 1) :: R, w.heap.size ≤ r := fun R hR r hm => by
    rcases List.mem_cons.1 hm with e | hm
    · omega
    rcases List.mem_cons.1 hm with e | hm
    · omega
    · have := hR r hm; omega
  refine ⟨w.heap.size + 1, [{ target := .collected w.heap.size, args := #[] }], W1, { target := .fn (.func gf) lb, args := #[.func (.yield (w.heap.size + 1)) #[] #[]] }, W1, gf,
    #[.func (.yield (w.heap.size + 1)) #[] #[]] ++ lb, W1, ?_, ?_, ?_, ?_, fun h => (by cases h), ?_⟩
  · rw [← hW1, hrec]; exact run_enterLoop_outer _ _ _ _ _
  · simp only [resolve, hg]
    simp [go_sem]
  · intro f' hf'; trivial
  · simp [invoke, go_sem, eg]
  · have hcall' := hcall
      (fun R S pre W => ∃ Sc, S = w.heap.size :: (w.heap.size + 1) :: Sc ∧ I (w.heap.size :: (w.heap.size + 1) :: R) Sc pre W ∧ (∀ b ∈ Sc, b ∉ w.heap.size :: (w.heap.size + 1) :: R) ∧ W.heap[w.heap.size + 1]? = some (.loop (rec .ready none)) ∧ W.heap[w.heap.size]? = some (.deferred (some [])))
      (fun R S pre W => ∃ Sc, S = w.heap.size :: (w.heap.size + 1) :: Sc ∧ Ix (w.heap.size :: (w.heap.size + 1) :: R) Sc pre W ∧ (∀ b ∈ Sc, b ∉ w.heap.size :: (w.heap.size + 1) :: R) ∧ W.heap[w.heap.size + 1]? = some (.loop (rec .done (some .ret))) ∧ W.heap[w.heap.size]? = some (.deferred (some [])))
      (fun R S pre A B hR ⟨Sc, hS, h1, hn, h2, h3⟩ ht => ⟨Sc, hS, hI _ _ pre A B (hRo R hR) h1 (ht.mono (by simp +contextual)), hn, by rw [ht.blk _ (Array.getElem?_eq_some_iff.1 h2).1 (fun hm => by have := hR _ hm; omega)]; exact h2, by rw [ht.blk _ (Array.getElem?_eq_some_iff.1 h3).1 (fun hm => by have := hR _ hm; omega)]; exact h3⟩)
      (fun R S pre A B hR ⟨Sc, hS, h1, hn, h2, h3⟩ ht => ⟨Sc, hS, hIx _ _ pre A B (hRo R hR) h1 (ht.mono (by simp +contextual)), hn, by rw [ht.blk _ (Array.getElem?_eq_some_iff.1 h2).1 (fun hm => by have := hR _ hm; omega)]; exact h2, by rw [ht.blk _ (Array.getElem?_eq_some_iff.1 h3).1 (fun hm => by have := hR _ hm; omega)]; exact h3⟩)
      ?_ (fun R hR => ⟨Ob, rfl, h0 _ _ (hRo R hR) hT1, fun b hb hm => by have := hOb b hb; have := hRo R hR b hm; omega, hL1, hK1⟩)
    · -- behind the iterator
      refine (callsIn_wide.2 (callsIn_wide.1 hcall')).mono ?_
      rintro e W2 ⟨⟨v, rfl⟩, R, S, hR, ht, hSn, h⟩
      have htw : ∀ o, Tch Ob w (W2.putObj (w.heap.size + 1) o) := fun o => by
        refine (hT1.trans (S' := (w.heap.size :: (w.heap.size + 1) :: Ob) ++ R) (T := Ob) ht (by simp) (fun x hx => ?_)).trans (tch_putObj _ _ _) (fun _ h => h) (fun x hx => ?_)
        · simp only [List.cons_append, List.mem_cons, List.mem_append] at hx
          rcases hx with rfl | rfl | hx | hx
          · exact .inr (by omega)
          · exact .inr (by omega)
          · exact .inl hx
          · exact .inr (by have := hR x hx; omega)
        · simp at hx; exact .inr (by omega)
      rcases h with ⟨Sc, rfl, hi, hn, hl, hk⟩ | ⟨pre, hpre, Sc, rfl, hi, hn, hl, hk⟩
      · have hen := run_endLoop (P := C.P) hl (by rw [hrec]; simp)
        refine ⟨none, _, by rw [hrec] at hen; exact hen, ?_⟩
        exact hdone _ _ _ _ (Nat.le_refl _) (by simp) (hRo R hR) hn (hI _ _ _ _ _ (hRo R hR) hi ((tch_putObj _ _ _).mono (by simp))) (htw _) ((World.putObj_heap_other (by omega)).trans hk)
      · have hen := run_endLoop (P := C.P) hl (by rw [hrec]; simp)
        refine ⟨some .ret, _, by rw [hrec] at hen; exact hen, ?_⟩
        exact hstop _ _ _ pre _ (Nat.le_refl _) (by simp) (hRo R hR) hn hpre (hIx _ _ _ _ _ (hRo R hR) hi ((tch_putObj _ _ _).mono (by simp))) (htw _) ((World.putObj_heap_other (by omega)).trans hk)
    · -- one round
      rintro R S pre x v A hR hSA ⟨Sc, rfl, hi, hn, hl, hk⟩ hp hrep hsz
      have hlA := (Array.getElem?_eq_some_iff.1 hl).1
      have hkA := (Array.getElem?_eq_some_iff.1 hk).1
      have hy := run_yield (P := C.P) (args := #[v]) hl (by rw [hrec]; simp [hps])
      rw [hrec] at hy
      have hrep' : Rep (Sc ++ (w.heap.size :: (w.heap.size + 1) :: R)) A (dInts x) v := by
        obtain ⟨cs, r, rfl⟩ := hrep
        exact ⟨cs, RepC.later ⟨Nat.le_refl _, fun _ _ _ => rfl, fun b hb _ => by simp only [List.mem_append, List.mem_cons, not_or] at hb ⊢; exact ⟨hb.1.2.2, hb.1.1, hb.1.2.1, hb.2⟩⟩ _ cs r, rfl⟩
      have hlO : (w.heap.size + 1) ∉ Sc := fun hm => hn _ hm (by simp)
      have hkO : w.heap.size ∉ Sc := fun hm => hn _ hm (by simp)
      have hSc : ∀ b ∈ Sc, b < A.heap.size := fun b hb => hSA b (by simp [hb])
      have hRA : ∀ r ∈ w.heap.size :: (w.heap.size + 1) :: R, r < A.heap.size := fun r hr => by
        rcases List.mem_cons.1 hr with e | hr
        · rw [e]; exact hkA
        rcases List.mem_cons.1 hr with e | hr
        · rw [e]; exact hlA
        · exact hsz.2 r hr
      refine ⟨fn, _, assign, body, hy, roundIn_of_wpIn trivial (wpIn_mono (hbody (w.heap.size + 1) _ Sc pre x v A (by omega) (by simp) (hRo R hR) hSc hn hi hp hrep' (by omega) hRA) ?_)⟩
      clear hy
      intro e a1 A1 he
      cases e with
      | normal =>
        obtain ⟨ht1, hbd⟩ := he
        have hl1 : A1.heap[w.heap.size + 1]? = some (.loop (rec .ready none)) := by rw [ht1.blk _ hlA (by simp)]; exact hl
        have hk1 : A1.heap[w.heap.size]? = some (.deferred (some [])) := by rw [ht1.blk _ hkA (by simp)]; exact hk
        have hlt1 := (Array.getElem?_eq_some_iff.1 hl1).1
        have hbg := run_beginRound (P := C.P) hl1 (by rw [hrec])
        obtain ⟨A2, hA2⟩ : ∃ A2, A1.putObj (w.heap.size + 1) (.loop { rec .ready none with state := .busy }) = A2 := ⟨_, rfl⟩
        have hl2 : A2.heap[w.heap.size + 1]? = some (.loop { rec .ready none with state := .busy }) := by rw [← hA2]; exact World.putObj_heap_same hlt1
        have ht2 : Tch [w.heap.size + 1] A1 A2 := by rw [← hA2]; exact tch_putObj _ _ _
        have hk2 : A2.heap[w.heap.size]? = some (.deferred (some [])) := by rw [ht2.blk _ (Array.getElem?_eq_some_iff.1 hk1).1 (by simp)]; exact hk1
        refine ⟨A2, by rw [← hA2]; exact hbg, wpIn_mono (hbd A2 ht2) ?_⟩
        intro e2 a3 A3 hp3
        have fin : ∀ (jump : Option Code) (S' : List Nat), Grow Sc A2 S' A3 →
            (Instr.endRound (w.heap.size + 1) jump).run C.P A3 = .ok (.bool jump.isNone) (A3.putObj (w.heap.size + 1) (.loop (rec (if jump.isNone then .ready else .done) jump))) ∧
            (A3.putObj (w.heap.size + 1) (.loop (rec (if jump.isNone then .ready else .done) jump))).heap[w.heap.size + 1]? = some (.loop (rec (if jump.isNone then .ready else .done) jump)) ∧
            (A3.putObj (w.heap.size + 1) (.loop (rec (if jump.isNone then .ready else .done) jump))).heap[w.heap.size]? = some (.deferred (some [])) ∧
            Grow (w.heap.size :: (w.heap.size + 1) :: Sc) A (w.heap.size :: (w.heap.size + 1) :: S') (A3.putObj (w.heap.size + 1) (.loop (rec (if jump.isNone then .ready else .done) jump))) ∧ (∀ b ∈ S', b ∉ w.heap.size :: (w.heap.size + 1) :: R) := fun jump S' hg => by
          have ht3 := hg.tch
          have hl3 : A3.heap[w.heap.size + 1]? = some (.loop { rec .ready none with state := .busy }) := by rw [ht3.blk _ (Array.getElem?_eq_some_iff.1 hl2).1 hlO]; exact hl2
          have hk3 : A3.heap[w.heap.size]? = some (.deferred (some [])) := by rw [ht3.blk _ (Array.getElem?_eq_some_iff.1 hk2).1 hkO]; exact hk2
          have hen := run_endRound (P := C.P) jump hl3
          have hs2 : A.heap.size ≤ A2.heap.size := Nat.le_trans ht1.size ht2.size
          refine ⟨by rw [hrec] at hen ⊢; exact hen, World.putObj_heap_same (Array.getElem?_eq_some_iff.1 hl3).1, (World.putObj_heap_other (by omega)).trans hk3, ⟨?_, ?_, ?_, ?_⟩, ?_⟩
          · have h12 : Tch (w.heap.size :: (w.heap.size + 1) :: Sc) A A2 := (ht1.mono (by simp)).trans0 (ht2.mono (by simp))
            exact (h12.trans0 (ht3.mono (by simp +contextual))).trans0 ((tch_putObj _ _ _).mono (by simp))
          · intro b hb
            rcases List.mem_cons.1 hb with e | hb
            · simp [e]
            rcases List.mem_cons.1 hb with e | hb
            · simp [e]
            · simp [hg.sub b hb]
          · intro b hb
            rcases List.mem_cons.1 hb with e | hb
            · simp [e]
            rcases List.mem_cons.1 hb with e | hb
            · simp [e]
            · rcases hg.new b hb with h | h
              · simp [h]
              · right; omega
          · intro b hb
            have hps : (A3.putObj (w.heap.size + 1) (.loop (rec (if jump.isNone then .ready else .done) jump))).heap.size = A3.heap.size := by simp
            rw [hps]
            rcases List.mem_cons.1 hb with e | hb
            · rw [e]; exact (Array.getElem?_eq_some_iff.1 hk3).1
            rcases List.mem_cons.1 hb with e | hb
            · rw [e]; exact (Array.getElem?_eq_some_iff.1 hl3).1
            · exact hg.lt b hb
          · intro b hb hm
            rcases hg.new b hb with h | h
            · exact hn b h hm
            · have := hRA b hm; omega
        cases e2 with
        | normal =>
          obtain ⟨S', hg, hi3⟩ := hp3
          obtain ⟨hr, hl4, hk4, ht4, hn4⟩ := fin none S' hg
          exact ⟨_, _, hr, _, ht4, .inl ⟨rfl, S', rfl, hI _ _ _ _ _ (hRo R hR) hi3 ((tch_putObj _ _ _).mono (by simp)), hn4, hl4, hk4⟩⟩
        | ret =>
          obtain ⟨S', hg, hi3⟩ := hp3
          obtain ⟨hr, hl4, hk4, ht4, hn4⟩ := fin (some .ret) S' hg
          exact ⟨_, _, hr, _, ht4, .inr ⟨rfl, S', rfl, hIx _ _ _ _ _ (hRo R hR) hi3 ((tch_putObj _ _ _).mono (by simp)), hn4, hl4, hk4⟩⟩
        | _ => exact hp3.elim
      | _ => exact he.elim
end Go.Sx
end

section
/- canon.search: the orders by which labels come to stand as some do. NOT FINISHED (session 8): the statement. -/
namespace Go.Gr
/-- orders that begin with 'ah', k places to go -/
def ordL (fr to : List Int) : Nat → List Nat → List (List Int)
  | 0, ah => [ah.map fun j : Nat => (j : Int)]
  | k + 1, ah => ((List.range to.length).filter fun j => !(ah.contains j) && decide (to[j]? = fr[ah.length]?)).flatMap fun j => ordL fr to k (ah ++ [j])
/-- .. those whose next place is below m -/
def ordU (fr to : List Int) (k m : Nat) (ah : List Nat) : List (List Int) := ((List.range m).filter fun j => !(ah.contains j) && decide (to[j]? = fr[ah.length]?)).flatMap fun j => ordL fr to k (ah ++ [j])
theorem ordU_step (fr to : List Int) (k m : Nat) (ah : List Nat) : ordU fr to k (m + 1) ah = ordU fr to k m ah ++ if !(ah.contains m) && decide (to[m]? = fr[ah.length]?) then ordL fr to k (ah ++ [m]) else [] := by
  unfold ordU
  rw [List.range_succ, List.filter_append, List.flatMap_append]
  congr 1
  have e : ∀ (p : Nat → Bool) (f : Nat → List (List Int)), ([m].filter p).flatMap f = if p m then f m else [] := fun p f => by
    cases h : p m with
    | true => rw [List.filter_cons_of_pos h]; simp
    | false => rw [List.filter_cons_of_neg (by rw [h]; decide)]; simp
  rw [e]
theorem ordU_all (fr to : List Int) (k : Nat) (ah : List Nat) : ordU fr to k to.length ah = ordL fr to (k + 1) ah := rfl
end Go.Gr
namespace Go.Proofs.YteigfapjiekdnaaGreatDoor
open Go.Sx Go.RowKit Go.Reg Go.Gr

set_option maxRecDepth 100000
/-- what search owes: whatever has come (pre), it goes on by all orders that begin so, or has been told to stop; S: the blocks that a round may turn -/
def SearchAt (fr to : List Int) (k : Nat) : Prop :=
  ∀ (ah : List Nat), ah.length + k = fr.length → (∀ j ∈ ah, j < to.length) → fr.length ≤ 8 → to.length ≤ 8 →
  ∀ (l : Nat) (XS : List (List Int)) (J Jx : List Nat → List (List Int) → World → Prop),
    (∀ S pre A B, J S pre A → Tch [] A B → J S pre B) →
    (∀ S pre x v A, (∀ b ∈ S, b < A.heap.size) → J S pre A → pre ++ [x] <+: XS → Rep S A (dInts x) v → YieldAt Fence.wide 2 Tryz.prog l #[v] A fun e B =>
      ∃ S', Grow S A S' B ∧ ((e = .returned (.bool true) ∧ J S' (pre ++ [x]) B) ∨ (e = .returned (.bool false) ∧ Jx S' (pre ++ [x]) B))) →
  ∀ (S : List Nat) (A : World) (vf vt va : Value) (pre : List (List Int)), (∀ b ∈ S, b < A.heap.size) → Glob C1 S A → Rep S A (dInts fr) vf → Rep S A (dInts to) vt → Rep S A (dInts (ah.map fun j : Nat => (j : Int))) va →
    J S pre A → pre ++ ordL fr to k ah <+: XS →
    CallsIn Fence.wide 3 Tryz.prog 116 #[vf, vt, va, .int .u64 (maskOf ah : Nat), .func (.yield l) #[] #[]] A fun e B =>
      ∃ S', Grow S A S' B ∧ ((e = .returned (.bool true) ∧ J S' (pre ++ ordL fr to k ah) B) ∨ (e = .returned (.bool false) ∧ ∃ q, q <+: ordL fr to k ah ∧ Jx S' (pre ++ q) B))
end Go.Proofs.YteigfapjiekdnaaGreatDoor
end
