/- What a walk holds of memory: owned things by numbers, all else untouched. -/
import Derived.Test.YtlpjdngjmknniaaDoorSxa
namespace Go.Sx
open Go Go.RowKit Go.Reg

/-- what a slot of the frame holds -/
inductive Dat where
  | d (x : Da)
  | own (i : Nat)
  | at_ (i off : Nat)
  | el (i k n off : Nat)
  | agg (ds : List Dat)
  | tuple (ds : List Dat)
  | iface (t : TypeId) (d : Dat)
  | func (fn : Fn) (first captured : List Dat)

def toVD : Dat → List Value → Value
  | .d x, cs => toV x cs
  | .agg _, cs => .agg cs.toArray
  | _, cs => cs.headD undef

mutual
def RepD (η : Nat → Value) (I O : List Nat) (w : World) : Dat → List Value → Prop
  | .d x, cs => RepC O w x cs
  | .own i, cs => i ∈ I ∧ cs = [η i]
  | .at_ i off, cs => i ∈ I ∧ ∃ b, η i = .pointer (some ⟨b, 0, none⟩) ∧ cs = [.pointer (some ⟨b, off, none⟩)]
  | .el i k n off, cs => i ∈ I ∧ ∃ b l c, η i = .slice (some ⟨b, 0, none⟩) l c ∧ cs = [.pointer (some ⟨b, n * k + off, none⟩)]
  | .agg ds, cs => RepDs η I O w ds cs
  | .tuple ds, cs => ∃ css, RepDss η I O w ds css ∧ cs = [.tuple (List.zipWith toVD ds css).toArray]
  | .iface t d, cs => ∃ c, RepD η I O w d c ∧ cs = [.iface t (toVD d c)]
  | .func fn f c, cs => ∃ fs cs', RepDss η I O w f fs ∧ RepDss η I O w c cs' ∧ cs = [.func fn (List.zipWith toVD f fs).toArray (List.zipWith toVD c cs').toArray]
def RepDs (η : Nat → Value) (I O : List Nat) (w : World) : List Dat → List Value → Prop
  | [], cs => cs = []
  | d :: ds, cs => ∃ c1 c2, cs = c1 ++ c2 ∧ RepD η I O w d c1 ∧ RepDs η I O w ds c2
def RepDss (η : Nat → Value) (I O : List Nat) (w : World) : List Dat → List (List Value) → Prop
  | [], css => css = []
  | d :: ds, css => ∃ c1 c2, css = c1 :: c2 ∧ RepD η I O w d c1 ∧ RepDss η I O w ds c2
end

mutual
/-- the mentions of i: x in their place -/
def kill (i : Nat) (x : Da) : Dat → Dat
  | .own j => match Nat.beq j i with | true => .d x | false => .own j
  | .at_ j o => match Nat.beq j i with | true => .d .undef | false => .at_ j o
  | .el j k n o => match Nat.beq j i with | true => .d .undef | false => .el j k n o
  | .agg ds => .agg (kills i x ds)
  | .tuple ds => .tuple (kills i x ds)
  | .iface t d => .iface t (kill i x d)
  | .func fn f c => .func fn (kills i x f) (kills i x c)
  | .d x => .d x
def kills (i : Nat) (x : Da) : List Dat → List Dat
  | [] => []
  | d :: ds => kill i x d :: kills i x ds
end

mutual
theorem RepD.later {η η' : Nat → Value} {I I' O O' : List Nat} {w w' : World} (h : Later O w O' w') (hI : ∀ i ∈ I, i ∈ I' ∧ η' i = η i) : ∀ (d : Dat) (cs : List Value), RepD η I O w d cs → RepD η' I' O' w' d cs
  | .d x, cs, r => RepC.later h x cs r
  | .own i, cs, r => by simp only [RepD] at r ⊢; exact ⟨(hI i r.1).1, by rw [(hI i r.1).2]; exact r.2⟩
  | .at_ i off, cs, r => by simp only [RepD] at r ⊢; exact ⟨(hI i r.1).1, by rw [(hI i r.1).2]; exact r.2⟩
  | .el i k n off, cs, r => by simp only [RepD] at r ⊢; exact ⟨(hI i r.1).1, by rw [(hI i r.1).2]; exact r.2⟩
  | .agg ds, cs, r => by simp only [RepD] at r ⊢; exact RepDs.later h hI ds cs r
  | .tuple ds, cs, r => by simp only [RepD] at r ⊢; obtain ⟨css, h1, h2⟩ := r; exact ⟨css, RepDss.later h hI ds css h1, h2⟩
  | .iface t d, cs, r => by simp only [RepD] at r ⊢; obtain ⟨c, h1, h2⟩ := r; exact ⟨c, RepD.later h hI d c h1, h2⟩
  | .func fn f c, cs, r => by
    simp only [RepD] at r ⊢
    obtain ⟨fs, cs', h1, h2, h3⟩ := r
    exact ⟨fs, cs', RepDss.later h hI f fs h1, RepDss.later h hI c cs' h2, h3⟩
theorem RepDs.later {η η' : Nat → Value} {I I' O O' : List Nat} {w w' : World} (h : Later O w O' w') (hI : ∀ i ∈ I, i ∈ I' ∧ η' i = η i) : ∀ (ds : List Dat) (cs : List Value), RepDs η I O w ds cs → RepDs η' I' O' w' ds cs
  | [], cs, r => r
  | d :: ds, cs, r => by
    simp only [RepDs] at r ⊢
    obtain ⟨c1, c2, h1, h2, h3⟩ := r
    exact ⟨c1, c2, h1, RepD.later h hI d c1 h2, RepDs.later h hI ds c2 h3⟩
theorem RepDss.later {η η' : Nat → Value} {I I' O O' : List Nat} {w w' : World} (h : Later O w O' w') (hI : ∀ i ∈ I, i ∈ I' ∧ η' i = η i) : ∀ (ds : List Dat) (cs : List (List Value)), RepDss η I O w ds cs → RepDss η' I' O' w' ds cs
  | [], cs, r => r
  | d :: ds, cs, r => by
    simp only [RepDss] at r ⊢
    obtain ⟨c1, c2, h1, h2, h3⟩ := r
    exact ⟨c1, c2, h1, RepD.later h hI d c1 h2, RepDss.later h hI ds c2 h3⟩
end

theorem beq_cases (j i : Nat) : (Nat.beq j i = true ∧ j = i) ∨ (Nat.beq j i = false ∧ j ≠ i) := by
  cases hb : Nat.beq j i
  · exact .inr ⟨rfl, fun e => by subst e; simp at hb⟩
  · exact .inl ⟨rfl, Nat.eq_of_beq_eq_true hb⟩

/-- a datum of one cell -/
def Da.one : Da → Bool
  | .agg _ => false
  | _ => true
theorem toV_one {x : Da} (h : x.one = true) (cs : List Value) : toV x cs = cs.headD undef := by
  cases x <;> first | rfl | cases h

theorem toVD_kill {i : Nat} {x : Da} (hx : x.one = true) (d : Dat) (cs : List Value) : toVD (kill i x d) cs = toVD d cs := by
  cases d with
  | own j => rcases beq_cases j i with ⟨h, _⟩ | ⟨h, _⟩ <;> simp only [kill, h, toVD, toV_one hx]
  | at_ j o => rcases beq_cases j i with ⟨h, _⟩ | ⟨h, _⟩ <;> simp only [kill, h, toVD, toV]
  | el j k n o => rcases beq_cases j i with ⟨h, _⟩ | ⟨h, _⟩ <;> simp only [kill, h, toVD, toV]
  | _ => rfl
theorem zip_kills {i : Nat} {x : Da} (hx : x.one = true) : ∀ (ds : List Dat) (css : List (List Value)), List.zipWith toVD (kills i x ds) css = List.zipWith toVD ds css
  | [], css => rfl
  | d :: ds, [] => by simp [kills]
  | d :: ds, c :: css => by simp only [kills, List.zipWith_cons_cons]; rw [toVD_kill hx d c, zip_kills hx ds css]

section
variable {η η' : Nat → Value} {I I' O O' : List Nat} {w w' : World} {i : Nat} {x : Da}
mutual
theorem RepD.kill (hx : x.one = true) (hl : Later O w O' w') (hI : ∀ j ∈ I, j ≠ i → j ∈ I' ∧ η' j = η j) (hr : RepC O' w' x [η i]) : ∀ (d : Dat) (cs : List Value), RepD η I O w d cs → RepD η' I' O' w' (kill i x d) cs
  | .d y, cs, r => RepC.later hl y cs r
  | .own j, cs, r => by
    simp only [RepD] at r
    rcases beq_cases j i with ⟨h, e⟩ | ⟨h, e⟩
    · subst e; simp only [Sx.kill, h, RepD]; rw [r.2]; exact hr
    · simp only [Sx.kill, h, RepD]; exact ⟨(hI j r.1 e).1, by rw [(hI j r.1 e).2]; exact r.2⟩
  | .at_ j off, cs, r => by
    simp only [RepD] at r
    rcases beq_cases j i with ⟨h, e⟩ | ⟨h, e⟩
    · simp only [Sx.kill, h, RepD, RepC]; obtain ⟨_, b, _, h⟩ := r; exact ⟨_, h⟩
    · simp only [Sx.kill, h, RepD]; exact ⟨(hI j r.1 e).1, by rw [(hI j r.1 e).2]; exact r.2⟩
  | .el j k n off, cs, r => by
    simp only [RepD] at r
    rcases beq_cases j i with ⟨h, e⟩ | ⟨h, e⟩
    · simp only [Sx.kill, h, RepD, RepC]; obtain ⟨_, b, l, c, _, h⟩ := r; exact ⟨_, h⟩
    · simp only [Sx.kill, h, RepD]; exact ⟨(hI j r.1 e).1, by rw [(hI j r.1 e).2]; exact r.2⟩
  | .agg ds, cs, r => by simp only [RepD, Sx.kill] at r ⊢; exact RepDs.kill hx hl hI hr ds cs r
  | .tuple ds, cs, r => by simp only [RepD, Sx.kill] at r ⊢; obtain ⟨css, h1, h2⟩ := r; exact ⟨css, RepDss.kill hx hl hI hr ds css h1, by rw [zip_kills hx]; exact h2⟩
  | .iface t d, cs, r => by simp only [RepD, Sx.kill] at r ⊢; obtain ⟨c, h1, h2⟩ := r; exact ⟨c, RepD.kill hx hl hI hr d c h1, by rw [toVD_kill hx]; exact h2⟩
  | .func fn f c, cs, r => by
    simp only [RepD, Sx.kill] at r ⊢
    obtain ⟨fs, cs', h1, h2, h3⟩ := r
    exact ⟨fs, cs', RepDss.kill hx hl hI hr f fs h1, RepDss.kill hx hl hI hr c cs' h2, by rw [zip_kills hx, zip_kills hx]; exact h3⟩
theorem RepDs.kill (hx : x.one = true) (hl : Later O w O' w') (hI : ∀ j ∈ I, j ≠ i → j ∈ I' ∧ η' j = η j) (hr : RepC O' w' x [η i]) : ∀ (ds : List Dat) (cs : List Value), RepDs η I O w ds cs → RepDs η' I' O' w' (kills i x ds) cs
  | [], cs, r => r
  | d :: ds, cs, r => by
    simp only [RepDs, kills] at r ⊢
    obtain ⟨c1, c2, h1, h2, h3⟩ := r
    exact ⟨c1, c2, h1, RepD.kill hx hl hI hr d c1 h2, RepDs.kill hx hl hI hr ds c2 h3⟩
theorem RepDss.kill (hx : x.one = true) (hl : Later O w O' w') (hI : ∀ j ∈ I, j ≠ i → j ∈ I' ∧ η' j = η j) (hr : RepC O' w' x [η i]) : ∀ (ds : List Dat) (cs : List (List Value)), RepDss η I O w ds cs → RepDss η' I' O' w' (kills i x ds) cs
  | [], cs, r => r
  | d :: ds, cs, r => by
    simp only [RepDss, kills] at r ⊢
    obtain ⟨c1, c2, h1, h2, h3⟩ := r
    exact ⟨c1, c2, h1, RepD.kill hx hl hI hr d c1 h2, RepDss.kill hx hl hI hr ds c2 h3⟩
end
end

/-- an owned thing -/
inductive Own where
  | cells (T : TypeId) (ds : List Dat)
  | slice (E k : Nat) (ds : List Da)
  | abs (R : World → Value → List Nat → Prop) (keep : ∀ (S : List Nat) w w' v F, R w v F → Tch S w w' → (∀ x ∈ F, x ∉ S) → R w' v F) (lt : ∀ w v F, R w v F → ∀ x ∈ F, x < w.heap.size) (one : ∀ w v F, R w v F → v.oneCell' = true)

def Own.holds (η : Nat → Value) (I O : List Nat) (w : World) : Own → Value → List Nat → Prop
  | .cells T ds, v, F => ∃ b cs, v = .pointer (some ⟨b, 0, none⟩) ∧ F = [b] ∧ Blk w b T cs ∧ RepDs η I O w ds cs
  | .slice E k ds, v, F => ∃ css, Sl E k id w v css ∧ F = v.ownBlock.toList ∧ RepCss O w ds css ∧ (∀ x ∈ css, RowOk k x)
  | .abs R _ _ _, v, F => R w v F

theorem Own.holds.lt {η : Nat → Value} {I O : List Nat} {w : World} {o : Own} {v : Value} {F : List Nat} (h : o.holds η I O w v F) : ∀ b ∈ F, b < w.heap.size := by
  cases o with
  | cells T ds =>
    obtain ⟨b, cs, rfl, rfl, hb, _⟩ := h
    intro x hx; simp at hx; subst hx; exact hb.lt
  | slice E k ds =>
    obtain ⟨css, hs, rfl, _⟩ := h
    intro x hx; exact hs.lt (by simpa using hx)
  | abs R k lt _ => exact lt _ _ _ h

theorem Own.holds.later {η η' : Nat → Value} {I I' O O' S : List Nat} {w w' : World} {o : Own} {v : Value} {F : List Nat} (h : o.holds η I O w v F) (hl : Later O w O' w') (hI : ∀ i ∈ I, i ∈ I' ∧ η' i = η i) (ht : Tch S w w') (hF : ∀ x ∈ F, x ∉ S) : o.holds η' I' O' w' v F := by
  cases o with
  | cells T ds =>
    obtain ⟨b, cs, rfl, rfl, hb, hr⟩ := h
    exact ⟨b, cs, rfl, rfl, hb.keep ht (hF b (by simp)), RepDs.later hl hI _ _ hr⟩
  | slice E k ds =>
    obtain ⟨css, hs, rfl, hr, hk⟩ := h
    exact ⟨css, hs.keep ht (fun b hb => hF b (by simpa using hb)), rfl, RepCss.later hl _ _ hr, hk⟩
  | abs R k lt _ => exact k S w w' v F h ht hF

abbrev Sg := List (Nat × Own)
abbrev Fr := List (Nat × Dat)

def ids (σ : Sg) : List Nat := σ.map (·.1)
def blocks (φ : Nat → List Nat) (σ : Sg) : List Nat := σ.flatMap fun p => φ p.1
def killO (i : Nat) (x : Da) : Own → Own
  | .cells T ds => .cells T (kills i x ds)
  | .slice E k ds => .slice E k ds
  | .abs R h l o => .abs R h l o

/-- what stays the same in a proof: the program, its globals -/
structure Cx where
  P : Program
  Γ : List (Nat × Da)

/-- memory: the owned things σ, of which η tells the values and φ the blocks; the blocks B are nobody's to look at; since w0 no block has turned but those of S -/
structure Mem (C : Cx) (B S : List Nat) (w0 : World) (σ : Sg) (η : Nat → Value) (φ : Nat → List Nat) (w : World) : Prop where
  tch : Tch S w0 w
  own : ∀ p ∈ σ, p.2.holds η (ids σ) (B ++ blocks φ σ) w (η p.1) (φ p.1)
  nodup : (ids σ).Nodup
  disj : ∀ i ∈ ids σ, ∀ j ∈ ids σ, i ≠ j → ∀ b ∈ φ i, b ∉ φ j
  new : ∀ i ∈ ids σ, ∀ b ∈ φ i, (b ∈ S ∧ b ∉ B) ∨ w0.heap.size ≤ b
  out : ∀ b ∈ B, b < w0.heap.size
  glob : ∀ g ∈ C.Γ, Rep (B ++ blocks φ σ) w (.ref g.2) (.pointer (some ⟨g.1, 0, none⟩))

def get : Fr → Nat → Dat
  | [], _ => .d .undef
  | (t, d) :: fr, s => match Nat.beq t s with
    | true => d
    | false => get fr s

/-- a frame's slots -/
def FrRep (η : Nat → Value) (I O : List Nat) (w : World) (fr : Fr) (a : Act) : Prop := ∀ t, ∃ cs, RepD η I O w (get fr t) cs ∧ a.tmps.getD t undef = toVD (get fr t) cs

structure Models (C : Cx) (B S : List Nat) (w0 : World) (n : Nat) (fr : Fr) (σ : Sg) (η : Nat → Value) (φ : Nat → List Nat) (a : Act) (w : World) : Prop where
  mem : Mem C B S w0 σ η φ w
  fr : FrRep η (ids σ) (B ++ blocks φ σ) w fr a
  defers : a.defers = []
  size : a.tmps.size = n

theorem Mem.lt {C : Cx} {B S : List Nat} {w0 w : World} {σ : Sg} {η : Nat → Value} {φ : Nat → List Nat} (h : Mem C B S w0 σ η φ w) : ∀ b ∈ B ++ blocks φ σ, b < w.heap.size := by
  intro b hb
  rcases List.mem_append.1 hb with hb | hb
  · exact Nat.lt_of_lt_of_le (h.out b hb) h.tch.size
  · obtain ⟨p, hp, hb⟩ := List.mem_flatMap.1 hb
    exact (h.own p hp).lt b hb

theorem mem_ids {σ : Sg} {p : Nat × Own} (h : p ∈ σ) : p.1 ∈ ids σ := List.mem_map_of_mem h
theorem mem_blocks {φ : Nat → List Nat} {σ : Sg} {i : Nat} {b : Nat} (h : i ∈ ids σ) (hb : b ∈ φ i) : b ∈ blocks φ σ := by
  obtain ⟨p, hp, rfl⟩ := List.mem_map.1 h
  exact List.mem_flatMap.2 ⟨p, hp, hb⟩

theorem RepC.undef_ex (O : List Nat) (w : World) (v : Value) : RepC O w .undef [v] := by simp [RepC]

theorem FrRep.put {η : Nat → Value} {I O : List Nat} {w : World} {fr : Fr} {a : Act} (h : FrRep η I O w fr a) {t : Nat} (ht : t < a.tmps.size) {d : Dat} {v : Value} {cs : List Value} (hd : RepD η I O w d cs) (hv : v = toVD d cs) : FrRep η I O w ((t, d) :: fr) (a.put (some t) v) := by
  intro s
  simp only [get, Act.put]
  by_cases hs : t = s
  · subst hs
    simp only [Nat.beq_refl]
    exact ⟨cs, hd, by simp [Array.getD, ht, hv]⟩
  · have : Nat.beq t s = false := by
      cases hb : Nat.beq t s
      · rfl
      · exact absurd (Nat.eq_of_beq_eq_true hb) hs
    rw [this]
    obtain ⟨c, h1, h2⟩ := h s
    refine ⟨c, h1, ?_⟩
    rw [← h2]
    simp [Array.getElem?_setIfInBounds_ne hs]
theorem FrRep.later {η η' : Nat → Value} {I I' O O' : List Nat} {w w' : World} {fr : Fr} {a : Act} (h : FrRep η I O w fr a) (hl : Later O w O' w') (hI : ∀ i ∈ I, i ∈ I' ∧ η' i = η i) : FrRep η' I' O' w' fr a := by
  intro t
  obtain ⟨cs, h1, h2⟩ := h t
  exact ⟨cs, RepD.later hl hI _ _ h1, h2⟩

def killF (i : Nat) (x : Da) : Fr → Fr
  | [] => []
  | (t, d) :: fr => (t, kill i x d) :: killF i x fr
theorem get_killF (i : Nat) (x : Da) : ∀ (fr : Fr) (t : Nat), get (killF i x fr) t = kill i x (get fr t)
  | [], t => rfl
  | (s, d) :: fr, t => by
    simp only [killF, get]
    cases Nat.beq s t
    · exact get_killF i x fr t
    · rfl
theorem FrRep.kill {η η' : Nat → Value} {I I' O O' : List Nat} {w w' : World} {fr : Fr} {a : Act} {i : Nat} {x : Da} (h : FrRep η I O w fr a) (hx : x.one = true) (hl : Later O w O' w') (hI : ∀ j ∈ I, j ≠ i → j ∈ I' ∧ η' j = η j) (hr : RepC O' w' x [η i]) : FrRep η' I' O' w' (killF i x fr) a := by
  intro t
  obtain ⟨cs, h1, h2⟩ := h t
  rw [get_killF]
  exact ⟨cs, RepD.kill hx hl hI hr _ _ h1, by rw [toVD_kill hx]; exact h2⟩
theorem Own.holds.kill {η η' : Nat → Value} {I I' O O' S : List Nat} {w w' : World} {o : Own} {v : Value} {F : List Nat} {i : Nat} {x : Da} (h : o.holds η I O w v F) (hx : x.one = true) (hl : Later O w O' w') (hI : ∀ j ∈ I, j ≠ i → j ∈ I' ∧ η' j = η j) (hr : RepC O' w' x [η i]) (ht : Tch S w w') (hF : ∀ y ∈ F, y ∉ S) : (killO i x o).holds η' I' O' w' v F := by
  cases o with
  | cells T ds =>
    obtain ⟨b, cs, rfl, rfl, hb, hd⟩ := h
    exact ⟨b, cs, rfl, rfl, hb.keep ht (hF b (by simp)), RepDs.kill hx hl hI hr _ _ hd⟩
  | slice E k ds =>
    obtain ⟨css, hs, rfl, hd, hk⟩ := h
    exact ⟨css, hs.keep ht (fun b hb => hF b (by simpa using hb)), rfl, RepCss.later hl _ _ hd, hk⟩
  | abs R k lt _ => exact k S w w' v F h ht hF

end Go.Sx
