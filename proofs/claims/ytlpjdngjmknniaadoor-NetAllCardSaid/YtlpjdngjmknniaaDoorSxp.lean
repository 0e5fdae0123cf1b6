/- Short rules for what a walk owes. -/
import Derived.Test.YtlpjdngjmknniaaDoorSxo
namespace Go.Sx
open Go Go.RowKit Go.Reg
theorem if_yes {p A B : Prop} (hp : p) (h : A) : (p → A) ∧ (¬ p → B) := ⟨fun _ => h, fun hn => absurd hp hn⟩
theorem if_no {p A B : Prop} (hp : ¬ p) (h : B) : (p → A) ∧ (¬ p → B) := ⟨fun h => absurd h hp, fun _ => h⟩
theorem if_both {p A B : Prop} (h : p → A) (h2 : ¬ p → B) : (p → A) ∧ (¬ p → B) := ⟨h, h2⟩
theorem wrap64_in {e : Int} (h : -9223372036854775808 ≤ e ∧ e ≤ 9223372036854775807) : IntKind.i64.wrap e = e := IntWalk.i64_in _ h
theorem i64_is {e : Int} {K : Int → Prop} (h : -9223372036854775808 ≤ e ∧ e ≤ 9223372036854775807) (hK : K e) : ∃ n, IntKind.i64.wrap e = n ∧ K n := ⟨e, wrap64_in h, hK⟩
theorem wrap_any {k : IntKind} {e : Int} {K : Int → Prop} (hK : K (k.wrap e)) : ∃ n, k.wrap e = n ∧ K n := ⟨_, rfl, hK⟩
/-- an element of a list of data -/
theorem at_is {α : Type} {f : α → Da} {l : List α} {i : Nat} {n : Int} {x : α} {K : Nat → Da → Prop} (hn : n = i) (hx : l[i]? = some x) (hK : K i (f x)) : ∃ (j : Nat) (d : Da), n = j ∧ (l.map f)[j]? = some d ∧ K j d := ⟨i, f x, hn, by simp [hx], hK⟩
theorem at_as {α : Type} {f : α → Da} {l : List α} {i : Nat} {n : Int} {x : α} {K : Nat → Da → Prop} (hx : l[i]? = some x) (hn : n = i) (hK : K i (f x)) : ∃ (j : Nat) (d : Da), n = j ∧ (l.map f)[j]? = some d ∧ K j d := ⟨i, f x, hn, by simp [hx], hK⟩
theorem el_at {len i : Nat} {n : Int} {K : Nat → Prop} (hn : n = i) (hi : i < len) (hK : K i) : ∃ j : Nat, n = j ∧ j < len ∧ K j := ⟨i, hn, hi, hK⟩
theorem el_is {ds : List Da} {i : Nat} {d : Da} {K : Da → Prop} (h : ds[i]? = some d) (hK : K d) : ∃ d, ds[i]? = some d ∧ K d := ⟨d, h, hK⟩
theorem int_is {k : IntKind} {a b : Int} (h : a = b) : Dat.d (.int k a) = Dat.d (.int k b) := by rw [h]
theorem slice_is {E k : Nat} {a b : List Da} (h : a = b) : some (Own.slice E k a) = some (Own.slice E k b) := by rw [h]
theorem most_ok {a : Nat} {K : Prop} (h : a ≤ 4294967296) (hK : K) : a ≤ mostLen ∧ K := ⟨h, hK⟩

/-! ### loops at whose head some owned things are let go -/
def natIn (i : Nat) : List Nat → Bool
  | [] => false
  | j :: l => match Nat.beq j i with
    | true => true
    | false => natIn i l
theorem natIn_mem {i : Nat} : ∀ {l : List Nat}, natIn i l = true → i ∈ l
  | [], h => by cases h
  | j :: l, h => by
    simp only [natIn] at h
    rcases beq_cases j i with ⟨hb, e⟩ | ⟨hb, e⟩
    · simp [e]
    · rw [hb] at h; exact List.mem_cons_of_mem _ (natIn_mem h)
mutual
/-- every mention is one of J -/
def within (J : List Nat) : Dat → Bool
  | .d _ => true
  | .own i => natIn i J
  | .at_ i _ => natIn i J
  | .el i _ _ _ => natIn i J
  | .agg ds => withins J ds
  | .tuple ds => withins J ds
  | .iface _ d => within J d
  | .func _ f c => withins J f && withins J c
def withins (J : List Nat) : List Dat → Bool
  | [] => true
  | d :: ds => within J d && withins J ds
end
section
variable {η : Nat → Value} {I J O O' : List Nat} {w : World}
mutual
theorem RepD.only (hl : Later O w O' w) : ∀ (d : Dat) (cs : List Value), within J d = true → RepD η I O w d cs → RepD η J O' w d cs
  | .d x, cs, _, r => RepC.later hl x cs r
  | .own i, cs, h, r => by simp only [RepD] at r ⊢; exact ⟨natIn_mem h, r.2⟩
  | .at_ i off, cs, h, r => by simp only [RepD] at r ⊢; exact ⟨natIn_mem h, r.2⟩
  | .el i k n off, cs, h, r => by simp only [RepD] at r ⊢; exact ⟨natIn_mem h, r.2⟩
  | .agg ds, cs, h, r => by simp only [RepD] at r ⊢; exact RepDs.only hl ds cs (by simpa only [within] using h) r
  | .tuple ds, cs, h, r => by simp only [RepD] at r ⊢; obtain ⟨css, h1, h2⟩ := r; exact ⟨css, RepDss.only hl ds css (by simpa only [within] using h) h1, h2⟩
  | .iface t d, cs, h, r => by simp only [RepD] at r ⊢; obtain ⟨c, h1, h2⟩ := r; exact ⟨c, RepD.only hl d c (by simpa only [within] using h) h1, h2⟩
  | .func fn f c, cs, h, r => by
    simp only [RepD] at r ⊢
    simp only [within, Bool.and_eq_true] at h
    obtain ⟨fs, cs', h1, h2, h3⟩ := r
    exact ⟨fs, cs', RepDss.only hl f fs h.1 h1, RepDss.only hl c cs' h.2 h2, h3⟩
theorem RepDs.only (hl : Later O w O' w) : ∀ (ds : List Dat) (cs : List Value), withins J ds = true → RepDs η I O w ds cs → RepDs η J O' w ds cs
  | [], cs, _, r => r
  | d :: ds, cs, h, r => by
    simp only [RepDs] at r ⊢
    simp only [withins, Bool.and_eq_true] at h
    obtain ⟨c1, c2, h1, h2, h3⟩ := r
    exact ⟨c1, c2, h1, RepD.only hl d c1 h.1 h2, RepDs.only hl ds c2 h.2 h3⟩
theorem RepDss.only (hl : Later O w O' w) : ∀ (ds : List Dat) (cs : List (List Value)), withins J ds = true → RepDss η I O w ds cs → RepDss η J O' w ds cs
  | [], cs, _, r => r
  | d :: ds, cs, h, r => by
    simp only [RepDss] at r ⊢
    simp only [withins, Bool.and_eq_true] at h
    obtain ⟨c1, c2, h1, h2, h3⟩ := r
    exact ⟨c1, c2, h1, RepD.only hl d c1 h.1 h2, RepDss.only hl ds c2 h.2 h3⟩
end
end
def withinO (J : List Nat) : Own → Bool
  | .cells _ ds => withins J ds
  | _ => true
/-- the things of the first are those of the second -/
def SubS : Sg → Sg → Prop
  | [], _ => True
  | (i, o) :: Z, σ => sget i σ = some o ∧ SubS Z σ
def onceB : List Nat → Bool
  | [] => true
  | i :: l => !(natIn i l) && onceB l
def withinF (J : List Nat) : Fr → Bool
  | [] => true
  | (_, d) :: fr => within J d && withinF J fr
def withinS (J : List Nat) : Sg → Bool
  | [] => true
  | (_, o) :: Z => withinO J o && withinS J Z
/-- no mention of what is not there -/
def okZ (fr : Fr) (Z : Sg) : Bool := onceB (ids Z) && withinF (ids Z) fr && withinS (ids Z) Z

section
variable {C : Cx} {B S : List Nat} {w0 w : World} {n : Nat} {fr : Fr} {σ Z : Sg} {η : Nat → Value} {φ : Nat → List Nat} {a : Act}
theorem natIn_not {i : Nat} : ∀ {l : List Nat}, natIn i l = false → i ∉ l
  | [], _ => by simp
  | j :: l, h => by
    simp only [natIn] at h
    rcases beq_cases j i with ⟨hb, e⟩ | ⟨hb, e⟩
    · rw [hb] at h; cases h
    · rw [hb] at h; simp only [List.mem_cons, not_or]; exact ⟨fun e' => e e'.symm, natIn_not h⟩
theorem onceB_nodup : ∀ {l : List Nat}, onceB l = true → l.Nodup
  | [], _ => by simp
  | i :: l, h => by
    simp only [onceB, Bool.and_eq_true, Bool.not_eq_true'] at h
    exact List.nodup_cons.2 ⟨natIn_not h.1, onceB_nodup h.2⟩
theorem SubS.mem : ∀ {Z : Sg}, SubS Z σ → ∀ p ∈ Z, p ∈ σ
  | [], _, p, hp => by cases hp
  | (i, o) :: Z, h, p, hp => by
    rcases List.mem_cons.1 hp with rfl | hp
    · exact sget_mem h.1
    · exact SubS.mem h.2 p hp
theorem SubS.refl' : ∀ {Z : Sg}, (ids Z).Nodup → SubS Z Z := by
  intro Z hn
  have key : ∀ (Y : Sg), (∀ p ∈ Y, sget p.1 Z = some p.2) → SubS Y Z := by
    intro Y
    induction Y with
    | nil => intro _; trivial
    | cons p Y ih => intro h; exact ⟨h p (by simp), ih (fun q hq => h q (by simp [hq]))⟩
  refine key Z ?_
  clear key
  induction Z with
  | nil => intro p hp; cases hp
  | cons q Z ih =>
    obtain ⟨j, o⟩ := q
    intro p hp
    have hn' : j ∉ ids Z ∧ (ids Z).Nodup := List.nodup_cons.1 hn
    rcases List.mem_cons.1 hp with rfl | hp
    · simp [sget]
    · have hne : j ≠ p.1 := fun e => hn'.1 (e ▸ mem_ids hp)
      simp only [sget]
      rcases beq_cases j p.1 with ⟨_, e⟩ | ⟨hb, _⟩
      · exact absurd e hne
      · rw [hb]; exact ih hn'.2 p hp
theorem get_within {J : List Nat} : ∀ {fr : Fr}, withinF J fr = true → ∀ t, within J (get fr t) = true
  | [], _, t => rfl
  | (s, d) :: fr, h, t => by
    simp only [withinF, Bool.and_eq_true] at h
    simp only [get]
    rcases beq_cases s t with ⟨hb, _⟩ | ⟨hb, _⟩ <;> rw [hb]
    · exact h.1
    · exact get_within h.2 t
theorem withinS_mem {J : List Nat} : ∀ {Z : Sg}, withinS J Z = true → ∀ p ∈ Z, withinO J p.2 = true
  | [], _, p, hp => by cases hp
  | (i, o) :: Z, h, p, hp => by
    simp only [withinS, Bool.and_eq_true] at h
    rcases List.mem_cons.1 hp with rfl | hp
    · exact h.1
    · exact withinS_mem h.2 p hp
theorem Own.holds.only {η : Nat → Value} {I J O O' : List Nat} {w : World} {o : Own} {v : Value} {F : List Nat} (hl : Later O w O' w) (h : withinO J o = true) (r : o.holds η I O w v F) : o.holds η J O' w v F := by
  cases o with
  | cells T ds =>
    obtain ⟨b, cs, h1, h2, h3, h4⟩ := r
    exact ⟨b, cs, h1, h2, h3, RepDs.only hl _ _ h h4⟩
  | slice E k ds =>
    obtain ⟨css, h1, h2, h3, h4⟩ := r
    exact ⟨css, h1, h2, RepCss.later hl _ _ h3, h4⟩
  | abs R k lt one => exact r
theorem Models.only (hM : Models C B S w0 n fr σ η φ a w) (hz : okZ fr Z = true) (hs : SubS Z σ) : Models C B S w0 n fr Z η φ a w := by
  simp only [okZ, Bool.and_eq_true] at hz
  obtain ⟨⟨h1, h2⟩, h3⟩ := hz
  have hmem := hs.mem
  have hsub : ∀ i ∈ ids Z, i ∈ ids σ := fun i hi => by
    obtain ⟨p, hp, rfl⟩ := List.mem_map.1 hi
    exact mem_ids (hmem p hp)
  have hl : Later (B ++ blocks φ σ) w (B ++ blocks φ Z) w := by
    refine ⟨Nat.le_refl _, fun _ _ _ => rfl, fun b hn _ hm => ?_⟩
    rcases List.mem_append.1 hm with hm | hm
    · exact hn (List.mem_append_left _ hm)
    · obtain ⟨p, hp, hb⟩ := List.mem_flatMap.1 hm
      exact hn (List.mem_append_right _ (mem_blocks (mem_ids (hmem p hp)) hb))
  refine ⟨⟨hM.mem.tch, fun p hp => (hM.mem.own p (hmem p hp)).only hl (withinS_mem h3 p hp), onceB_nodup h1, fun i hi j hj => hM.mem.disj i (hsub i hi) j (hsub j hj), fun i hi => hM.mem.new i (hsub i hi), hM.mem.out, fun g hg => (hM.mem.glob g hg).later hl⟩, fun t => ?_, hM.defers, hM.size⟩
  obtain ⟨cs, r1, r2⟩ := hM.fr t
  exact ⟨cs, RepD.only hl _ _ (get_within h2 t) r1, r2⟩

/-- a loop: what stands at each round's head, a number that each round lowers; what else was owned is let go -/
theorem loop_inv {ι : Type} (H : ι → Prop) (I : ι → Fr) (Z : ι → Sg) (μ : ι → Nat) (x0 : ι) {b : Code} {K : KE} (hz : ∀ x, okZ (I x) (Z x) = true) (h0 : H x0) (hI : Sub (I x0) fr) (hZ : SubS (Z x0) σ)
    (round : ∀ x, H x → CodeSem C n b (fun e fr σ => match e with | .normal => ∃ y, H y ∧ Sub (I y) fr ∧ SubS (Z y) σ ∧ μ y < μ x | e => K e fr σ) (I x) (Z x)) : CodeSem C n (.loop b) K fr σ := by
  refine codeSem_iff.2 fun B S w0 η φ a w hM => ?_
  refine wp_loop_ghost (fun m a w => ∃ x η φ, H x ∧ μ x = m ∧ Models C B S w0 n (I x) (Z x) η φ a w) (μ x0) ⟨x0, η, φ, h0, rfl, (hM.sub hI).only (hz x0) hZ⟩ ?_
  rintro m a w ⟨x, η, φ, hx, rfl, hM⟩
  refine wp_mono (codeSem_iff.1 (round x hx) B S w0 η φ a w hM) ?_
  intro e a' w' hq
  cases e with
  | normal =>
    obtain ⟨fr', σ', η', φ', hM', y, h1, h2, h3, h4⟩ := hq
    exact ⟨μ y, h4, y, η', φ', h1, rfl, (hM'.sub h2).only (hz y) h3⟩
  | exit id => exact hq
  | goto l => exact hq
  | ret => exact hq
  | panic ch => exact hq
  | outgrown => exact hq
end
end Go.Sx
