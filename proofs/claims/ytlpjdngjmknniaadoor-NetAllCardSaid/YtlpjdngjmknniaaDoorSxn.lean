/- The walk is sound: regions, code, loops, functions. -/
import Derived.Test.YtlpjdngjmknniaaDoorSxm
import Derived.Deep.LoopGhost
namespace Go.Sx
open Go Go.RowKit Go.Reg

section
variable {C : Cx} {T : Tab} {B S : List Nat} {w0 w : World} {n kd : Nat} {fr : Fr} {σ : Sg} {η : Nat → Value} {φ : Nat → List Nat} {a : Act} {v : Value} {K : Fr → Sg → Prop} {G : List FuncId}

theorem Models.refine (h : Models C B S w0 n fr σ η φ a w) {t : Nat} {d : Dat} (hd : RD B σ η φ w d (a.tmps.getD t Go.undef)) : Models C B S w0 n ((t, d) :: fr) σ η φ a w := by
  refine ⟨h.mem, fun s => ?_, h.defers, h.size⟩
  simp only [get]
  rcases beq_cases t s with ⟨hb, e⟩ | ⟨hb, e⟩
  · subst e; rw [hb]; exact hd
  · rw [hb]; exact h.fr s

theorem wanted_none {o : Oper} {y : Nat → Option Bool} (h : o.guard = none) : Region.wanted o y = true := by unfold Region.wanted; rw [h]
theorem wanted_some {o : Oper} {y : Nat → Option Bool} {g : Nat} {b : Bool} (h : o.guard = some (g, b)) : Region.wanted o y = (y g == some b) := by unfold Region.wanted; rw [h]
theorem yielded_bool {l : List Oper} {tmps : Array Value} {g t : Nat} (h : (l[g]?).bind (·.dst) = some t) {c : Bool} (hv : tmps.getD t Go.undef = .bool c) : yielded l.toArray tmps g = some c := by
  unfold yielded
  simp only [List.getElem?_toArray, h, Option.bind_some]
  by_cases ht : t < tmps.size
  · have e : tmps[t]? = some tmps[t] := Array.getElem?_eq_getElem ht
    have e2 : tmps[t] = .bool c := by simpa [Array.getD, ht] using hv
    rw [e, e2]
  · simp [Array.getD, ht] at hv
    unfold Go.undef at hv; cases hv
theorem yielded_other {l : List Oper} {tmps : Array Value} {g t : Nat} (h : (l[g]?).bind (·.dst) = some t) (hv : tmps.getD t Go.undef = .tuple #[]) : yielded l.toArray tmps g = none := by
  unfold yielded
  simp only [List.getElem?_toArray, h, Option.bind_some]
  by_cases ht : t < tmps.size
  · have e : tmps[t]? = some tmps[t] := Array.getElem?_eq_getElem ht
    have e2 : tmps[t] = .tuple #[] := by simpa [Array.getD, ht] using hv
    rw [e, e2]
  · have e : tmps[t]? = none := by simp; omega
    rw [e]

theorem guard_ok (hM : Models C B S w0 n fr σ η φ a w) {o : Oper} {l : List Oper} {yes no : Fr → Prop} (h : sxGuard o l fr yes no) :
    (Region.wanted o (yielded l.toArray a.tmps) = true ∧ ∃ fr', Models C B S w0 n fr' σ η φ a w ∧ yes fr') ∨ (Region.wanted o (yielded l.toArray a.tmps) = false ∧ ∃ fr', Models C B S w0 n fr' σ η φ a w ∧ no fr') := by
  unfold sxGuard at h
  split at h
  · rename_i hg; exact .inl ⟨wanted_none hg, fr, hM, h⟩
  · rename_i g b hg
    split at h
    · exact h.elim
    · rename_i t ht
      have hslot := hM.fr t
      split at h
      · rename_i c hget
        rw [hget] at hslot
        have hv : a.tmps.getD t Go.undef = .bool c := RD.bool (η := η) (σ := σ) (φ := φ) (B := B) (w := w) hslot
        have hy := yielded_bool ht hv
        split at h
        · exact .inl ⟨by rw [wanted_some hg, hy]; rfl, fr, hM, h⟩
        · exact .inl ⟨by rw [wanted_some hg, hy]; rfl, fr, hM, h⟩
        · rename_i hn1 hn2
          refine .inr ⟨?_, fr, hM, h⟩
          rw [wanted_some hg, hy]
          cases c <;> cases b <;> first | rfl | exact absurd rfl (hn1 rfl) | exact absurd rfl (hn2 rfl) | exact (hn1 rfl rfl).elim | exact (hn2 rfl rfl).elim
      · rename_i p i hget
        rw [hget] at hslot
        have hv : a.tmps.getD t Go.undef = .bool (decide p) := RD.prop (η := η) (σ := σ) (φ := φ) (B := B) (w := w) hslot
        have hy := yielded_bool ht hv
        have md : ∀ c : Bool, decide p = c → Models C B S w0 n ((t, .d (.bool c)) :: fr) σ η φ a w := fun c hc => hM.refine (by rw [hv, hc]; exact rd_bool c)
        split at h
        · by_cases hp : p
          · exact .inl ⟨by rw [wanted_some hg, hy]; simp [hp], _, md true (by simp [hp]), h.1 hp⟩
          · exact .inr ⟨by rw [wanted_some hg, hy]; simp [hp], _, md false (by simp [hp]), h.2 hp⟩
        · by_cases hp : p
          · exact .inr ⟨by rw [wanted_some hg, hy]; simp [hp], _, md true (by simp [hp]), h.1 hp⟩
          · exact .inl ⟨by rw [wanted_some hg, hy]; simp [hp], _, md false (by simp [hp]), h.2 hp⟩
      · rename_i hget
        rw [hget] at hslot
        obtain ⟨cs, h1, h2⟩ := hslot
        simp only [RepD, RepC] at h1
        obtain ⟨css, _, rfl⟩ := h1
        have hv : a.tmps.getD t Go.undef = .tuple #[] := by rw [h2]; simp [toVD, toV]
        exact .inr ⟨by rw [wanted_some hg, yielded_other ht hv]; rfl, fr, hM, h⟩
      · exact h.elim

theorem rd_skip : RD B σ η φ w (.d (.tuple [])) Go.undef := ⟨[.tuple #[]], by simp only [RepD, RepC]; exact ⟨[], by simp [RepCss], by simp⟩, rfl⟩

theorem sxOps_T (hC : C.Ok T) {G : List FuncId} {l : List Oper} {ks : List Nat} (hks : ∀ (j : Nat) (o : Oper), l[j]? = some o → kindOf C.P G o = ks.getD j 3 ∨ ks.getD j 3 = 3) : ∀ (p : List Nat) (fr : Fr) (σ : Sg) (η : Nat → Value) (φ : Nat → List Nat) (a : Act) (w : World),
    sxOps C T n l ks K p fr σ → Models C B S w0 n fr σ η φ a w → wpT C.P l ks (Good C B S w0 n K) p a w
  | [], fr, σ, η, φ, a, w, h, hM => ⟨fr, σ, η, φ, hM, h⟩
  | i :: p, fr, σ, η, φ, a, w, h, hM => by
    simp only [sxOps] at h
    simp only [wpT]
    split at h
    · exact h.elim
    · rename_i o hi
      simp only [hi]
      have ih : ∀ a w, Good C B S w0 n (sxOps C T n l ks K p) a w → wpT C.P l ks (Good C B S w0 n K) p a w := fun a w ⟨fr', σ', η', φ', hM', h'⟩ => sxOps_T hC hks p fr' σ' η' φ' a w h' hM'
      rcases guard_ok hM h with ⟨hw, fr', hM', h'⟩ | ⟨hw, fr', hM', h'⟩
      · rw [if_pos hw]
        have hs := sxOper_sound hC (hks i o hi) h'
        unfold OpSem at hs
        have hs := hs B S w0 η φ a w hM'
        revert hs
        generalize ks.getD i 3 = kd
        intro hs
        split at hs
        · exact ⟨hs.1, Oper.wp_imp ih hs.2⟩
        · obtain ⟨v, h1, h2⟩ := hs; exact ⟨v, h1, ih _ _ h2⟩
        · exact Oper.wp_imp (fun a w h => ⟨h.1, ih _ _ h.2⟩) hs
        · rename_i n0 n5 n2
          split
          · exact (n0 rfl).elim
          · exact (n5 rfl).elim
          · exact (n2 rfl).elim
          · exact Oper.wp_imp ih hs
      · rw [hw]
        simp only [Bool.false_eq_true, if_false]
        rcases withB_true h' with h' | ⟨hd, h'⟩
        · exact h'.elim
        refine sxOps_T hC hks p _ σ η φ _ w h' ?_
        have := hM'.put hd rd_skip
        cases hdst : o.dst with
        | none => rw [hdst] at this; exact this
        | some t => rw [hdst] at this; exact this

theorem wpOps_of_T {P : Program} {l : List Oper} {Q : Exit → Act → World → Prop} : ∀ (p : List Nat) (a : Act) (w : World), wpT P l [] (fun a w => Q .normal a w) p a w → wpOps P l.toArray Q p a w
  | [], a, w, h => h
  | i :: p, a, w, h => by
    simp only [wpT] at h
    simp only [wpOps]
    cases ho : l[i]? with
    | none => simp [ho] at h
    | some o =>
      have ho' : l.toArray[i]? = some o := by simpa using ho
      simp only [ho, List.getD_nil] at h
      simp only [ho']
      split
      · rename_i hw
        rw [if_pos hw] at h
        exact .inl (Oper.wp_imp (wpOps_of_T p) h)
      · rename_i hw
        rw [if_neg hw] at h
        exact wpOps_of_T p _ _ h

theorem Sub.get : ∀ {l fr : Fr}, Sub l fr → ∀ t, get l t = .d .undef ∨ get l t = get fr t
  | [], fr, _, t => .inl rfl
  | (s, d) :: l, fr, h, t => by
    simp only [Sx.get]
    rcases beq_cases s t with ⟨hb, e⟩ | ⟨hb, e⟩
    · subst e; rw [hb]; exact .inr h.1.symm
    · rw [hb]; exact Sub.get h.2 t
theorem Models.sub (h : Models C B S w0 n fr σ η φ a w) {fr' : Fr} (hs : Sub fr' fr) : Models C B S w0 n fr' σ η φ a w := by
  refine ⟨h.mem, fun t => ?_, h.defers, h.size⟩
  rcases hs.get t with e | e
  · rw [e]; exact ⟨[a.tmps.getD t Go.undef], by simp [RepD, RepC], rfl⟩
  · rw [e]; exact h.fr t

/-! ### plans -/
def planOk (P : Program) (G : List FuncId) : List Oper → Plan → Bool
  | l, .leaf ks p A => okAny P G l ks p A
  | l, .split i j x y => decide (i < l.length) && decide (j < l.length) && i != j && planOk P G (more l.toArray i j).toList x && planOk P G (more l.toArray j i).toList y

theorem more_ops (l : List Oper) (i j k : Nat) : ((more l.toArray i j).toList[k]?).map (·.op) = (l[k]?).map (·.op) := by
  rw [Array.getElem?_toList, more_get]
  simp only [List.getElem?_toArray, Option.map_map]
  congr 1
  funext o
  simp only [Function.comp]
  split <;> rfl

theorem plan_kinds {P : Program} {G : List FuncId} {l0 : List Oper} : ∀ (pl : Plan) (l : List Oper), planOk P G l pl = true → (∀ k : Nat, (l[k]?).map Oper.op = (l0[k]?).map Oper.op) → ∀ kp ∈ leaves pl, ∀ (j : Nat) (o : Oper), l0[j]? = some o → kindOf P G o = kp.1.getD j 3 ∨ kp.1.getD j 3 = 3
  | .leaf ks p A, l, hp, hsame, kp, hkp, j, o, hj => by
    simp only [leaves, List.mem_singleton] at hkp
    subst hkp
    simp only [planOk, okAny, Bool.and_eq_true] at hp
    have e := hsame j
    rw [hj] at e
    simp only [Option.map_some, Option.map_eq_some_iff] at e
    obtain ⟨o', ho', hop⟩ := e
    have := ((statB_spec hp.1.1.1.1).1 j o' ho').1
    unfold kindOf at this ⊢
    rw [hop] at this; exact this
  | .split i j x y, l, hp, hsame, kp, hkp, k, o, hk => by
    simp only [planOk, Bool.and_eq_true] at hp
    simp only [leaves, List.mem_append] at hkp
    rcases hkp with hkp | hkp
    · exact plan_kinds x _ hp.1.2 (fun k => by rw [more_ops]; exact hsame k) kp hkp k o hk
    · exact plan_kinds y _ hp.2 (fun k => by rw [more_ops]; exact hsame k) kp hkp k o hk

theorem plan_all {P : Program} {G : List FuncId} {l0 : List Oper} {Q : Exit → Act → World → Prop} {a : Act} {w : World} : ∀ (pl : Plan) (l : List Oper), planOk P G l pl = true → (∀ ks (Q : Act → World → Prop) p a w, wpT P l0 ks Q p a w → wpT P l ks Q p a w) →
    (∀ kp ∈ leaves pl, wpT P l0 kp.1 (fun a w => Q .normal a w) kp.2 a w) → ∀ s, isExt .any l.toArray l.toArray.size (Array.replicate l.toArray.size false) s → wpOps P l.toArray Q s a w
  | .leaf ks p A, l, hp, hmore, h, s, hs => by
    simp only [planOk] at hp
    exact wpOps_of_any _ _ s _ _ (any_of_T G ks p A hp (hmore ks _ p a w (h (ks, p) (by simp [leaves])))) hs
  | .split i j x y, l, hp, hmore, h, s, hs => by
    simp only [planOk, Bool.and_eq_true, decide_eq_true_eq, bne_iff_ne, ne_eq] at hp
    obtain ⟨⟨⟨⟨h1, h2⟩, h3⟩, h4⟩, h5⟩ := hp
    have step : ∀ (i j : Nat), i < l.length → (∀ s, isExt .any (more l.toArray i j).toList.toArray (more l.toArray i j).toList.toArray.size (Array.replicate (more l.toArray i j).toList.toArray.size false) s → wpOps P (more l.toArray i j).toList.toArray Q s a w) → Go.Reg.ahead i j s → wpOps P l.toArray Q s a w := fun i j hi hx ha => by
      refine wpOps_more (i := i) (j := j) s a w ?_
      have := hx s (by rw [Array.toArray_toList, more_size]; exact ext_more (by simpa using hi) _ s _ (by simp) hs (.inr ha))
      rwa [Array.toArray_toList] at this
    rcases ahead_or h3 s with ha | ha
    · exact step i j h1 (plan_all x (more l.toArray i j).toList h4 (fun ks Q p a w h => wpT_more p a w (hmore ks Q p a w h)) (fun kp hk => h kp (by simp [leaves, hk]))) ha
    · exact step j i h2 (plan_all y (more l.toArray j i).toList h5 (fun ks Q p a w h => wpT_more p a w (hmore ks Q p a w h)) (fun kp hk => h kp (by simp [leaves, hk]))) ha

theorem wpT_mono {P : Program} {l : List Oper} {ks : List Nat} {Q Q' : Act → World → Prop} (hQ : ∀ a w, Q a w → Q' a w) : ∀ (p : List Nat) (a : Act) (w : World), wpT P l ks Q p a w → wpT P l ks Q' p a w
  | [], a, w, h => hQ a w h
  | i :: p, a, w, h => by
    have ih := wpT_mono (P := P) (l := l) (ks := ks) hQ p
    simp only [wpT] at h ⊢
    cases ho : l[i]? with
    | none => simp [ho] at h
    | some o =>
      simp only [ho] at h ⊢
      split
      · rename_i hw
        rw [if_pos hw] at h
        revert h
        generalize ks.getD i 3 = c
        intro h
        split at h
        · exact ⟨h.1, Oper.wp_imp ih h.2⟩
        · obtain ⟨v, h1, h2⟩ := h; exact ⟨v, h1, ih _ _ h2⟩
        · exact Oper.wp_imp (fun a w h => ⟨h.1, ih _ _ h.2⟩) h
        · exact Oper.wp_imp ih h
      · rename_i hw
        rw [if_neg hw] at h
        exact ih _ _ h
theorem wpT_some {P : Program} {l : List Oper} {ks : List Nat} {Q : Act → World → Prop} : ∀ (p : List Nat) (a : Act) (w : World), wpT P l ks Q p a w → ∃ a' w', Q a' w'
  | [], a, w, h => ⟨a, w, h⟩
  | i :: p, a, w, h => by
    have ih := wpT_some (P := P) (l := l) (ks := ks) (Q := Q) p
    simp only [wpT] at h
    cases ho : l[i]? with
    | none => simp [ho] at h
    | some o =>
      simp only [ho] at h
      split at h
      · split at h
        · obtain ⟨a', w', h'⟩ := wp_some h.2; exact ih _ _ h'
        · obtain ⟨v, h1, h2⟩ := h; exact ih _ _ h2
        · obtain ⟨a', w', h'⟩ := wp_some h; exact ih _ _ h'.2
        · obtain ⟨a', w', h'⟩ := wp_some h; exact ih _ _ h'
      · exact ih _ _ h

theorem nubF_ok : ∀ (fr acc : Fr) {K : Fr → Prop}, nubF fr acc K → ∃ F, K F ∧ ∀ t, get F t = .d .undef ∨ get F t = get (acc ++ fr) t
  | [], acc, K, h => ⟨acc, h, fun t => by simp⟩
  | (t, d) :: fr, acc, K, h => by
    have app : ∀ (a b : Fr) (s : Nat), (∀ p ∈ a, Nat.beq p.1 s = false) → get (a ++ b) s = get b s := by
      intro a
      induction a with
      | nil => intro b s _; rfl
      | cons p a ih =>
        intro b s hp
        obtain ⟨u, e⟩ := p
        simp only [List.cons_append, get, hp (u, e) (by simp)]
        exact ih b s (fun q hq => hp q (by simp [hq]))
    have app2 : ∀ (a b : Fr) (s : Nat), (∃ p ∈ a, Nat.beq p.1 s = true) → get (a ++ b) s = get a s := by
      intro a
      induction a with
      | nil => rintro b s ⟨p, hp, _⟩; simp at hp
      | cons p a ih =>
        rintro b s ⟨q, hq, hs⟩
        obtain ⟨u, e⟩ := p
        simp only [List.cons_append, get]
        cases hu : Nat.beq u s with
        | true => rfl
        | false =>
          rcases List.mem_cons.1 hq with rfl | hq
          · simp only at hs; rw [hu] at hs; cases hs
          · exact ih b s ⟨q, hq, hs⟩
    have dich : ∀ s, (∀ p ∈ acc, Nat.beq p.1 s = false) ∨ (∃ p ∈ acc, Nat.beq p.1 s = true) := fun s => by
      by_cases hx : ∃ p ∈ acc, Nat.beq p.1 s = true
      · exact .inr hx
      · refine .inl fun p hp => ?_
        cases hb : Nat.beq p.1 s
        · rfl
        · exact (hx ⟨p, hp, hb⟩).elim
    simp only [nubF] at h
    split at h
    · rename_i hany
      obtain ⟨F, h1, h2⟩ := nubF_ok fr acc h
      refine ⟨F, h1, fun s => (h2 s).imp id fun e => ?_⟩
      rw [e]
      rcases dich s with hs | hs
      · rw [app _ _ _ hs, app _ _ _ hs]
        simp only [get]
        have : Nat.beq t s = false := by
          rcases beq_cases t s with ⟨hb, he⟩ | ⟨hb, _⟩
          · subst he
            simp only [List.any_eq_true] at hany
            obtain ⟨p, hp, hpt⟩ := hany
            rw [hs p hp] at hpt; cases hpt
          · exact hb
        rw [this]
      · rw [app2 _ _ _ hs, app2 _ _ _ hs]
    · rw [force_eq] at h
      obtain ⟨F, h1, h2⟩ := nubF_ok fr _ h
      refine ⟨F, h1, fun s => (h2 s).imp id fun e => ?_⟩
      rw [e, List.append_assoc]; rfl

theorem Models.sub' (h : Models C B S w0 n fr σ η φ a w) {fr' : Fr} (hs : ∀ t, get fr' t = .d .undef ∨ get fr' t = get fr t) : Models C B S w0 n fr' σ η φ a w := by
  refine ⟨h.mem, fun t => ?_, h.defers, h.size⟩
  rcases hs t with e | e
  · rw [e]; exact ⟨[a.tmps.getD t Go.undef], by simp [RepD, RepC], rfl⟩
  · rw [e]; exact h.fr t

theorem sxPlan_T (hC : C.Ok T) {l : List Oper} {pl : Plan} (hks : ∀ kp ∈ leaves pl, ∀ (j : Nat) (o : Oper), l[j]? = some o → kindOf C.P G o = kp.1.getD j 3 ∨ kp.1.getD j 3 = 3) (h : sxPlan C T n l K pl fr σ) (hM : Models C B S w0 n fr σ η φ a w) : ∀ kp ∈ leaves pl, wpT C.P l kp.1 (Good C B S w0 n K) kp.2 a w := by
  unfold sxPlan at h
  split at h
  · exact h.elim
  · rename_i ks p hl
    intro kp hkp
    rw [hl] at hkp hks
    simp only [List.mem_singleton] at hkp
    subst hkp
    exact sxOps_T hC (hks (ks, p) (by simp)) p fr σ η φ a w h hM
  · rename_i ks p r _ hl
    rw [hl] at hks
    have h1 := sxOps_T hC (hks (ks, p) (by simp)) p fr σ η φ a w h hM
    have rest : ∀ {F : Fr} {Z : Sg} {k : Prop} (r : List (List Nat × List Nat)), sxRest C T n l F Z fr σ k r → k ∧ ∀ kp ∈ r, sxOps C T n l kp.1 (fun fr' σ' => Sub F fr' ∧ σ' = Z) kp.2 fr σ := by
      intro F Z k r
      induction r with
      | nil => intro h; exact ⟨h, by simp⟩
      | cons kp r ih =>
        intro h
        obtain ⟨ks, p⟩ := kp
        simp only [sxRest] at h
        obtain ⟨g1, g2⟩ := ih h.2
        refine ⟨g1, fun kp hkp => ?_⟩
        rcases List.mem_cons.1 hkp with rfl | hkp
        · exact h.1
        · exact g2 kp hkp
    intro kp hkp
    rw [hl] at hkp
    rcases List.mem_cons.1 hkp with rfl | hkp
    · refine wpT_mono ?_ p a w h1
      rintro a' w' ⟨fr1, σ1, η1, φ1, hM1, hK1⟩
      obtain ⟨F, h2, h3⟩ := nubF_ok fr1 [] hK1
      exact ⟨F, σ1, η1, φ1, hM1.sub' (by simpa using h3), (rest r h2).1⟩
    · obtain ⟨a', w', fr1, σ1, η1, φ1, hM1, hK1⟩ := wpT_some p a w h1
      obtain ⟨F, h2, h3⟩ := nubF_ok fr1 [] hK1
      obtain ⟨g1, g2⟩ := rest r h2
      have h4 := sxOps_T hC (hks kp (by simp [hkp])) kp.2 fr σ η φ a w (g2 kp hkp) hM
      refine wpT_mono ?_ kp.2 a w h4
      rintro a2 w2 ⟨fr2, σ2, η2, φ2, hM2, hs2, rfl⟩
      exact ⟨F, σ2, η2, φ2, hM2.sub hs2, g1⟩

/-! ### code -/
def codeOk (P : Program) (G : List FuncId) (pl : List (Nat × Plan)) : Code → Bool
  | .region id ops dr => (match dr with
    | false => true
    | true => match planAt id pl with
      | some p => planOk P G ops.toList p
      | none => true)
  | .seq a b => codeOk P G pl a && codeOk P G pl b
  | .cond _ a b => codeOk P G pl a && codeOk P G pl b
  | .block _ b => codeOk P G pl b
  | .loop b => codeOk P G pl b
  | _ => true

def QK (C : Cx) (B S : List Nat) (w0 : World) (n : Nat) (K : KE) : Exit → Act → World → Prop := fun e a' w' => match e with
  | .panic _ => False
  | .outgrown => False
  | e => Good C B S w0 n (K e) a' w'

theorem codeSem_iff {c : Code} {K : KE} : CodeSem C n c K fr σ ↔ ∀ (B S : List Nat) (w0 : World) (η : Nat → Value) (φ : Nat → List Nat) (a : Act) (w : World), Models C B S w0 n fr σ η φ a w → c.wp C.P (QK C B S w0 n K) a w := by
  unfold CodeSem; exact Iff.rfl

theorem Models.drew (h : Models C B S w0 n fr σ η φ a w) : Models C B S w0 n fr σ η φ a w.drew :=
  ⟨h.mem.grow (Tch.drew w []), h.fr.later (Later.same (Tch.drew w []) _) (fun i hi => ⟨hi, rfl⟩), h.defers, h.size⟩

theorem sxCode_sound (hC : C.Ok T) {G : List FuncId} {pl : List (Nat × Plan)} : ∀ (c : Code) (K : KE) (fr : Fr) (σ : Sg), codeOk C.P G pl c = true → sxCode C T n pl c K fr σ → CodeSem C n c K fr σ
  | .skip, K, fr, σ, _, h => codeSem_iff.2 fun B S w0 η φ a w hM => wp_skip ⟨fr, σ, η, φ, hM, h⟩
  | .label _, K, fr, σ, _, h => codeSem_iff.2 fun B S w0 η φ a w hM => wp_label ⟨fr, σ, η, φ, hM, h⟩
  | .exit _, K, fr, σ, _, h => codeSem_iff.2 fun B S w0 η φ a w hM => wp_exit ⟨fr, σ, η, φ, hM, h⟩
  | .ret, K, fr, σ, _, h => codeSem_iff.2 fun B S w0 η φ a w hM => wp_ret ⟨fr, σ, η, φ, hM, h⟩
  | .seq x y, K, fr, σ, hk, h => codeSem_iff.2 fun B S w0 η φ a w hM => by
    simp only [codeOk, Bool.and_eq_true] at hk
    simp only [sxCode] at h
    refine wp_seq (wp_mono (codeSem_iff.1 (sxCode_sound hC x _ fr σ hk.1 h) B S w0 η φ a w hM) ?_)
    intro e a' w' hq
    cases e with
    | normal =>
      obtain ⟨fr', σ', η', φ', hM', h'⟩ := hq
      exact codeSem_iff.1 (sxCode_sound hC y K fr' σ' hk.2 h') B S w0 η' φ' a' w' hM'
    | exit id => exact hq
    | goto l => exact hq
    | ret => exact hq
    | panic ch => exact hq
    | outgrown => exact hq
  | .cond c x y, K, fr, σ, hk, h => codeSem_iff.2 fun B S w0 η φ a w hM => by
    simp only [codeOk, Bool.and_eq_true] at hk
    simp only [sxCode] at h
    have hc := ev_rep hM c
    have md : ∀ b : Bool, a.eval c = .bool b → Models C B S w0 n (condF c (.d (.bool b)) fr) σ η φ a w := fun b hb => by
      unfold condF
      split
      · rename_i t
        exact hM.refine (by have : a.tmps.getD t Go.undef = .bool b := hb; rw [this]; exact rd_bool b)
      · exact hM
    rcases force_if h with h | ⟨e, h⟩ | ⟨e, h⟩ | ⟨p, i, e, h1, h2⟩
    · exact h.elim
    · rw [e] at hc
      exact wp_cond_true hc.bool (codeSem_iff.1 (sxCode_sound hC x K _ σ hk.1 h) B S w0 η φ a w (md true hc.bool))
    · rw [e] at hc
      exact wp_cond_false hc.bool (codeSem_iff.1 (sxCode_sound hC y K _ σ hk.2 h) B S w0 η φ a w (md false hc.bool))
    · rw [e] at hc
      have hv := hc.prop
      by_cases hp : p
      · have hv' : a.eval c = .bool true := by rw [hv]; simp [hp]
        exact wp_cond_true hv' (codeSem_iff.1 (sxCode_sound hC x K _ σ hk.1 (h1 hp)) B S w0 η φ a w (md true hv'))
      · have hv' : a.eval c = .bool false := by rw [hv]; simp [hp]
        exact wp_cond_false hv' (codeSem_iff.1 (sxCode_sound hC y K _ σ hk.2 (h2 hp)) B S w0 η φ a w (md false hv'))
  | .block id b, K, fr, σ, hk, h => codeSem_iff.2 fun B S w0 η φ a w hM => by
    simp only [codeOk] at hk
    simp only [sxCode] at h
    refine wp_block (wp_mono (codeSem_iff.1 (sxCode_sound hC b _ fr σ hk h) B S w0 η φ a w hM) ?_)
    intro e a' w' hq
    cases e with
    | exit j =>
      simp only [Exit.inBlock]
      have hq' : Good C B S w0 n (blockK id K (.exit j)) a' w' := hq
      simp only [blockK] at hq'
      rcases beq_cases j id with ⟨hb, e⟩ | ⟨hb, e⟩
      · rw [if_pos e]; rw [hb] at hq'; exact hq'
      · rw [if_neg e]; rw [hb] at hq'; exact hq'
    | normal => exact hq
    | goto l => exact hq
    | ret => exact hq
    | panic ch => exact hq
    | outgrown => exact hq
  | .region id ops dr, K, fr, σ, hk, h => codeSem_iff.2 fun B S w0 η φ a w hM => by
    simp only [codeOk] at hk
    simp only [sxCode] at h
    cases dr with
    | false =>
      simp only at h
      have hT := sxOps_T (G := []) (ks := []) hC (fun j o _ => .inr (by simp)) _ fr σ η φ a w h hM
      have := wpOps_of_T (Q := QK C B S w0 n K) _ a w hT
      rw [Array.toArray_toList] at this
      refine wp_region ?_
      simpa using this
    | true =>
      simp only at h hk
      split at h
      · rename_i p hp
        rw [hp] at hk
        simp only at hk
        refine wp_region_draw fun t => ?_
        simp only [Region.schedule, hC.mixed, Bool.true_or, if_true]
        have hx := linearise_ext (md := .any) (ops := ops) ops.size t (Array.replicate ops.size false)
        change isExt .any ops _ _ (Region.linearise .any ops t) at hx
        have hT := sxPlan_T (G := G) (K := K .normal) (B := B) (S := S) (w0 := w0) hC (plan_kinds p _ hk (fun k => rfl)) h hM.drew
        have := plan_all (Q := QK C B S w0 n K) p ops.toList hk (fun ks Q p a w h => h) (fun kp hkp => wpT_mono (fun a w h => h) _ _ _ (hT kp hkp)) (Region.linearise .any ops t) (by rw [Array.toArray_toList]; exact hx)
        rw [Array.toArray_toList] at this
        exact this
      · exact h.elim
  | .loop b, K, fr, σ, _, h => h
  | .rangeFunc f p q b, K, fr, σ, _, h => h
  | .scope b, K, fr, σ, _, h => h
  | .goto l, K, fr, σ, _, h => h
  | .refuse y, K, fr, σ, _, h => h

/-- a loop: what stands at each round's head, a number that each round lowers -/
theorem codeSem_loop {ι : Type} (H : ι → Prop) (I : ι → Fr) (Z : ι → Sg) (μ : ι → Nat) (x0 : ι) {b : Code} {K : KE} (h0 : H x0) (hI : Sub (I x0) fr) (hZ : σ = Z x0)
    (round : ∀ x, H x → CodeSem C n b (fun e fr σ => match e with | .normal => ∃ y, H y ∧ Sub (I y) fr ∧ σ = Z y ∧ μ y < μ x | e => K e fr σ) (I x) (Z x)) : CodeSem C n (.loop b) K fr σ := by
  refine codeSem_iff.2 fun B S w0 η φ a w hM => ?_
  refine wp_loop_ghost (fun m a w => ∃ x η φ, H x ∧ μ x = m ∧ Models C B S w0 n (I x) (Z x) η φ a w) (μ x0) ⟨x0, η, φ, h0, rfl, by rw [← hZ]; exact hM.sub hI⟩ ?_
  rintro m a w ⟨x, η, φ, hx, rfl, hM⟩
  refine wp_mono (codeSem_iff.1 (round x hx) B S w0 η φ a w hM) ?_
  intro e a' w' hq
  cases e with
  | normal =>
    obtain ⟨fr', σ', η', φ', hM', y, h1, h2, rfl, h4⟩ := hq
    exact ⟨μ y, h4, y, η', φ', h1, rfl, hM'.sub h2⟩
  | exit id => exact hq
  | goto l => exact hq
  | ret => exact hq
  | panic ch => exact hq
  | outgrown => exact hq
end

end Go.Sx
