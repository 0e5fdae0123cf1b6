/- Loops whose heads are told anew (loop_trf), renaming of owned things (Trf.ren). -/
import Derived.Test.YtlchegpgicdldaaDoorRec
import Derived.Test.YtlchegpgicdldaaDoorCag
namespace Go.Sx
open Go Go.RowKit Go.Reg
theorem if_iff {a b A B : Prop} (h : a ↔ b) (hB : B) : (¬ (a ↔ b) → A) ∧ (¬ ¬ (a ↔ b) → B) := ⟨fun hn => absurd h hn, fun _ => hB⟩
theorem ifq {a b A B : Prop} (hB : B) (h : a ↔ b := by first | exact iff_of_true (by first | omega | decide) (by first | omega | decide) | exact iff_of_false (by first | omega | decide) (by first | omega | decide)) : (¬ (a ↔ b) → A) ∧ (¬ ¬ (a ↔ b) → B) := if_iff h hB
mutual
/-- structs and interfaces of plain things, as one plain thing -/
def nrm : Dat → Option Da
  | .d x => some x
  | .agg ds => match nrms ds with
    | some xs => some (.agg xs)
    | none => none
  | .iface t d => match nrm d with
    | some x => some (.iface t x)
    | none => none
  | _ => none
def nrms : List Dat → Option (List Da)
  | [] => some []
  | d :: ds => match nrm d, nrms ds with
    | some x, some xs => some (x :: xs)
    | _, _ => none
end
section
variable {η : Nat → Value} {I O : List Nat} {w : World}
mutual
theorem nrm_rep : ∀ (d : Dat) {x : Da} {cs : List Value}, nrm d = some x → RepD η I O w d cs → RepC O w x cs ∧ toVD d cs = toV x cs
  | .d y, x, cs, h, hr => by simp only [nrm, Option.some.injEq] at h; subst h; exact ⟨by simpa only [RepD] using hr, rfl⟩
  | .agg ds, x, cs, h, hr => by
    simp only [nrm] at h
    split at h
    · rename_i xs h1
      simp only [Option.some.injEq] at h
      subst h
      simp only [RepD] at hr
      simp only [RepC]
      exact ⟨nrms_rep ds h1 hr, rfl⟩
    · cases h
  | .iface t d, x, cs, h, hr => by
    simp only [nrm] at h
    split at h
    · rename_i y h1
      simp only [Option.some.injEq] at h
      subst h
      simp only [RepD] at hr
      obtain ⟨c, r1, rfl⟩ := hr
      obtain ⟨g1, g2⟩ := nrm_rep d h1 r1
      simp only [RepC]
      exact ⟨⟨c, g1, by rw [g2]⟩, rfl⟩
    · cases h
  | .own _, _, _, h, _ => by simp [nrm] at h
  | .at_ _ _, _, _, h, _ => by simp [nrm] at h
  | .el _ _ _ _, _, _, h, _ => by simp [nrm] at h
  | .tuple _, _, _, h, _ => by simp [nrm] at h
  | .func _ _ _, _, _, h, _ => by simp [nrm] at h
theorem nrms_rep : ∀ (ds : List Dat) {xs : List Da} {cs : List Value}, nrms ds = some xs → RepDs η I O w ds cs → RepCs O w xs cs
  | [], xs, cs, h, hr => by simp only [nrms, Option.some.injEq] at h; subst h; simpa only [RepDs, RepCs] using hr
  | d :: ds, xs, cs, h, hr => by
    simp only [nrms] at h
    split at h
    · rename_i x xs' h1 h2
      simp only [Option.some.injEq] at h
      subst h
      simp only [RepDs] at hr
      obtain ⟨c1, c2, rfl, r1, r2⟩ := hr
      simp only [RepCs]
      exact ⟨c1, c2, rfl, (nrm_rep d h1 r1).1, nrms_rep ds h2 r2⟩
    · cases h
end
theorem nrms_reps : ∀ {ds : List Dat} {xs : List Da} {css : List (List Value)}, nrms ds = some xs → RepDss η I O w ds css → RepDss η I O w (datas xs) css ∧ List.zipWith toVD ds css = List.zipWith toVD (datas xs) css
  | [], xs, css, h, hr => by simp only [nrms, Option.some.injEq] at h; subst h; exact ⟨hr, rfl⟩
  | d :: ds, xs, css, h, hr => by
    simp only [nrms] at h
    split at h
    · rename_i x xs' h1 h2
      simp only [Option.some.injEq] at h
      subst h
      simp only [RepDss] at hr
      obtain ⟨c1, c2, rfl, r1, r2⟩ := hr
      obtain ⟨g1, g2⟩ := nrm_rep d h1 r1
      obtain ⟨g3, g4⟩ := nrms_reps h2 r2
      simp only [datas, RepDss, RepD]
      exact ⟨⟨c1, c2, rfl, g1, g3⟩, by rw [List.zipWith_cons_cons, List.zipWith_cons_cons, g4, g2]; rfl⟩
    · cases h
end
/-- a struct that holds one struct -/
theorem Pure.nest {C : Cx} {f : FuncId} {ds rest : List Da} {Q : Da → Prop} (h : Pure C f (.agg ds :: rest) Q) : Pure C f (.agg [.agg ds] :: rest) Q := by
  intro O w us hO hg hr
  refine h O w us hO hg ?_
  obtain ⟨v, vs, rfl, r1, r2⟩ := reps_inv hr
  refine reps_cons ?_ r2
  obtain ⟨cs, g1, rfl⟩ := r1
  refine ⟨cs, ?_, rfl⟩
  simp only [RepC, RepCs] at g1 ⊢
  obtain ⟨a, b, rfl, g1, rfl⟩ := g1
  simpa using g1
section
variable {C : Cx} {n : Nat} {fr : Fr} {σ : Sg}
/-- arguments of given-up slices in structs, behind interfaces -/
theorem call_nrm {q : Bool} {f : FuncId} {args : List Dat} {xs : List Da} {K : KD} (h : nrms args = some xs) (hc : SxCall C q f (datas xs) K fr σ) : SxCall C q f args K fr σ := by
  unfold SxCall at hc ⊢
  rintro B S w0 η φ n a w vs hM ⟨css, hr, rfl⟩
  obtain ⟨g1, g2⟩ := nrms_reps h hr
  exact hc B S w0 η φ n a w _ hM ⟨css, g1, g2⟩
theorem loop_trf {ι : Type} (H : ι → Prop) (I : ι → Fr) (Z : ι → Sg) (μ : ι → Nat) (x0 : ι) {b : Code} {K : KE} {fr0 : Fr} {σ0 : Sg} (hz : ∀ x, okZ (I x) (Z x) = true) (h0 : H x0) (hf : Trf C fr σ fr0 σ0) (hI : Sub (I x0) fr0) (hZ : SubS (Z x0) σ0)
    (round : ∀ x, H x → CodeSem C n b (fun e fr σ => match e with | .normal => ∃ y fr' σ', H y ∧ Trf C fr σ fr' σ' ∧ Sub (I y) fr' ∧ SubS (Z y) σ' ∧ μ y < μ x | e => K e fr σ) (I x) (Z x)) : CodeSem C n (.loop b) K fr σ := by
  refine codeSem_iff.2 fun B S w0 η φ a w hM => ?_
  obtain ⟨η, φ, hM⟩ := hf _ _ _ _ _ _ _ _ hM
  refine wp_loop_ghost (fun m a w => ∃ x η φ, H x ∧ μ x = m ∧ Models C B S w0 n (I x) (Z x) η φ a w) (μ x0) ⟨x0, η, φ, h0, rfl, (hM.sub hI).only (hz x0) hZ⟩ ?_
  rintro m a w ⟨x, η, φ, hx, rfl, hM⟩
  refine wp_mono (codeSem_iff.1 (round x hx) B S w0 η φ a w hM) ?_
  intro e a' w' hq
  cases e with
  | normal =>
    obtain ⟨fr', σ', η', φ', hM', y, f2, s2, h1, hf, h2, h3, h4⟩ := hq
    obtain ⟨η', φ', hM'⟩ := hf _ _ _ _ _ _ _ _ hM'
    exact ⟨μ y, h4, y, η', φ', h1, rfl, (hM'.sub h2).only (hz y) h3⟩
  | exit id => exact hq
  | goto l => exact hq
  | ret => exact hq
  | panic ch => exact hq
  | outgrown => exact hq
def renF (ρ : Nat → Nat) : Fr → Fr
  | [] => []
  | (t, d) :: fr => (t, ren ρ d) :: renF ρ fr
theorem get_renF (ρ : Nat → Nat) : ∀ (fr : Fr) (t : Nat), get (renF ρ fr) t = ren ρ (get fr t)
  | [], t => rfl
  | (s, d) :: fr, t => by
    simp only [renF, get]
    cases Nat.beq s t
    · exact get_renF ρ fr t
    · rfl
theorem Trf.ren (m : List (Nat × Nat)) (hz : okZ fr σ = true) (hb : backB m (swp m) (ids σ) = true) : Trf C fr σ (renF (lk m) fr) (renS (lk m) σ) := by
  intro B S w0 w n η φ a hM
  simp only [okZ, Bool.and_eq_true] at hz
  obtain ⟨hm, hbl⟩ := hM.mem.ren m hb hz.2
  have hπ : ∀ i ∈ ids σ, lk (swp m) (lk m i) = i := backB_mem hb
  have hl : Later (B ++ blocks φ σ) w (B ++ blocks (fun i => φ (lk (swp m) i)) (renS (lk m) σ)) w := ⟨Nat.le_refl _, fun _ _ _ => rfl, fun b hn _ hm => hn (by
    rcases List.mem_append.1 hm with h | h
    · exact List.mem_append_left _ h
    · exact List.mem_append_right _ ((hbl b).1 h))⟩
  refine ⟨fun i => η (lk (swp m) i), fun i => φ (lk (swp m) i), hm, fun t => ?_, hM.defers, hM.size⟩
  obtain ⟨cs, h1, h2⟩ := hM.fr t
  rw [get_renF]
  exact ⟨cs, RepD.move (J := ids σ) (ρ := lk m) (η' := fun i => η (lk (swp m) i)) (I' := ids (renS (lk m) σ)) hl (fun i hi _ => ⟨by rw [ids_renS]; exact List.mem_map_of_mem hi, by simp only [hπ i hi]⟩) _ _ (get_within hz.1.2 t) h1, by rw [toVD_ren]; exact h2⟩
/-- what is handed on may be told anew -/
theorem code_trf {c : Code} {K : KE} (h : CodeSem C n c (fun e fr σ => ∃ fr' σ', Trf C fr σ fr' σ' ∧ K e fr' σ') fr σ) : CodeSem C n c K fr σ := by
  refine codeSem_iff.2 fun B S w0 η φ a w hM => ?_
  refine wp_mono (codeSem_iff.1 h B S w0 η φ a w hM) ?_
  intro e a' w' hq
  have key : ∀ e, QK C B S w0 n (fun e fr σ => ∃ fr' σ', Trf C fr σ fr' σ' ∧ K e fr' σ') e a' w' → QK C B S w0 n K e a' w' := by
    intro e hq
    cases e with
    | panic ch => exact hq
    | outgrown => exact hq
    | _ =>
      obtain ⟨fr', σ', η', φ', hM', f2, s2, hf, hk⟩ := hq
      obtain ⟨η'', φ'', hM''⟩ := hf _ _ _ _ _ _ _ _ hM'
      exact ⟨f2, s2, η'', φ'', hM'', hk⟩
  exact key e hq
/-- a slot told more loosely ahead of a call -/
theorem call_lax (t : Nat) {q : Bool} {f : FuncId} {args : List Dat} {K : KD} {x y : Da} (h : get fr t = .d x) (hl : LaxA x y) (hc : SxCall C q f args K ((t, .d y) :: fr) σ) : SxCall C q f args K fr σ := by
  unfold SxCall at hc ⊢
  exact fun B S w0 η φ n a w vs hM hr => hc B S w0 η φ n a w vs (hM.laxF h hl) hr
/-- call_rec, where what is handed back is one of some -/
theorem call_recx {ι : Type} {σ0 : Sg} (m : List (Nat × Nat)) (J : List Nat) {f : FuncId} {args as : List Dat} {ks : List Nat} {Q : Dat → Sg → Prop} {y : ι → Dat} {τ : ι → Sg} {P : ι → Prop} {K : KD} (hp : RecCall C f as σ0 ks Q) (hQ : ∀ d σ1, Q d σ1 → ∃ z, d = y z ∧ σ1 = τ z ∧ P z)
    (h0 : renS (lk m) (keepS J σ) = σ0) (ha : rens (lk m) args = as) (hb : backB m (swp m) J = true) (hwa : withins J args = true) (hw0 : withinS J (keepS J σ) = true) (hwr : withinS (ids (dropS J σ) ++ lks (swp m) ks) (dropS J σ) = true)
    (hchk : ∀ z, (backB (swp m) m (ids (τ z)) && noneIn (swp m) (ids (dropS J σ)) (ids (τ z)) && withinS (ids (τ z)) (τ z) && within (ids (τ z)) (y z)) = true)
    (hK : ∀ z, P z → force (Go.Sx.ren (lk (swp m)) (y z)) fun d => forceF (scrub (ids (dropS J σ) ++ lks (swp m) ks) fr) fun fr => forceS (renS (lk (swp m)) (τ z) ++ dropS J σ) fun σ => K d fr σ) : SxCall C false f args K fr σ :=
  call_rec m J hp h0 ha hb hwa hw0 hwr fun d σ1 hq => by
    obtain ⟨z, rfl, rfl, hz⟩ := hQ d σ1 hq
    have h := hK z hz
    rw [force_eq, forceF_eq, forceS_eq] at h
    exact ⟨hchk z, h⟩
/-- many ways come to one call: what lies behind it is shown once (K is found by the first of them) -/
theorem call_cut {G : Prop} {ι : Type} (C : Cx) (f : FuncId) (args : List Dat) (P : ι → Prop) (F : ι → Fr) (Z : ι → Sg) {K : KD} (main : (∀ y, P y → SxCall C false f args K (F y) (Z y)) → G) (tail : ∀ y, P y → SxCall C false f args K (F y) (Z y)) : G := main tail
theorem code_cut {G : Prop} {ι : Type} (C : Cx) (n : Nat) (P : ι → Prop) (F : ι → Fr) (Z : ι → Sg) {c : Code} {K : KE} (main : (∀ y, P y → CodeSem C n c K (F y) (Z y)) → G) (tail : ∀ y, P y → CodeSem C n c K (F y) (Z y)) : G := main tail
theorem code_to {c : Code} {K : KE} {fr0 F : Fr} {σ0 Z : Sg} (hf : Trf C fr σ fr0 σ0) (hI : Sub F fr0) (hZ : SubS Z σ0) (hok : okZ F Z = true) (h : CodeSem C n c K F Z) : CodeSem C n c K fr σ := by
  refine codeSem_iff.2 fun B S w0 η φ a w hM => ?_
  obtain ⟨η1, φ1, h1⟩ := hf _ _ _ _ _ _ _ _ hM
  exact codeSem_iff.1 h B S w0 η1 φ1 a w ((h1.sub hI).only hok hZ)
theorem call_to {q : Bool} {f : FuncId} {args : List Dat} {K : KD} {F : Fr} {Z : Sg} (hI : Sub F fr) (hZ : SubS Z σ) (hok : okZ F Z = true) (ha : withins (ids Z) args = true) (h : SxCall C q f args K F Z) : SxCall C q f args K fr σ := by
  unfold SxCall at h ⊢
  rintro B S w0 η φ n a w vs hM ⟨css, hr, rfl⟩
  have hl : Later (B ++ blocks φ σ) w (B ++ blocks φ Z) w := ⟨Nat.le_refl _, fun _ _ _ => rfl, fun b hn _ hm => hn (by
    rcases List.mem_append.1 hm with h | h
    · exact List.mem_append_left _ h
    · obtain ⟨p, hp, hb⟩ := List.mem_flatMap.1 h
      exact List.mem_append_right _ (List.mem_flatMap.2 ⟨p, hZ.mem p hp, hb⟩))⟩
  exact h B S w0 η φ n a w _ ((hM.sub hI).only hok hZ) ⟨css, RepDss.only hl args css ha hr, rfl⟩
theorem call_ren (m : List (Nat × Nat)) {q : Bool} {f : FuncId} {args : List Dat} {K : KD} (hz : okZ fr σ = true) (hb : backB m (swp m) (ids σ) = true) (ha : withins (ids σ) args = true) (h : SxCall C q f (rens (lk m) args) K (renF (lk m) fr) (renS (lk m) σ)) : SxCall C q f args K fr σ := by
  unfold SxCall at h ⊢
  rintro B S w0 η φ n a w vs hM ⟨css, hr, rfl⟩
  simp only [okZ, Bool.and_eq_true] at hz
  obtain ⟨hm, hbl⟩ := hM.mem.ren m hb hz.2
  have hπ : ∀ i ∈ ids σ, lk (swp m) (lk m i) = i := backB_mem hb
  have hl : Later (B ++ blocks φ σ) w (B ++ blocks (fun i => φ (lk (swp m) i)) (renS (lk m) σ)) w := ⟨Nat.le_refl _, fun _ _ _ => rfl, fun b hn _ hm => hn (by
    rcases List.mem_append.1 hm with h | h
    · exact List.mem_append_left _ h
    · exact List.mem_append_right _ ((hbl b).1 h))⟩
  have hmv : ∀ i ∈ ids σ, i ∈ ids σ → lk m i ∈ ids (renS (lk m) σ) ∧ (fun i => η (lk (swp m) i)) (lk m i) = η i := fun i hi _ => ⟨by rw [ids_renS]; exact List.mem_map_of_mem hi, by simp only [hπ i hi]⟩
  have hfr : FrRep (fun i => η (lk (swp m) i)) (ids (renS (lk m) σ)) (B ++ blocks (fun i => φ (lk (swp m) i)) (renS (lk m) σ)) w (renF (lk m) fr) a := fun t => by
    obtain ⟨cs, h1, h2⟩ := hM.fr t
    rw [get_renF]
    exact ⟨cs, RepD.move (J := ids σ) (ρ := lk m) (η' := fun i => η (lk (swp m) i)) (I' := ids (renS (lk m) σ)) hl hmv _ _ (get_within hz.1.2 t) h1, by rw [toVD_ren]; exact h2⟩
  have := h B S w0 (fun i => η (lk (swp m) i)) (fun i => φ (lk (swp m) i)) n a w _ ⟨hm, hfr, hM.defers, hM.size⟩ ⟨css, RepDss.move (J := ids σ) (ρ := lk m) (η' := fun i => η (lk (swp m) i)) (I' := ids (renS (lk m) σ)) hl hmv _ _ ha hr, rfl⟩
  rw [zip_ren] at this
  exact this
end
end Go.Sx
