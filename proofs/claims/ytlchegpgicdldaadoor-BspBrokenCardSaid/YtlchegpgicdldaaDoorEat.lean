/- A function that takes an owned slice of any data behind other arguments and hands one back. -/
import Derived.Test.YtlchegpgicdldaaDoorSxu
namespace Go.Sx
open Go Go.RowKit Go.Reg
theorem repDss_split {η : Nat → Value} {I O : List Nat} {w : World} : ∀ {xs ys : List Dat} {css : List (List Value)}, RepDss η I O w (xs ++ ys) css → ∃ c1 c2, css = c1 ++ c2 ∧ RepDss η I O w xs c1 ∧ RepDss η I O w ys c2
  | [], _, css, h => ⟨[], css, rfl, by simp only [RepDss], h⟩
  | x :: xs, ys, css, h => by
    simp only [List.cons_append, RepDss] at h
    obtain ⟨a1, a2, rfl, h1, h2⟩ := h
    obtain ⟨c1, c2, rfl, h3, h4⟩ := repDss_split h2
    exact ⟨a1 :: c1, c2, rfl, by simp only [RepDss]; exact ⟨_, _, rfl, h1, h3⟩, h4⟩
/-- plain things, and functions and structs of plain things -/
def flat1 : Dat → Option Da
  | .d x => some x
  | .func fn f c => match allD f, allD c with
    | some fs, some cs => some (.func fn fs cs)
    | _, _ => none
  | .agg ds => match allD ds with
    | some xs => some (.agg xs)
    | none => none
  | _ => none
def flat1L : List Dat → Option (List Da)
  | [] => some []
  | d :: ds => match flat1 d, flat1L ds with
    | some x, some xs => some (x :: xs)
    | _, _ => none
theorem flat_repDs {η : Nat → Value} {I O : List Nat} {w : World} : ∀ {xs : List Da} {cs : List Value}, RepDs η I O w (datas xs) cs → RepCs O w xs cs
  | [], cs, h => by simpa only [datas, RepDs, RepCs] using h
  | x :: xs, cs, h => by
    simp only [datas, RepDs, RepD] at h
    obtain ⟨c1, c2, rfl, h1, h2⟩ := h
    simp only [RepCs]
    exact ⟨c1, c2, rfl, h1, flat_repDs h2⟩
theorem flat1_rep {η : Nat → Value} {I O : List Nat} {w : World} {d : Dat} {x : Da} {cs : List Value} (h : flat1 d = some x) (hr : RepD η I O w d cs) : RepC O w x cs ∧ toVD d cs = toV x cs := by
  cases d with
  | d y => simp only [flat1, Option.some.injEq] at h; subst h; simp only [RepD] at hr; exact ⟨hr, rfl⟩
  | func fn f c =>
    simp only [flat1] at h
    split at h
    · rename_i fs cs' h1 h2
      simp only [Option.some.injEq] at h
      subst h
      simp only [RepD] at hr
      obtain ⟨a, b, h3, h4, rfl⟩ := hr
      rw [allD_datas h1] at h3 ⊢
      rw [allD_datas h2] at h4 ⊢
      simp only [RepC]
      refine ⟨⟨a, b, datas_rep.1 h3, datas_rep.1 h4, ?_⟩, rfl⟩
      rw [datas_zip, datas_zip]
    · cases h
  | agg ds =>
    simp only [flat1] at h
    split at h
    · rename_i xs h1
      simp only [Option.some.injEq] at h
      subst h
      simp only [RepD] at hr
      rw [allD_datas h1] at hr
      simp only [RepC]
      exact ⟨flat_repDs hr, rfl⟩
    · cases h
  | _ => cases h
theorem flat1L_rep {η : Nat → Value} {I O : List Nat} {w : World} : ∀ {ds : List Dat} {xs : List Da} {css : List (List Value)}, flat1L ds = some xs → RepDss η I O w ds css → RepCss O w xs css ∧ List.zipWith toVD ds css = List.zipWith toV xs css
  | [], xs, css, h, hr => by
    simp only [flat1L, Option.some.injEq] at h
    subst h
    simp only [RepDss] at hr
    subst hr
    simp [RepCss]
  | d :: ds, xs, css, h, hr => by
    simp only [flat1L] at h
    split at h
    · rename_i x xs' h1 h2
      simp only [Option.some.injEq] at h
      subst h
      simp only [RepDss] at hr
      obtain ⟨c1, c2, rfl, r1, r2⟩ := hr
      obtain ⟨g1, g2⟩ := flat1_rep h1 r1
      obtain ⟨g3, g4⟩ := flat1L_rep h2 r2
      simp only [RepCss]
      exact ⟨⟨c1, c2, rfl, g1, g3⟩, by rw [List.zipWith_cons_cons, List.zipWith_cons_cons, g2, g4]⟩
    · cases h
/-- blocks but those of a value -/
def lessO (O : List Nat) (v : Value) : List Nat := O.filter fun c => !decide (c ∈ v.ownBlock.toList)
theorem mem_lessO {O : List Nat} {v : Value} {b : Nat} : b ∈ lessO O v ↔ b ∈ O ∧ b ∉ v.ownBlock.toList := by
  unfold lessO
  rw [List.mem_filter, Bool.not_eq_true', decide_eq_false_iff_not]
def EatN (C : Cx) (f : FuncId) (E k : Nat) (ds : List Da) (pre xs : List Da) (Q : List Da → Prop) : Prop :=
  ∀ (O : List Nat) (w : World) (v : Value) (css : List (List Value)) (us1 us : List Value), Sl E k id w v css → (∀ b ∈ v.ownBlock.toList, b ∈ O) → (∀ b ∈ O, b < w.heap.size) → RepCss O w ds css → (∀ x ∈ css, RowOk k x) → Glob C O w → Reps O w pre us1 → Reps O w xs us →
    (callFunc f (us1 ++ v :: us).toArray).run C.P w = .ok (.enter f (us1 ++ v :: us).toArray) w ∧ Calls C.P f (us1 ++ v :: us).toArray w fun e w' => ∃ u ds' css', e = .returned u ∧ Q ds' ∧ Sl E k id w' u css' ∧ (∀ b ∈ u.ownBlock.toList, b ∈ v.ownBlock.toList ∨ w.heap.size ≤ b) ∧
      RepCss (lessO O v ++ u.ownBlock.toList) w' ds' css' ∧ (∀ x ∈ css', RowOk k x) ∧ Tch v.ownBlock.toList w w'
section
variable {C : Cx} {T : Tab} {fr : Fr} {σ : Sg}
theorem call_eatN {i E k : Nat} {ds : List Da} {f : FuncId} (pre : List Dat) {args : List Dat} {ps xs : List Da} {Q : List Da → Prop} {K : KD} (hg : sget i σ = some (.slice E k ds)) (hpre : flat1L pre = some ps) (ha : flat1L args = some xs) (hp : EatN C f E k ds ps xs Q)
    (hK : ∀ ds', Q ds' → forceF (killF i .undef fr) fun fr => forceS (sturn (killO i .undef) i (.slice E k ds') σ) fun σ => K (.own i) fr σ) : SxCall C false f (pre ++ .own i :: args) K fr σ := by
  unfold SxCall
  rintro B S w0 η φ n a w vs hM ⟨css, hr, rfl⟩
  have hi := mem_ids (sget_mem hg)
  obtain ⟨c0, c3, rfl, r0, r3⟩ := repDss_split hr
  simp only [RepDss] at r3
  obtain ⟨c1, c2, rfl, r1, r2⟩ := r3
  obtain ⟨h1, h2⟩ := flat1L_rep ha r2
  obtain ⟨h3, h4⟩ := flat1L_rep hpre r0
  have r1' := r1
  simp only [RepD] at r1
  obtain ⟨_, rfl⟩ := r1
  obtain ⟨cs0, hs, e2, hrr, hkk⟩ := own_slice_val hM.mem hg
  have hbl : ∀ b ∈ (η i).ownBlock.toList, b ∈ φ i := fun b hb => by rw [e2]; exact hb
  have hzip : List.zipWith toVD (pre ++ .own i :: args) (c0 ++ [η i] :: c2) = List.zipWith toV ps c0 ++ η i :: List.zipWith toV xs c2 := by
    rw [(repDss_append r0 (ys := .own i :: args) (c2 := [η i] :: c2) (by simp only [RepDss]; exact ⟨_, _, rfl, r1', r2⟩)).2, h4, List.zipWith_cons_cons, h2]; rfl
  rw [hzip]
  obtain ⟨g1, g2⟩ := hp (B ++ blocks φ σ) w (η i) cs0 _ _ hs (fun b hb => List.mem_append_right _ (mem_blocks hi (hbl b hb))) hM.mem.lt hrr hkk hM.mem.glob ⟨c0, h3, rfl⟩ ⟨c2, h1, rfl⟩
  refine ⟨g1, g2.mono ?_⟩
  rintro e w' ⟨u, ds', css', rfl, hQ, hs', hbu, hr', hk', ht⟩
  have hF : ∀ b ∈ u.ownBlock.toList, b ∈ φ i ∨ w.heap.size ≤ b := fun b hb => (hbu b hb).imp (hbl b) id
  have hlt := Later.turn (σ := σ) B ht hbl hi hF (killO i .undef) (.slice E k ds')
  have hsame : Later (lessO (B ++ blocks φ σ) (η i) ++ u.ownBlock.toList) w' (B ++ blocks (upd φ i u.ownBlock.toList) (sturn (killO i .undef) i (.slice E k ds') σ)) w' := ⟨Nat.le_refl _, fun _ _ _ => rfl, fun b hn _ hm => hn (by
    rcases List.mem_append.1 hm with hm | hm
    · refine List.mem_append_left _ (mem_lessO.2 ⟨List.mem_append_left _ hm, fun hv => ?_⟩)
      rcases hM.mem.new i hi b (hbl b hv) with h | h
      · exact h.2 hm
      · have := hM.mem.out b hm; omega
    · rcases sturn_blocks u.ownBlock.toList b hm with h | ⟨j, hj, hne, h⟩
      · exact List.mem_append_right _ h
      · exact List.mem_append_left _ (mem_lessO.2 ⟨List.mem_append_right _ (mem_blocks hj h), fun hv => hM.mem.disj j hj i hi hne b h (hbl b hv)⟩))⟩
  have hm' := hM.mem.turnKill (o := .slice E k ds') (v := u) ht hbl hi hF ⟨css', hs', rfl, RepCss.later hsame _ _ hr', hk'⟩
  have hfr := hM.fr.kill (x := .undef) rfl hlt (I' := ids (sturn (killO i .undef) i (.slice E k ds') σ)) (η' := upd η i u) (i := i) (fun j hj hne => ⟨by rw [ids_sturn]; exact hj, upd_ne _ _ _ hne⟩) (RepC.undef_ex _ _ _)
  have hk2 := hK ds' hQ
  rw [forceF_eq, forceS_eq] at hk2
  exact ⟨u, .own i, _, _, _, _, rfl, hk2, ⟨hm', hfr, hM.defers, hM.size⟩, ⟨[u], by simp only [RepD]; exact ⟨by rw [ids_sturn]; exact hi, by rw [upd_eq]⟩, rfl⟩, fun h => by cases h⟩
/-- the same rules, where what is handed back is known -/
theorem call_mkslE {E k : Nat} (j : Nat) {q : Bool} {f : FuncId} {args : List Dat} {xs L : List Da} {K : KD} (hj : sget j σ = none) (ha : allD args = some xs) (hp : MakeSl C f xs E k (fun ds => ds = L)) (hK : forceS (sins j (.slice E k L) σ) fun σ => K (.own j) fr σ) : SxCall C q f args K fr σ :=
  call_mksl j hj ha hp fun ds h => by subst h; exact hK
theorem call_eatE {i E k : Nat} {ds : List Da} {f : FuncId} (pre : List Dat) {args : List Dat} {ps xs L : List Da} {K : KD} (hg : sget i σ = some (.slice E k ds)) (hpre : flat1L pre = some ps) (ha : flat1L args = some xs) (hp : EatN C f E k ds ps xs (fun ds => ds = L))
    (hK : forceF (killF i .undef fr) fun fr => forceS (sturn (killO i .undef) i (.slice E k L) σ) fun σ => K (.own i) fr σ) : SxCall C false f (pre ++ .own i :: args) K fr σ :=
  call_eatN pre hg hpre ha hp fun ds h => by subst h; exact hK
theorem eatn_of {n E k : Nat} (hC : C.Ok T) {G : List FuncId} {pl : List (Nat × Plan)} {f : FuncId} {fn : Func} {c : Code} (hf : C.P.funcs[f]? = some fn) (hb : fn.body = some c) (hn : fn.ntmps = n) (hrun : ∀ (vs : Array Value) (w : World), (callFunc f vs).run C.P w = .ok (.enter f vs) w) (hk : codeOk C.P G pl c = true) {ds pre xs : List Da} {Q : List Da → Prop} (hl : pre.length + (xs.length + 1) ≤ n)
    (h : sxCode C T n pl c (sxEnd T fn.results.toList (MakeSlK E k Q)) (params (datas pre ++ .own 900 :: datas xs) 0) [(900, .slice E k ds)]) : EatN C f E k ds pre xs Q := by
  intro O w v css us1 us hs hbO hO hcs hk0 hg hr1 hr
  obtain ⟨css0, h0, rfl⟩ := hr1
  obtain ⟨css1, h1, rfl⟩ := hr
  refine ⟨hrun _ _, ?_⟩
  let σ0 : Sg := [(900, .slice E k ds)]
  let η0 : Nat → Value := fun _ => v
  let φ0 : Nat → List Nat := fun _ => v.ownBlock.toList
  have hbl0 : blocks φ0 σ0 = v.ownBlock.toList := by simp [blocks, σ0, φ0]
  have hset : ∀ c, c ∈ lessO O v ++ blocks φ0 σ0 ↔ c ∈ O := fun c => by
    rw [hbl0, List.mem_append, mem_lessO]
    constructor
    · rintro (h | h)
      · exact h.1
      · exact hbO c h
    · intro h
      by_cases e : c ∈ v.ownBlock.toList
      · exact .inr e
      · exact .inl ⟨h, e⟩
  have hsame : Later O w (lessO O v ++ blocks φ0 σ0) w := ⟨Nat.le_refl _, fun _ _ _ => rfl, fun c hn _ hm => hn ((hset c).1 hm)⟩
  have hm : Mem C (lessO O v) v.ownBlock.toList w σ0 η0 φ0 w := by
    refine ⟨Tch.refl _ _, ?_, by simp [ids, σ0], ?_, ?_, fun c hc => hO c (mem_lessO.1 hc).1, fun g hgm => (hg g hgm).later hsame⟩
    · intro p hp
      simp only [σ0, List.mem_singleton] at hp
      subst hp
      exact ⟨css, hs, rfl, RepCss.later hsame _ _ hcs, hk0⟩
    · intro i hi j hj hij c hc
      simp only [ids, σ0, List.map_cons, List.map_nil, List.mem_singleton] at hi hj
      omega
    · intro i hi c hc
      exact .inl ⟨hc, fun hm => (mem_lessO.1 hm).2 hc⟩
  have hr2 : RepDss η0 (ids σ0) (lessO O v ++ blocks φ0 σ0) w (.own 900 :: datas xs) ([v] :: css1) := by
    simp only [RepDss]
    exact ⟨_, _, rfl, by simp [RepD, ids, σ0, η0], datas_rep.2 (RepCss.later hsame _ _ h1)⟩
  have hr0 : RepDss η0 (ids σ0) (lessO O v ++ blocks φ0 σ0) w (datas pre) css0 := datas_rep.2 (RepCss.later hsame _ _ h0)
  obtain ⟨hr3, hz⟩ := repDss_append hr0 hr2
  have hlen : (datas pre ++ Dat.own 900 :: datas xs).length ≤ n := by
    have : ∀ xs : List Da, (datas xs).length = xs.length := fun xs => by induction xs with | nil => rfl | cons x xs ih => simp [datas, ih]
    rw [List.length_append, List.length_cons, this, this]; exact hl
  have := calls_of_sx hC hf hb hn hk hr3 hlen hm h
  rw [hz, datas_zip, List.zipWith_cons_cons, datas_zip] at this
  refine this.mono ?_
  rintro e w' ⟨v', d, σ', η', φ', rfl, hK, hm', cs, g1, g2⟩
  unfold MakeSlK at hK
  split at hK
  · rename_i i
    rcases withO_some hK with hK | ⟨o, ho, hK⟩
    · exact hK.elim
    split at hK
    · rename_i E' k' ds'
      obtain ⟨rfl, rfl, hQ⟩ := hK
      simp only [RepD] at g1
      obtain ⟨hi, rfl⟩ := g1
      obtain ⟨css', hs', e2, hrr, hkk⟩ := own_slice_val hm' ho
      have e3 : v' = η' i := g2
      subst e3
      refine ⟨_, ds', css', rfl, hQ, hs', fun b hb => ?_, ?_, hkk, hm'.tch⟩
      · rcases hm'.new i hi b (by rw [e2]; exact hb) with h | h
        · exact .inl h.1
        · exact .inr h
      · refine RepCss.later ⟨Nat.le_refl _, fun _ _ _ => rfl, fun b hn _ hm' => hn ?_⟩ _ _ hrr
        rcases List.mem_append.1 hm' with h | h
        · exact List.mem_append_left _ h
        · exact List.mem_append_right _ (mem_blocks hi (by rw [e2]; exact h))
    · exact hK.elim
  · simp only [RepD, RepC] at g1
    subst g1
    have e3 : v' = .slice none 0 0 := g2
    subst e3
    exact ⟨_, [], [], rfl, hK, Sl.nil _ _ _ _, fun b hb => (by cases hb), by simp [RepCss], by simp, hm'.tch⟩
  · exact hK.elim
end
end Go.Sx
