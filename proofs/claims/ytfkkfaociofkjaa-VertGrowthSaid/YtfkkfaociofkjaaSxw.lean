/- A function that takes an owned slice and hands back one (in the same block or in a new one): slices.Compact, Delete and their like. -/
import Derived.Test.YtfkkfaociofkjaaSxv
namespace Go.Sx
open Go Go.RowKit Go.Reg
section
variable {C : Cx} {T : Tab} {fr : Fr} {σ : Sg}
def EatSl (C : Cx) (f : FuncId) (E k : Nat) (ds : List Da) (xs : List Da) (Q : List Da → Prop) : Prop :=
  ∀ (O : List Nat) (w : World) (v : Value) (css : List (List Value)) (us : List Value), Sl E k id w v css → (∀ b ∈ v.ownBlock.toList, b ∈ O) → (∀ b ∈ O, b < w.heap.size) → RepCss O w ds css → (∀ x ∈ css, RowOk k x) → Glob C O w → Reps O w xs us →
    (callFunc f (v :: us).toArray).run C.P w = .ok (.enter f (v :: us).toArray) w ∧ Calls C.P f (v :: us).toArray w fun e w' => ∃ u ds' css', e = .returned u ∧ Q ds' ∧ Sl E k id w' u css' ∧ (∀ b ∈ u.ownBlock.toList, b ∈ v.ownBlock.toList ∨ w.heap.size ≤ b) ∧
      RepCss (O ++ u.ownBlock.toList) w' ds' css' ∧ (∀ x ∈ css', RowOk k x) ∧ Tch v.ownBlock.toList w w'
theorem call_eat {i E k : Nat} {ds : List Da} {f : FuncId} {args : List Dat} {xs : List Da} {Q : List Da → Prop} {K : KD} (hg : sget i σ = some (.slice E k ds)) (ha : allD args = some xs) (hp : EatSl C f E k ds xs Q)
    (hK : ∀ ds', Q ds' → forceF (killF i .undef fr) fun fr => forceS (sturn (killO i .undef) i (.slice E k ds') σ) fun σ => K (.own i) fr σ) : SxCall C false f (.own i :: args) K fr σ := by
  unfold SxCall
  rintro B S w0 η φ n a w vs hM ⟨css, hr, rfl⟩
  have hi := mem_ids (sget_mem hg)
  simp only [RepDss] at hr
  obtain ⟨c1, c2, rfl, r1, r2⟩ := hr
  obtain ⟨h1, h2⟩ := allD_rep ha r2
  simp only [RepD] at r1
  obtain ⟨_, rfl⟩ := r1
  obtain ⟨cs0, hs, e2, hrr, hkk⟩ := own_slice_val hM.mem hg
  have hbl : ∀ b ∈ (η i).ownBlock.toList, b ∈ φ i := fun b hb => by rw [e2]; exact hb
  have hzip : List.zipWith toVD (.own i :: args) ([η i] :: c2) = η i :: List.zipWith toV xs c2 := by rw [List.zipWith_cons_cons, h2]; rfl
  rw [hzip]
  obtain ⟨g1, g2⟩ := hp (B ++ blocks φ σ) w (η i) cs0 _ hs (fun b hb => List.mem_append_right _ (mem_blocks hi (hbl b hb))) hM.mem.lt hrr hkk hM.mem.glob ⟨c2, h1, rfl⟩
  refine ⟨g1, g2.mono ?_⟩
  rintro e w' ⟨u, ds', css', rfl, hQ, hs', hbu, hr', hk', ht⟩
  have hF : ∀ b ∈ u.ownBlock.toList, b ∈ φ i ∨ w.heap.size ≤ b := fun b hb => (hbu b hb).imp (hbl b) id
  have hlt := Later.turn (σ := σ) B ht hbl hi hF (killO i .undef) (.slice E k ds')
  have hsame : Later ((B ++ blocks φ σ) ++ u.ownBlock.toList) w' (B ++ blocks (upd φ i u.ownBlock.toList) (sturn (killO i .undef) i (.slice E k ds') σ)) w' := ⟨Nat.le_refl _, fun _ _ _ => rfl, fun b hn _ hm => hn (by
    rcases List.mem_append.1 hm with hm | hm
    · exact List.mem_append_left _ (List.mem_append_left _ hm)
    · rcases sturn_blocks u.ownBlock.toList b hm with h | ⟨j, hj, _, h⟩
      · exact List.mem_append_right _ h
      · exact List.mem_append_left _ (List.mem_append_right _ (mem_blocks hj h)))⟩
  have hm' := hM.mem.turnKill (o := .slice E k ds') (v := u) ht hbl hi hF ⟨css', hs', rfl, RepCss.later hsame _ _ hr', hk'⟩
  have hfr := hM.fr.kill (x := .undef) rfl hlt (I' := ids (sturn (killO i .undef) i (.slice E k ds') σ)) (η' := upd η i u) (i := i) (fun j hj hne => ⟨by rw [ids_sturn]; exact hj, upd_ne _ _ _ hne⟩) (RepC.undef_ex _ _ _)
  have hk2 := hK ds' hQ
  rw [forceF_eq, forceS_eq] at hk2
  exact ⟨u, .own i, _, _, _, _, rfl, hk2, ⟨hm', hfr, hM.defers, hM.size⟩, ⟨[u], by simp only [RepD]; exact ⟨by rw [ids_sturn]; exact hi, by rw [upd_eq]⟩, rfl⟩, fun h => by cases h⟩
end
theorem Pure.lax {C : Cx} {f : FuncId} {xs ys : List Da} {Q : Da → Prop} (h : LaxAs xs ys) (hp : Pure C f ys Q) : Pure C f xs Q := by
  intro O w us hO hg hr
  obtain ⟨css, h1, e⟩ := hr
  obtain ⟨g1, g2⟩ := RepCss.lax h h1
  exact hp O w us hO hg ⟨css, g1, e.trans g2⟩
end Go.Sx
