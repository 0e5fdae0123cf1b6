/- A struct of given-up things as an argument. -/
import Derived.Test.YtlchegpgicdldaaDoorSxu
namespace Go.Sx
open Go Go.RowKit Go.Reg
theorem datas_repDs {η : Nat → Value} {I O : List Nat} {w : World} : ∀ {xs : List Da} {cs : List Value}, RepDs η I O w (datas xs) cs → RepCs O w xs cs
  | [], cs, h => by simpa only [datas, RepDs, RepCs] using h
  | x :: xs, cs, h => by
    simp only [datas, RepDs, RepD] at h
    obtain ⟨c1, c2, rfl, h1, h2⟩ := h
    simp only [RepCs]
    exact ⟨c1, c2, rfl, h1, datas_repDs h2⟩
/-- a struct of plain data among the arguments -/
theorem call_agg {C : Cx} {fr : Fr} {σ : Sg} {q : Bool} {f : FuncId} {ds : List Dat} {xs : List Da} {rest : List Dat} {K : KD} (h : allD ds = some xs) (hc : SxCall C q f (.d (.agg xs) :: rest) K fr σ) : SxCall C q f (.agg ds :: rest) K fr σ := by
  unfold SxCall at hc ⊢
  rintro B S w0 η φ n a w vs hM ⟨css, hr, rfl⟩
  simp only [RepDss] at hr
  obtain ⟨c1, c2, rfl, r1, r2⟩ := hr
  rw [allD_datas h] at r1
  simp only [RepD] at r1
  exact hc B S w0 η φ n a w _ hM ⟨c1 :: c2, by simp only [RepDss, RepD, RepC]; exact ⟨c1, c2, rfl, datas_repDs r1, r2⟩, rfl⟩
/-- the same, as the second argument -/
theorem call_agg2 {C : Cx} {fr : Fr} {σ : Sg} {q : Bool} {f : FuncId} {d0 : Dat} {ds : List Dat} {xs : List Da} {rest : List Dat} {K : KD} (h : allD ds = some xs) (hc : SxCall C q f (d0 :: .d (.agg xs) :: rest) K fr σ) : SxCall C q f (d0 :: .agg ds :: rest) K fr σ := by
  unfold SxCall at hc ⊢
  rintro B S w0 η φ n a w vs hM ⟨css, hr, rfl⟩
  simp only [RepDss] at hr
  obtain ⟨c1, c2, rfl, r1, c3, c4, rfl, r2, r3⟩ := hr
  rw [allD_datas h] at r2
  simp only [RepD] at r2
  exact hc B S w0 η φ n a w _ hM ⟨c1 :: c3 :: c4, by simp only [RepDss, RepD, RepC]; exact ⟨c1, c3 :: c4, rfl, r1, c3, c4, rfl, datas_repDs r2, r3⟩, rfl⟩
section
variable {C : Cx} {T : Tab} {B S : List Nat} {w0 w : World} {n : Nat} {fr : Fr} {σ : Sg} {η : Nat → Value} {φ : Nat → List Nat} {a : Act} {i : Nat} {t : TypeId} {xs : List Da}
theorem Models.cellsRefR (hM : Models C B S w0 n fr σ η φ a w) (hg : sget i σ = some (.cells t (datas xs))) : Later (B ++ blocks φ σ) w (B ++ blocks φ (sdel (killO i (.ref (.agg xs))) i σ)) w ∧ RepC (B ++ blocks φ (sdel (killO i (.ref (.agg xs))) i σ)) w (.ref (.agg xs)) [η i] := by
  have hm := hM.mem
  have hi := mem_ids (sget_mem hg)
  have hsub : ∀ b ∈ B ++ blocks φ (sdel (killO i (.ref (.agg xs))) i σ), b ∈ B ∨ ∃ j ∈ ids σ, j ≠ i ∧ b ∈ φ j := by
    intro b hb
    rcases List.mem_append.1 hb with hb | hb
    · exact .inl hb
    · obtain ⟨p, hp, hb⟩ := List.mem_flatMap.1 hb
      obtain ⟨q, hq, hne, rfl⟩ := mem_sdel hp
      exact .inr ⟨q.1, mem_ids hq, hne, hb⟩
  have hl : Later (B ++ blocks φ σ) w (B ++ blocks φ (sdel (killO i (.ref (.agg xs))) i σ)) w := ⟨Nat.le_refl _, fun _ _ _ => rfl, fun b hn _ hb => by
    rcases hsub b hb with h | ⟨j, hj, _, h⟩
    · exact hn (List.mem_append_left _ h)
    · exact hn (List.mem_append_right _ (mem_blocks hj h))⟩
  refine ⟨hl, ?_⟩
  obtain ⟨b, cs, e1, e2, hB, hrr⟩ := hm.own _ (sget_mem hg)
  have hr2 := RepCs.later hl _ _ (repDs_datas.1 hrr)
  have hbi : b ∈ φ i := by rw [show φ i = [b] from e2]; simp
  simp only [RepC]
  refine ⟨b, 0, cs, by rw [show η i = _ from e1], fun hb => ?_, hB.lt, hr2, fun j u hj => by rw [Nat.zero_add]; exact hB.cell hj⟩
  rcases hsub b hb with h | ⟨j, hj, hne, h⟩
  · exact notIn_B hm hi hbi h
  · exact hm.disj j hj i hi hne b h hbi
/-- a call, before which an owned struct is given up -/
theorem call_frzR (i : Nat) {q : Bool} {f : FuncId} {args : List Dat} {K : KD} {ds : List Dat} (hg : sget i σ = some (.cells t ds)) (ha : allD ds = some xs) (h : SxCall C q f (kills i (.ref (.agg xs)) args) K (killF i (.ref (.agg xs)) fr) (sdel (killO i (.ref (.agg xs))) i σ)) : SxCall C q f args K fr σ := by
  have hd := allD_datas ha
  subst hd
  unfold SxCall at h ⊢
  rintro B S w0 η φ n a w vs hM ⟨css, hr, rfl⟩
  obtain ⟨hl, hr0⟩ := hM.cellsRefR hg
  have hI : ∀ j ∈ ids σ, j ≠ i → j ∈ ids (sdel (killO i (.ref (.agg xs))) i σ) ∧ η j = η j := fun j hj hne => ⟨by rw [ids_sdel]; exact List.mem_filter.2 ⟨hj, by simpa using hne⟩, rfl⟩
  have hr' := RepDss.kill (x := .ref (.agg xs)) rfl hl hI hr0 _ _ hr
  obtain ⟨h1, h2⟩ := hM.mem.del (x := .ref (.agg xs)) rfl hr0
  have hM' : Models C B S w0 n (killF i (.ref (.agg xs)) fr) (sdel (killO i (.ref (.agg xs))) i σ) η φ a w := ⟨h1, hM.fr.kill rfl h2 hI hr0, hM.defers, hM.size⟩
  exact h B S w0 η φ n a w _ hM' ⟨css, hr', by rw [zip_kills rfl]⟩
end
end Go.Sx
