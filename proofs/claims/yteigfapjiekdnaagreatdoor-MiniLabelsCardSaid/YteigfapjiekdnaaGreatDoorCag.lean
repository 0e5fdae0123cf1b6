/- A struct of given-up things as an argument. -/
import Derived.Test.YteigfapjiekdnaaGreatDoorSxu
namespace Go.Sx
open Go Go.RowKit Go.Reg
theorem datas_repDs {η : Nat → Value} {I O : List Nat} {w : World} : ∀ {xs : List Da} {cs : List Value}, RepDs η I O w (datas xs) cs → RepCs O w xs cs
  | [], cs, h => by simpa only [datas, RepDs, RepCs] using h
  | x :: xs, cs, h => by
    simp only [datas, RepDs, RepD] at h
    obtain ⟨c1, c2, rfl, h1, h2⟩ := h
    simp only [RepCs]
    exact ⟨c1, c2, rfl, h1, datas_repDs h2⟩
/-- a struct of plain data among the arguments -/
theorem call_agg {C : Cx} {fr : Fr} {σ : Sg} {q : Bool} {f : FuncId} {ds : List Dat} {xs : List Da} {rest : List Dat} {K : KD} (h : allD ds = some xs) (hc : SxCall C q f (.d (.agg xs) :: rest) K fr σ) : SxCall C q f (.agg ds :: rest) K fr σ := by
  unfold SxCall at hc ⊢
  rintro B S w0 η φ n a w vs hM ⟨css, hr, rfl⟩
  simp only [RepDss] at hr
  obtain ⟨c1, c2, rfl, r1, r2⟩ := hr
  rw [allD_datas h] at r1
  simp only [RepD] at r1
  exact hc B S w0 η φ n a w _ hM ⟨c1 :: c2, by simp only [RepDss, RepD, RepC]; exact ⟨c1, c2, rfl, datas_repDs r1, r2⟩, rfl⟩
/-- the same, as the second argument -/
theorem call_agg2 {C : Cx} {fr : Fr} {σ : Sg} {q : Bool} {f : FuncId} {d0 : Dat} {ds : List Dat} {xs : List Da} {rest : List Dat} {K : KD} (h : allD ds = some xs) (hc : SxCall C q f (d0 :: .d (.agg xs) :: rest) K fr σ) : SxCall C q f (d0 :: .agg ds :: rest) K fr σ := by
  unfold SxCall at hc ⊢
  rintro B S w0 η φ n a w vs hM ⟨css, hr, rfl⟩
  simp only [RepDss] at hr
  obtain ⟨c1, c2, rfl, r1, c3, c4, rfl, r2, r3⟩ := hr
  rw [allD_datas h] at r2
  simp only [RepD] at r2
  exact hc B S w0 η φ n a w _ hM ⟨c1 :: c3 :: c4, by simp only [RepDss, RepD, RepC]; exact ⟨c1, c3 :: c4, rfl, r1, c3, c4, rfl, datas_repDs r2, r3⟩, rfl⟩
end Go.Sx
