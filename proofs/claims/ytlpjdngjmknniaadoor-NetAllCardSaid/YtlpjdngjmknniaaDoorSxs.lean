/- The walk: owned slices given up on the way; calls that look at owned things. -/
import Derived.Test.YtlpjdngjmknniaaDoorSxr
namespace Go.Sx
open Go Go.RowKit Go.Reg

/-- what is owned, given up in steps: known from then on as plain data -/
inductive Frz : Fr → Sg → Fr → Sg → Prop
  | refl (fr : Fr) (σ : Sg) : Frz fr σ fr σ
  | slice {fr fr' : Fr} {σ σ' : Sg} (i : Nat) {E k : Nat} {ds : List Da} (h : sget i σ = some (.slice E k ds)) (r : Frz (killF i (.list k ds) fr) (sdel (killO i (.list k ds)) i σ) fr' σ') : Frz fr σ fr' σ'

section
variable {C : Cx} {T : Tab} {B S : List Nat} {w0 w : World} {n : Nat} {fr : Fr} {σ : Sg} {η : Nat → Value} {φ : Nat → List Nat} {a : Act} {i E k : Nat} {ds : List Da}

theorem Models.freeze (hM : Models C B S w0 n fr σ η φ a w) (hg : sget i σ = some (.slice E k ds)) : Models C B S w0 n (killF i (.list k ds) fr) (sdel (killO i (.list k ds)) i σ) η φ a w := by
  have hm := hM.mem
  have hi := mem_ids (sget_mem hg)
  have hsub : ∀ b ∈ B ++ blocks φ (sdel (killO i (.list k ds)) i σ), b ∈ B ∨ ∃ j ∈ ids σ, j ≠ i ∧ b ∈ φ j := by
    intro b hb
    rcases List.mem_append.1 hb with hb | hb
    · exact .inl hb
    · obtain ⟨p, hp, hb⟩ := List.mem_flatMap.1 hb
      obtain ⟨q, hq, hne, rfl⟩ := mem_sdel hp
      exact .inr ⟨q.1, mem_ids hq, hne, hb⟩
  have hl : Later (B ++ blocks φ σ) w (B ++ blocks φ (sdel (killO i (.list k ds)) i σ)) w := ⟨Nat.le_refl _, fun _ _ _ => rfl, fun b hn _ hb => by
    rcases hsub b hb with h | ⟨j, hj, _, h⟩
    · exact hn (List.mem_append_left _ h)
    · exact hn (List.mem_append_right _ (mem_blocks hj h))⟩
  have hr : RepC (B ++ blocks φ (sdel (killO i (.list k ds)) i σ)) w (.list k ds) [η i] := by
    obtain ⟨css, hs, e2, hrr, hk⟩ := own_slice_val hm hg
    have hlen := repCss_len hrr
    have hr2 := RepCss.later hl _ _ hrr
    simp only [RepC]
    rcases hs.shape with ⟨he, hn⟩ | ⟨g, cap, he, hc⟩
    · subst hn
      have : ds = [] := List.eq_nil_of_length_eq_zero hlen.symm
      subst this
      exact ⟨none, 0, [], by rw [he]; rfl, by simp, by unfold maxLen; omega, by simp [RepCss], by simp, .inl rfl⟩
    · have hgi : g ∈ φ i := by rw [e2, he]; simp [Value.ownBlock]
      refine ⟨_, cap, css, by rw [he, hlen], by omega, ?_, hr2, hk, .inr ⟨g, 0, rfl, ?_, hs.lt (by rw [he]; rfl), sl_cells hs he⟩⟩
      · rcases hs.2 with ⟨h1, _⟩ | ⟨_, _, _, h1, _, _, _, h2, _⟩
        · rw [he] at h1; cases h1
        · rw [he] at h1; cases h1; exact h2
      · intro hb
        rcases hsub g hb with h | ⟨j, hj, hne, h⟩
        · exact notIn_B hm hi hgi h
        · exact hm.disj j hj i hi hne g h hgi
  obtain ⟨h1, h2⟩ := hm.del rfl hr
  exact ⟨h1, hM.fr.kill rfl h2 (fun j hj hne => ⟨by rw [ids_sdel]; exact List.mem_filter.2 ⟨hj, by simpa using hne⟩, rfl⟩) hr, hM.defers, hM.size⟩

theorem Frz.models {fr' : Fr} {σ' : Sg} (h : Frz fr σ fr' σ') : Models C B S w0 n fr σ η φ a w → Models C B S w0 n fr' σ' η φ a w := by
  induction h with
  | refl => exact id
  | slice i h r ih => exact fun hM => ih (hM.freeze h)

/-- loop_inv, and some of what is owned is given up at the head -/
theorem loop_frz {ι : Type} (H : ι → Prop) (I : ι → Fr) (Z : ι → Sg) (μ : ι → Nat) (x0 : ι) {b : Code} {K : KE} {fr0 : Fr} {σ0 : Sg} (hz : ∀ x, okZ (I x) (Z x) = true) (h0 : H x0) (hf : Frz fr σ fr0 σ0) (hI : Sub (I x0) fr0) (hZ : SubS (Z x0) σ0)
    (round : ∀ x, H x → CodeSem C n b (fun e fr σ => match e with | .normal => ∃ y fr' σ', H y ∧ Frz fr σ fr' σ' ∧ Sub (I y) fr' ∧ SubS (Z y) σ' ∧ μ y < μ x | e => K e fr σ) (I x) (Z x)) : CodeSem C n (.loop b) K fr σ := by
  refine codeSem_iff.2 fun B S w0 η φ a w hM => ?_
  refine wp_loop_ghost (fun m a w => ∃ x η φ, H x ∧ μ x = m ∧ Models C B S w0 n (I x) (Z x) η φ a w) (μ x0) ⟨x0, η, φ, h0, rfl, ((hf.models hM).sub hI).only (hz x0) hZ⟩ ?_
  rintro m a w ⟨x, η, φ, hx, rfl, hM⟩
  refine wp_mono (codeSem_iff.1 (round x hx) B S w0 η φ a w hM) ?_
  intro e a' w' hq
  cases e with
  | normal =>
    obtain ⟨fr', σ', η', φ', hM', y, f2, s2, h1, hf, h2, h3, h4⟩ := hq
    exact ⟨μ y, h4, y, η', φ', h1, rfl, ((hf.models hM').sub h2).only (hz y) h3⟩
  | exit id => exact hq
  | goto l => exact hq
  | ret => exact hq
  | panic ch => exact hq
  | outgrown => exact hq

mutual
/-- a datum that points nowhere -/
def Da.flat : Da → Bool
  | .undef | .int _ _ | .bool _ | .prop _ _ | .str _ | .nilp | .nils | .nilm | .nilf | .nili => true
  | .agg ds => flats ds
  | .tuple ds => flats ds
  | _ => false
def flats : List Da → Bool
  | [] => true
  | d :: ds => d.flat && flats ds
end
mutual
theorem RepC.flat {O O' : List Nat} {w w' : World} : ∀ (d : Da) (cs : List Value), d.flat = true → RepC O w d cs → RepC O' w' d cs
  | .agg ds, cs, h, r => by simp only [RepC] at r ⊢; exact RepCs.flat ds cs (by simpa only [Da.flat] using h) r
  | .tuple ds, cs, h, r => by simp only [RepC] at r ⊢; obtain ⟨css, h1, h2⟩ := r; exact ⟨css, RepCss.flat ds css (by simpa only [Da.flat] using h) h1, h2⟩
  | .undef, cs, _, r => r
  | .int _ _, cs, _, r => r
  | .bool _, cs, _, r => r
  | .prop _ _, cs, _, r => r
  | .str _, cs, _, r => r
  | .nilp, cs, _, r => r
  | .nils, cs, _, r => r
  | .nilm, cs, _, r => r
  | .nilf, cs, _, r => r
  | .nili, cs, _, r => r
  | .iface _ _, cs, h, _ => by simp [Da.flat] at h
  | .ref _, cs, h, _ => by simp [Da.flat] at h
  | .list _ _, cs, h, _ => by simp [Da.flat] at h
  | .func _ _ _, cs, h, _ => by simp [Da.flat] at h
  | .raw _, cs, h, _ => by simp [Da.flat] at h
theorem RepCs.flat {O O' : List Nat} {w w' : World} : ∀ (ds : List Da) (cs : List Value), flats ds = true → RepCs O w ds cs → RepCs O' w' ds cs
  | [], cs, _, r => r
  | d :: ds, cs, h, r => by
    simp only [RepCs] at r ⊢
    simp only [flats, Bool.and_eq_true] at h
    obtain ⟨c1, c2, h1, h2, h3⟩ := r
    exact ⟨c1, c2, h1, RepC.flat d c1 h.1 h2, RepCs.flat ds c2 h.2 h3⟩
theorem RepCss.flat {O O' : List Nat} {w w' : World} : ∀ (ds : List Da) (css : List (List Value)), flats ds = true → RepCss O w ds css → RepCss O' w' ds css
  | [], cs, _, r => r
  | d :: ds, cs, h, r => by
    simp only [RepCss] at r ⊢
    simp only [flats, Bool.and_eq_true] at h
    obtain ⟨c1, c2, h1, h2, h3⟩ := r
    exact ⟨c1, c2, h1, RepC.flat d c1 h.1 h2, RepCss.flat ds c2 h.2 h3⟩
end

theorem closeL_ok (hm : Mem C B S w0 σ η φ w) {m : Nat} : ∀ (ds : List Dat) {xs : List Da} {css : List (List Value)}, close.closeL (close T σ m) ds = some xs → RepDss η (ids σ) (B ++ blocks φ σ) w ds css → RepCss B w xs css ∧ List.zipWith toVD ds css = List.zipWith toV xs css
  | [], xs, css, h, hr => by simp [close.closeL] at h; subst h; simp only [RepDss] at hr; subst hr; simp [RepCss]
  | d :: ds, xs, css, h, hr => by
    simp only [close.closeL] at h
    split at h
    · rename_i x xs' h1 h2
      simp at h; subst h
      simp only [RepDss] at hr
      obtain ⟨c1, c2, rfl, r1, r2⟩ := hr
      obtain ⟨g1, g2⟩ := close_ok hm m d h1 r1
      obtain ⟨g3, g4⟩ := closeL_ok hm ds h2 r2
      exact ⟨⟨c1, c2, rfl, g1, g3⟩, by simp [g2, g4]⟩
    · cases h

/-- a call that looks at owned things as at plain data; its answer points nowhere -/
theorem call_borrow {q : Bool} {f : FuncId} {args : List Dat} {xs : List Da} {Q : Da → Prop} {K : KD} (T : Tab) (ha : close.closeL (close T σ 9) args = some xs) (hp : Pure C f xs Q) (hfl : ∀ y, Q y → y.flat = true) (hK : ∀ y, Q y → K (.d y) fr σ) : SxCall C q f args K fr σ := by
  unfold SxCall
  rintro B S w0 η φ n a w vs hM ⟨css, hr, rfl⟩
  obtain ⟨h1, h2⟩ := closeL_ok hM.mem args ha hr
  rw [h2]
  have hgl : Glob C B w := fun g hg => (hM.mem.glob g hg).later (later_B hM.mem)
  obtain ⟨g1, g2⟩ := hp B w _ (fun b hb => hM.mem.lt b (List.mem_append_left _ hb)) hgl ⟨css, h1, rfl⟩
  refine ⟨g1, g2.mono ?_⟩
  rintro e w' ⟨v, y, rfl, hQ, ⟨cs, hv, e2⟩, ht⟩
  exact ⟨v, .d y, fr, σ, η, φ, rfl, hK y hQ, ⟨hM.mem.grow ht, hM.fr.later (Later.same ht _) (fun i hi => ⟨hi, rfl⟩), hM.defers, hM.size⟩, ⟨cs, RepC.flat y cs (hfl y hQ) hv, e2⟩, fun _ => ht.ext⟩
end
theorem rem_ok {b : Int} {K : Prop} (h : b ≠ 0) (hK : K) : b ≠ 0 ∧ K := ⟨h, hK⟩
theorem tmod_nn {a b : Int} (h : 0 ≤ a) : a.tmod b = a % b := Int.tmod_eq_emod_of_nonneg h
end Go.Sx
