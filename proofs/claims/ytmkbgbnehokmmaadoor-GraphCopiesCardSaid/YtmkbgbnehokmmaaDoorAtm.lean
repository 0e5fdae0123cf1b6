/- slices.Sorted(slices.Values(l)) at ints as an owned slice. -/
import Derived.Test.YtmkbgbnehokmmaaDoorAts
import Derived.Test.YtmkbgbnehokmmaaDoorSxu
namespace Go.Proofs.YtmkbgbnehokmmaaDoor
open Go.RowKit Go.Shelf Go.Sx Go.Reg Go.Maps Go.Sort Go.Gr

set_option maxRecDepth 100000
theorem css_ints {O : List Nat} {w : World} : ∀ ss : List Int, RepCss O w (ss.map dI) (ss.map fun n => [Value.int .i64 n])
  | [] => by simp [RepCss]
  | x :: ss => ⟨_, _, rfl, by simp [RepC, dI], css_ints ss⟩
theorem css_row (ss : List Int) : ∀ x ∈ ss.map (fun n => [Value.int .i64 n]), RowOk 1 x := by
  intro x hx
  obtain ⟨n, _, rfl⟩ := List.mem_map.1 hx
  exact ⟨rfl, by simp [Value.oneCell']⟩
theorem css_flat (ss : List Int) : (ss.map fun n => [Value.int .i64 n]).flatMap id = ss.map encZ := by
  induction ss with
  | nil => rfl
  | cons x ss ih => simp only [List.map_cons, List.flatMap_cons, ih]; rfl
theorem sl_of_own {w : World} {base E : Nat} {v : Value} {ss : List Int} (h : w.ownsRow base E 1 v ss.length (ss.map encZ)) : Sl E 1 id w v (ss.map fun n => [Value.int .i64 n]) ∧ ∀ b, v.ownBlock = some b → base ≤ b := by
  unfold Sl
  rw [css_flat, List.length_map]
  rcases h with ⟨h0, ⟨rfl, hn⟩ | ⟨g, cap, cur, rfl, hb, hg, r⟩⟩
  · exact ⟨⟨h0, .inl ⟨rfl, hn⟩⟩, fun b hb => by cases hb⟩
  · exact ⟨⟨h0, .inr ⟨g, cap, cur, rfl, Nat.zero_le _, hg, r⟩⟩, fun b hb' => by simp only [Value.ownBlock, Option.some.injEq] at hb'; subst hb'; exact hb⟩
theorem sorted_mksl (l : List Int) (hl : l.length ≤ 4294967296) : MakeSl C1 58 [.func (.func 82) [] [.ref (dIs l)]] 3 1 (fun ds => ds = (l.mergeSort fun x y => decide (x ≤ y)).map dI) := by
  intro O w us hO hg hr
  obtain ⟨v, vs, rfl, h1, h2⟩ := reps_inv hr
  obtain rfl := reps_inv0 h2
  obtain ⟨cs, r, rfl⟩ := h1
  simp only [RepC, RepCss] at r
  obtain ⟨fs, cs', rfl, ⟨c1, c2, rfl, ⟨b, o, c, rfl, hb, hbl, hc, hcell⟩, rfl⟩, rfl⟩ := r
  simp only [dIs, RepC] at hc
  obtain ⟨a, cap, css, rfl, hlc, hcm, hcs, hrow, hd⟩ := hc
  have hv : w.cell? ⟨b, o, none⟩ = some (.slice a l.length cap) := by have := hcell 0 _ rfl; simpa using this
  refine ⟨by kernel_rfl, ?_⟩
  show Calls _ _ #[.func (.func 82) #[] #[.pointer (some ⟨b, o, none⟩)]] w _
  have hseq : SeqK Fence.wide 3 Tryd.prog 82 #[.pointer (some ⟨b, o, none⟩)] (fun ys => ys = l) l.length w := by
    intro k J W hW hJ hJb hY h0
    have hc' : W.cell? ⟨b, o, none⟩ = some (.slice a l.length cap) := (hW.cell (p := ⟨b, o, none⟩) hbl).trans hv
    rcases hd with hd | ⟨b2, o2, rfl, hb2, hbl2, hcell2⟩
    · have : l = [] := by simpa using hd
      subst this
      exact values1_nilK Fence.wide 3 trivial rfl k b o cap a J W hc' h0
    · refine values1K Fence.wide 3 trivial rfl (by omega) k b o w.heap.size b2 o2 cap l (by omega) hbl2 w J hJb hY W hc' ?_ h0
      intro j hj
      have hf : ∀ (l : List Int) (css : List (List Value)), RepCss O w (l.map dI) css → css.flatten = l.map (Value.int .i64) := by
        intro l
        induction l with
        | nil => intro css h; simp only [List.map_nil, RepCss] at h; subst h; rfl
        | cons x l ih =>
          intro css h
          simp only [List.map_cons, RepCss, dI, RepC] at h
          obtain ⟨_, c2, rfl, rfl, h⟩ := h
          simp only [List.flatten_cons, ih c2 h]; rfl
      exact hcell2 j _ (by rw [hf l css hcs, List.getElem?_map, List.getElem?_eq_getElem hj]; rfl)
  have := sortedK_in Tryd.sortedI Fence.wide 6 trivial trivial trivial trivial rfl (by omega) (sortsIn_wide _) (enters_of Tryd.func81 (by kernel_rfl) rfl) 82 #[.pointer (some ⟨b, o, none⟩)] trivial (enters_of Tryd.func82 (by kernel_rfl) rfl)
    (fun ys => ys = l) l.length (by unfold maxLen; omega) (by omega) w (fun ss h => Nat.le_of_eq (by rw [h])) hseq
  refine (callsIn_wide.1 this).mono ?_
  rintro e w' ⟨v, ss, rfl, rfl, hown, _, hbel⟩
  rw [← List.length_mergeSort (le := fun x y => decide (x ≤ y))] at hown
  obtain ⟨g1, g2⟩ := sl_of_own hown
  exact ⟨v, _, _, rfl, rfl, g1, g2, css_ints _, css_row _, ⟨hbel.os, hbel.tape, hbel.output, hbel.size, fun k hk _ => hbel.block k hk⟩⟩
end Go.Proofs.YtmkbgbnehokmmaaDoor
