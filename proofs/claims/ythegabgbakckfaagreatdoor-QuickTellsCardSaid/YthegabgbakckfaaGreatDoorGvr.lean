/- What a variable's block holds, as a walk knows it. -/
import Derived.Test.YthegabgbakckfaaGreatDoorNum
import Derived.Lib.LaidTab
namespace Go.Proofs.YthegabgbakckfaaGreatDoor
open Go.Sx Go.RowKit Go.Reg Go.Gr

set_option maxRecDepth 100000
theorem glob_at {C : Cx} {O : List Nat} {w : World} {p : Nat × Da} (h : Glob C O w) (hp : p ∈ C.Γ) : ∃ c, RepC O w p.2 c ∧ Cells w p.1 0 c ∧ ∃ cs t fr, w.heap[p.1]? = some (.cells cs t fr) ∧ cs.size = gsz p.2 := by
  obtain ⟨⟨cs, h1, h2⟩, _, h3⟩ := h p hp
  simp only [RepC] at h1
  obtain ⟨b, o, c, rfl, _, _, h4, h5⟩ := h1
  simp only [toV, List.headD_cons, Value.pointer.injEq, Option.some.injEq, Addr.mk.injEq, and_true] at h2
  obtain ⟨h6, rfl⟩ := h2
  subst h6
  exact ⟨c, h4, h5, h3⟩
theorem glob_cell {C : Cx} {O : List Nat} {w : World} {g : Nat} {d : Da} {v : Value} (h : Glob C O w) (hp : (g, d) ∈ C.Γ) (hd : ∀ c, RepC O w d c → c = [v]) : w.cell? ⟨g, 0, none⟩ = some v := by
  obtain ⟨c, h1, h2, _⟩ := glob_at h hp
  rw [hd c h1] at h2
  exact h2 0 _ rfl
theorem ints_cells {O : List Nat} {w : World} {k : IntKind} : ∀ {l : List Int} {c : List Value}, RepCs O w (l.map (Da.int k)) c → c = l.map (Value.int k)
  | [], c, h => by simpa only [List.map_nil, RepCs] using h
  | x :: l, c, h => by
    simp only [List.map_cons, RepCs, RepC] at h
    obtain ⟨c1, c2, rfl, rfl, h⟩ := h
    rw [ints_cells h]; rfl
theorem tab_of {P : Program} {C : Cx} {O : List Nat} {w : World} {g : Nat} {k : IntKind} {l : List Int} {name : String} (h : Glob C O w) (hp : (g, .agg (l.map (Da.int k))) ∈ C.Γ) (hn : P.globalNamed name = some g) : Lib.TabIs P w name k l := by
  obtain ⟨c, h1, h2, cs, t, fr, h3, h4⟩ := glob_at h hp
  simp only [RepC] at h1
  have hc := ints_cells h1
  subst hc
  unfold Lib.TabIs World.var?
  rw [hn, Option.bind_some]
  rw [h3]
  simp only [Option.some.injEq]
  have hsz : cs.size = l.length := by rw [h4]; simp [gsz]
  apply Array.ext
  · simp [hsz]
  · intro i h5 h6
    have := h2 i (Value.int k (l[i]'(by omega))) (by rw [List.getElem?_map, List.getElem?_eq_getElem (by omega)]; rfl)
    simp only [World.cell?, h3, Nat.zero_add] at this
    rw [Array.getElem?_eq_getElem h5] at this
    simpa using this
theorem rep_str {O : List Nat} {w : World} {s : ByteArray} {v : Value} (h : Rep O w (.str s) v) : v = .string s := by
  obtain ⟨cs, h1, rfl⟩ := h
  simp only [RepC] at h1
  subst h1; rfl
end Go.Proofs.YthegabgbakckfaaGreatDoor
