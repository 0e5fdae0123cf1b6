/- A slice that is owned: append of one element, a look at an element. -/
import Derived.Test.YtlchegpgicdldaaDoorMap
namespace Go.Reg
open Go Go.RowKit

section
variable {α : Type} {P : Program}

/-- v is a slice of elements of type E (k cells each) that holds l, and nobody else has its block -/
def Sl (E k : Nat) (enc : α → List Value) (w : World) (v : Value) (l : List α) : Prop := w.ownsRow 0 E k v l.length (l.flatMap enc)

theorem Sl.nil (E k : Nat) (enc : α → List Value) (w : World) : Sl E k enc w (.slice none 0 0) [] := World.ownsRow_nil w 0 E k
theorem Sl.keep {E k : Nat} {enc : α → List Value} {S : List Nat} {w w' : World} {v : Value} {l : List α} (h : Sl E k enc w v l) (t : Tch S w w') (hn : ∀ b, v.ownBlock = some b → b ∉ S) : Sl E k enc w' v l := by
  refine ⟨h.1, ?_⟩
  rcases h.2 with hh | ⟨g, cap, cur, rfl, h0, hg, r⟩
  · exact .inl hh
  · exact .inr ⟨g, cap, cur, rfl, h0, by rw [t.blk g (Array.getElem?_eq_some_iff.1 hg).1 (hn g rfl)]; exact hg, r⟩
theorem Sl.lt {E k : Nat} {enc : α → List Value} {w : World} {v : Value} {l : List α} (h : Sl E k enc w v l) {b : Nat} (hb : v.ownBlock = some b) : b < w.heap.size := (World.ownsRow.lt h b hb).2
theorem Sl.shape {E k : Nat} {enc : α → List Value} {w : World} {v : Value} {l : List α} (h : Sl E k enc w v l) : (v = .slice none 0 0 ∧ l = []) ∨ ∃ g cap, v = .slice (some ⟨g, 0, none⟩) l.length cap ∧ l.length ≤ cap := by
  rcases h.2 with ⟨h1, h2⟩ | ⟨g, cap, cur, rfl, _, _, hc, _⟩
  · exact .inl ⟨h1, List.eq_nil_of_length_eq_zero h2⟩
  · exact .inr ⟨g, cap, rfl, hc⟩
theorem Sl.neBlk {E k : Nat} {enc : α → List Value} {w : World} {v : Value} {l : List α} (h : Sl E k enc w v l) {b c : Nat} (hb : v.ownBlock = some b) {T : TypeId} {cs : List Value} (hB : Blk w c T cs) (hT : E ≠ T) : b ≠ c := by
  intro e; subst e
  rcases h.2 with ⟨rfl, _⟩ | ⟨g, cap, cur, rfl, _, hg, _⟩
  · cases hb
  · simp [Value.ownBlock] at hb; subst hb
    unfold Blk at hB
    rw [hg] at hB; simp at hB; exact hT hB.2

theorem Sl.neMap {E k : Nat} {enc : α → List Value} {w : World} {v : Value} {l : List α} (h : Sl E k enc w v l) {b c : Nat} (hb : v.ownBlock = some b) {K V : Type} {encK : K → Value} {encV : V → Value} {m : List (K × V)} (hM : MapAt encK encV w c m) : b ≠ c := by
  intro e; subst e
  obtain ⟨es, ck, hm, _⟩ := hM
  rcases h.2 with ⟨rfl, _⟩ | ⟨g, cap, cur, rfl, _, hg, _⟩
  · cases hb
  · simp [Value.ownBlock] at hb; subst hb
    rw [hg] at hm; cases hm

theorem flat_at {enc : α → List Value} {k : Nat} (he : ∀ x, (enc x).length = k) : ∀ (l : List α) (i : Nat) (x : α) (j : Nat), l[i]? = some x → j < k → (l.flatMap enc)[i * k + j]? = (enc x)[j]?
  | [], i, x, j, h, _ => by simp at h
  | y :: l, 0, x, j, h, hj => by
    simp at h; subst h
    simp only [List.flatMap_cons, Nat.zero_mul, Nat.zero_add]
    rw [List.getElem?_append_left (by rw [he]; exact hj)]
  | y :: l, i + 1, x, j, h, hj => by
    simp only [List.flatMap_cons]
    rw [List.getElem?_append_right (by rw [he, Nat.add_mul]; omega), he]
    have : (i + 1) * k + j - k = i * k + j := by rw [Nat.add_mul]; omega
    rw [this]
    exact flat_at he l i x j (by simpa using h) hj

theorem Sl.cells {E k : Nat} {enc : α → List Value} (he : ∀ x, (enc x).length = k) {w : World} {v : Value} {l : List α} (h : Sl E k enc w v l) {g n cap : Nat} (hv : v = .slice (some ⟨g, 0, none⟩) n cap) {i : Nat} {x : α} (hi : l[i]? = some x) {j : Nat} {u : Value} (hj : (enc x)[j]? = some u) :
    w.cell? ⟨g, i * k + j, none⟩ = some u := by
  have h1 := (List.getElem?_eq_some_iff.1 hj).1
  rw [he] at h1
  have h2 := flat_at he l i x j hi h1
  have := World.ownsRow.cells h (g := g) (by rw [hv]; rfl) (i * k + j) u (by rw [h2]; exact hj)
  simpa [Addr.add_lit] using this

/-- 'append(v, x)', x laid in a block of its own at a -/
theorem run_append_sl {E k : Nat} {enc : α → List Value} (he : ∀ x, (enc x).length = k) (h1 : ∀ x, ∀ u ∈ enc x, u.oneCell' = true) {t : TypeId} {bytes : Nat} (ht : P.underlying t = some (.slice E)) (hinfo : (P.info? E).map (fun i => (i.zero.map (·.cells.size), i.size, i.bytes)) = some (some k, k, bytes)) (hkb : (decide (0 < k) && decide (bytes ≤ 1000)) = true)
    {w : World} {v : Value} {l : List α} (h : Sl E k enc w v l) (hlen : l.length ≤ 4294967296) (x : α) {a c : Nat} {T : TypeId} (hx : Blk w a T (enc x)) (ty : TypeId) :
    ∃ v' w', (Builtin.append_ #[t, t] ty #[v, .slice (some ⟨a, 0, none⟩) 1 c]).run P w = .ok v' w' ∧ Sl E k enc w' v' (l ++ [x]) ∧ Tch v.ownBlock.toList w w' ∧ (v'.ownBlock = v.ownBlock ∨ v'.ownBlock = some w.heap.size) := by
  obtain ⟨i, z, hi, hz, hsize, hby, hzs⟩ : ∃ i z, P.info? E = some i ∧ i.zero = some z ∧ i.size = k ∧ i.bytes = bytes ∧ z.cells.size = k := by
    cases hP : P.info? E with
    | none => rw [hP] at hinfo; cases hinfo
    | some i =>
      rw [hP] at hinfo
      simp only [Option.map_some, Option.some.injEq, Prod.mk.injEq, Option.map_eq_some_iff] at hinfo
      obtain ⟨⟨z, hz, h1⟩, h2, h3⟩ := hinfo
      exact ⟨i, z, rfl, hz, h2, h3, h1⟩
  simp only [Bool.and_eq_true, decide_eq_true_eq] at hkb
  obtain ⟨hk, hb0⟩ := hkb
  have hnews : ∀ j u, (enc x)[j]? = some u → w.cell? ((⟨a, 0, none⟩ : Addr).add j) = some u := fun j u hu => by
    have := hx.cell hu
    simpa [Addr.add_lit] using this
  have hl1 : (enc x).length = 1 * k := by rw [he]; omega
  have hfit : (l.length + 1) * bytes ≤ 4294967297 * 1000 := Nat.mul_le_mul (by omega) hb0
  obtain ⟨v', w', hr, ho, hg, _⟩ := run_append_own (P := P) w 0 t ty E i z k bytes ht hi hz hsize hby hzs hk v l.length (l.flatMap enc) h ⟨a, 0, none⟩ 1 c (enc x) hl1 hnews (h1 x) (by simp only [maxLen]; omega) (by omega) (Nat.zero_le _)
  refine ⟨v', w', hr, ?_, ⟨hg.os, hg.tape, hg.output, hg.size, fun j hj hn => hg.block j hj (fun e => hn (by rw [← e]; simp))⟩, ?_⟩
  · unfold Sl; simpa using ho
  · subst hsize
    subst hby
    rcases h.2 with ⟨rfl, hn⟩ | ⟨g, cap, cur, rfl, _, hcur, hnc, hcm, hcs, htake⟩
    · have hx' := run_append_nil (P := P) w t ty E i z ht hi hz ⟨a, 0, none⟩ 1 c (enc x) hl1 hnews (by omega) (by omega) (by omega)
      rw [hx'] at hr
      simp at hr
      exact .inr (by rw [← hr.1]; rfl)
    · by_cases hroom : l.length + 1 ≤ cap
      · have hfit2 : l.length * i.size + (enc x).length ≤ cur.size := by rw [hl1, hcs, ← Nat.add_mul]; exact Nat.mul_le_mul_right _ hroom
        have hx' := run_append_room (P := P) w t ty E i ht hi g l.length cap cur hcur ⟨a, 0, none⟩ 1 c (enc x) hl1 hnews (h1 x) hroom hfit2
        rw [hx'] at hr
        simp at hr
        exact .inl (by rw [← hr.1]; rfl)
      · have holds : ∀ j u, (l.flatMap enc)[j]? = some u → w.cell? ((⟨g, 0, none⟩ : Addr).add j) = some u := World.ownsRow.cells h (g := g) rfl
        have hx' := run_append_grow (P := P) w t ty E i z ht hi hz ⟨g, 0, none⟩ l.length cap (l.flatMap enc) h.1 holds ⟨a, 0, none⟩ 1 c (enc x) hl1 hnews (by omega) (by omega) (growslice_fits (by omega) (by omega))
        rw [hx'] at hr
        simp at hr
        exact .inr (by rw [← hr.1]; rfl)
end
end Go.Reg
