/- Merged: Ime Atm Lsc Srp Mna. -/
import Derived.Test.YteigfapjiekdnaaGreatDoorKtan
import Derived.Test.YteigfapjiekdnaaGreatDoorKtal
import Derived.Test.YteigfapjiekdnaaGreatDoorSxu
import Derived.Shelf.SlicesG.CompactI
import Derived.Shelf.SlicesG.Delete
import Derived.Test.YteigfapjiekdnaaGreatDoorRows
section
/- quick, plain: images by their places; how many. -/
namespace Go.Gr
open Go.Proofs.YteigfapjiekdnaaGreatDoor
theorem sub_len {α : Type} [DecidableEq α] : ∀ {l m : List α}, l.Nodup → (∀ x ∈ l, x ∈ m) → l.length ≤ m.length
  | [], _, _, _ => Nat.zero_le _
  | x :: l, m, hn, hs => by
    have hx : x ∈ m := hs x (by simp)
    rw [List.nodup_cons] at hn
    have h := sub_len (m := m.erase x) hn.2 fun y hy => by
      have hne : y ≠ x := fun e => hn.1 (e ▸ hy)
      exact (List.mem_erase_of_ne hne).2 (hs y (by simp [hy]))
    rw [List.length_erase_of_mem hx] at h
    have := List.length_pos_of_mem hx
    rw [List.length_cons]; omega
theorem nodup_le {α : Type} [DecidableEq α] {l m : List α} (hn : l.Nodup) (hs : ∀ x ∈ l, x ∈ m) : l.length ≤ m.length := sub_len hn hs
def imgP (G : Gr) (p : Pt) (whole : Bool) : List (List Int) := imgs G.labels.length (okI G p whole) p.labels.length []
structure IsImg (G : Gr) (p : Pt) (whole : Bool) (L : List Int) : Prop where
  len : L.length = p.labels.length
  nodup : L.Nodup
  lt : ∀ x ∈ L, 0 ≤ x ∧ x < (G.labels.length : Int)
  label : ∀ i x, L[i]? = some x → labelV G x = plOf p i
  has : ∀ i j x y, i ≠ j → L[i]? = some x → L[j]? = some y → phOf p i j = true → hasG G x y = true
  only : whole = true → ∀ i j x y, i ≠ j → L[i]? = some x → L[j]? = some y → hasG G x y = true → phOf p i j = true
theorem turn_comm (a b : Int) : turn ⟨a, b⟩ = turn ⟨b, a⟩ := by unfold turn; simp only [Edg.mk.injEq]; omega
theorem phOf_comm (p : Pt) (i j : Nat) : phOf p i j = phOf p j i := by unfold phOf; rw [turn_comm]
theorem hasG_comm (G : Gr) (x y : Int) : hasG G x y = hasG G y x := by unfold hasG; rw [turn_comm]
theorem okB_iff {G : Gr} {p : Pt} {whole : Bool} {n i : Nat} {u v : Int} : okB G p whole n i u v = true ↔ (phOf p i n = true → hasG G u v = true) ∧ (whole = true → hasG G u v = true → phOf p i n = true) := by
  unfold okB
  cases phOf p i n <;> cases hasG G u v <;> cases whole <;> simp
theorem nodup_at {L : List Int} (h : L.Nodup) {i j : Nat} {x : Int} (hi : L[i]? = some x) (hj : L[j]? = some x) : i = j := by
  obtain ⟨h1, e1⟩ := List.getElem?_eq_some_iff.1 hi
  obtain ⟨h2, e2⟩ := List.getElem?_eq_some_iff.1 hj
  rcases Nat.lt_trichotomy i j with hl | hl | hl
  · exact absurd (e1.trans e2.symm) (List.pairwise_iff_getElem.1 h i j h1 h2 hl)
  · exact hl
  · exact absurd (e2.trans e1.symm) (List.pairwise_iff_getElem.1 h j i h2 h1 hl)
theorem mem_imgP {G : Gr} {p : Pt} {whole : Bool} {L : List Int} : L ∈ imgP G p whole ↔ IsImg G p whole L := by
  unfold imgP
  rw [imgs_eq (fun l v h => okI_not h), List.mem_filter, mem_iterL, List.length_nil, okAll0_iff]
  constructor
  · rintro ⟨⟨h1, h2, h3⟩, h4⟩
    have key : ∀ i v, L[i]? = some v → labelV G v = plOf p i ∧ ∀ k u, k < i → L[k]? = some u → okB G p whole i k u v = true := by
      intro i v hv
      have hil := (List.getElem?_eq_some_iff.1 hv).1
      have := okI_iff.1 (h4 i v hv)
      rw [List.length_take, Nat.min_eq_left (by omega)] at this
      exact ⟨this.1, fun k u hk hu => this.2.2 k u hk (by rw [List.getElem?_take, if_pos hk]; exact hu)⟩
    refine ⟨h1, h2, h3, fun i x hx => (key i x hx).1, fun i j x y hij hx hy hp => ?_, fun hw i j x y hij hx hy hp => ?_⟩
    · rcases Nat.lt_or_gt_of_ne hij with h | h
      · exact (okB_iff.1 ((key j y hy).2 i x h hx)).1 hp
      · rw [hasG_comm]
        exact (okB_iff.1 ((key i x hx).2 j y h hy)).1 (by rw [phOf_comm]; exact hp)
    · rcases Nat.lt_or_gt_of_ne hij with h | h
      · exact (okB_iff.1 ((key j y hy).2 i x h hx)).2 hw hp
      · rw [phOf_comm]
        exact (okB_iff.1 ((key i x hx).2 j y h hy)).2 hw (by rw [hasG_comm]; exact hp)
  · intro h
    refine ⟨⟨h.len, h.nodup, h.lt⟩, fun i v hv => ?_⟩
    have hil := (List.getElem?_eq_some_iff.1 hv).1
    rw [okI_iff, List.length_take, Nat.min_eq_left (by omega)]
    refine ⟨h.label i v hv, fun hm => ?_, fun k u hk hu => ?_⟩
    · obtain ⟨u, hu, e⟩ := List.mem_take_iff_getElem.1 hm
      have := nodup_at h.nodup hv (List.getElem?_eq_some_iff.2 ⟨by omega, e⟩)
      omega
    · rw [List.getElem?_take, if_pos hk] at hu
      exact okB_iff.2 ⟨fun hp => h.has k i u v (by omega) hu hv hp, fun hw hp => h.only hw k i u v (by omega) hu hv hp⟩
end Go.Gr
end

section
/- slices.Sorted(slices.Values(l)) at ints as an owned slice. -/
namespace Go.Proofs.YteigfapjiekdnaaGreatDoor
open Go.RowKit Go.Shelf Go.Sx Go.Reg Go.Maps Go.Sort Go.Gr

set_option maxRecDepth 100000
theorem css_ints {O : List Nat} {w : World} : ∀ ss : List Int, RepCss O w (ss.map dI) (ss.map fun n => [Value.int .i64 n])
  | [] => by simp [RepCss]
  | x :: ss => ⟨_, _, rfl, by simp [RepC, dI], css_ints ss⟩
theorem css_row (ss : List Int) : ∀ x ∈ ss.map (fun n => [Value.int .i64 n]), RowOk 1 x := by
  intro x hx
  obtain ⟨n, _, rfl⟩ := List.mem_map.1 hx
  exact ⟨rfl, by simp [Value.oneCell']⟩
theorem css_flat (ss : List Int) : (ss.map fun n => [Value.int .i64 n]).flatMap id = ss.map encZ := by
  induction ss with
  | nil => rfl
  | cons x ss ih => simp only [List.map_cons, List.flatMap_cons, ih]; rfl
theorem sl_of_own {w : World} {base E : Nat} {v : Value} {ss : List Int} (h : w.ownsRow base E 1 v ss.length (ss.map encZ)) : Sl E 1 id w v (ss.map fun n => [Value.int .i64 n]) ∧ ∀ b, v.ownBlock = some b → base ≤ b := by
  unfold Sl
  rw [css_flat, List.length_map]
  rcases h with ⟨h0, ⟨rfl, hn⟩ | ⟨g, cap, cur, rfl, hb, hg, r⟩⟩
  · exact ⟨⟨h0, .inl ⟨rfl, hn⟩⟩, fun b hb => by cases hb⟩
  · exact ⟨⟨h0, .inr ⟨g, cap, cur, rfl, Nat.zero_le _, hg, r⟩⟩, fun b hb' => by simp only [Value.ownBlock, Option.some.injEq] at hb'; subst hb'; exact hb⟩
theorem sorted_mksl (l : List Int) (hl : l.length ≤ 4294967296) : MakeSl C1 60 [.func (.func 119) [] [.ref (dIs l)]] 3 1 (fun ds => ds = (l.mergeSort fun x y => decide (x ≤ y)).map dI) := by
  intro O w us hO hg hr
  obtain ⟨v, vs, rfl, h1, h2⟩ := reps_inv hr
  obtain rfl := reps_inv0 h2
  obtain ⟨cs, r, rfl⟩ := h1
  simp only [RepC, RepCss] at r
  obtain ⟨fs, cs', rfl, ⟨c1, c2, rfl, ⟨b, o, c, rfl, hb, hbl, hc, hcell⟩, rfl⟩, rfl⟩ := r
  simp only [dIs, RepC] at hc
  obtain ⟨a, cap, css, rfl, hlc, hcm, hcs, hrow, hd⟩ := hc
  have hv : w.cell? ⟨b, o, none⟩ = some (.slice a l.length cap) := by have := hcell 0 _ rfl; simpa using this
  refine ⟨by kernel_rfl, ?_⟩
  show Calls _ _ #[.func (.func 119) #[] #[.pointer (some ⟨b, o, none⟩)]] w _
  have hseq : SeqK Fence.wide 3 Tryz.prog 119 #[.pointer (some ⟨b, o, none⟩)] (fun ys => ys = l) l.length w := by
    intro k J W hW hJ hJb hY h0
    have hc' : W.cell? ⟨b, o, none⟩ = some (.slice a l.length cap) := (hW.cell (p := ⟨b, o, none⟩) hbl).trans hv
    rcases hd with hd | ⟨b2, o2, rfl, hb2, hbl2, hcell2⟩
    · have : l = [] := by simpa using hd
      subst this
      exact values1_nilK Fence.wide 3 trivial rfl k b o cap a J W hc' h0
    · refine values1K Fence.wide 3 trivial rfl (by omega) k b o w.heap.size b2 o2 cap l (by omega) hbl2 w J hJb hY W hc' ?_ h0
      intro j hj
      have hf : ∀ (l : List Int) (css : List (List Value)), RepCss O w (l.map dI) css → css.flatten = l.map (Value.int .i64) := by
        intro l
        induction l with
        | nil => intro css h; simp only [List.map_nil, RepCss] at h; subst h; rfl
        | cons x l ih =>
          intro css h
          simp only [List.map_cons, RepCss, dI, RepC] at h
          obtain ⟨_, c2, rfl, rfl, h⟩ := h
          simp only [List.flatten_cons, ih c2 h]; rfl
      exact hcell2 j _ (by rw [hf l css hcs, List.getElem?_map, List.getElem?_eq_getElem hj]; rfl)
  have := sortedK_in Tryz.sortedI Fence.wide 6 trivial trivial trivial trivial rfl (by omega) (sortsIn_wide _) (enters_of Tryz.func118 (by kernel_rfl) rfl) 119 #[.pointer (some ⟨b, o, none⟩)] trivial (enters_of Tryz.func119 (by kernel_rfl) rfl)
    (fun ys => ys = l) l.length (by unfold maxLen; omega) (by omega) w (fun ss h => Nat.le_of_eq (by rw [h])) hseq
  refine (callsIn_wide.1 this).mono ?_
  rintro e w' ⟨v, ss, rfl, rfl, hown, _, hbel⟩
  rw [← List.length_mergeSort (le := fun x y => decide (x ≤ y))] at hown
  obtain ⟨g1, g2⟩ := sl_of_own hown
  exact ⟨v, _, _, rfl, rfl, g1, g2, css_ints _, css_row _, ⟨hbel.os, hbel.tape, hbel.output, hbel.size, fun k hk _ => hbel.block k hk⟩⟩
end Go.Proofs.YteigfapjiekdnaaGreatDoor
end

section
/-
  DERIVED: THE SHELF's CONTRACTS AT THIS DUMP, IN PLAIN WORDS (tools/lay-plain.mjs out of 'YteigfapjiekdnaaGreatDoorLscTmp.lean', which tools/lay-shelf.mjs wrote): THE SAME DECLARATIONS UNDER THE SAME NAMES: 'import', 'namespace', 'open', 'def', 'theorem' AND NOTHING ELSE: no command of the shelf's: FOR A HAND-IN. Each laying: the table of numbers ('.._ren') and one theorem, a field a fact of the dump's own or the kernel's comparison; each contract: ONE APPLICATION.
-/
namespace Go.Proofs
open Go.Shelf
def Tryz.compactI_ren : Go.Shelf.Ren := ⟨fun | 43 => 84 | n => n, fun | 22 => 22 | 23 => 3 | 3 => 3 | 4 => 4 | 0 => 0 | n => n, fun | n => n⟩
theorem Tryz.compactI : Go.Proofs.SlLaysN.n43 Tryz.prog Tryz.compactI_ren := {
  mixed := by kernel_rfl
  f43 := ⟨Tryz.f84.name, by decide, Tryz.func84.trans (congrArg some (by kernel_rfl))⟩
  t0 := Tryz.underlying0
  a0 := Tryz.isAgg0
  z0 := Tryz.sizeOf0
  v0 := Tryz.zeroValue0
  t3 := Tryz.underlying3
  a3 := Tryz.isAgg3
  z3 := Tryz.sizeOf3
  v3 := Tryz.zeroValue3
  t4 := Tryz.underlying4
  a4 := Tryz.isAgg4
  z4 := Tryz.sizeOf4
  v4 := Tryz.zeroValue4
  t22 := Tryz.underlying22
  a22 := Tryz.isAgg22
  z22 := Tryz.sizeOf22
  v22 := Tryz.zeroValue22
  t23 := Tryz.underlying3
  a23 := Tryz.isAgg3
  z23 := Tryz.sizeOf3
  v23 := Tryz.zeroValue3
  i23 := by kernel_rfl }
end Go.Proofs
end

section
/- slices.Compact, slices.Delete at an owned slice of ints, told for the engine. · sets: Of. -/
namespace Go.Reg
open Go Go.RowKit Go.Sort Go.Proofs
section
variable {E : Nat} {w : World} {l : List Int} {g cap : Nat}
theorem flat_one1 (l : List Int) : l.flatMap (fun n => [Value.int .i64 n]) = l.map (Value.int .i64) := by
  induction l with
  | nil => rfl
  | cons x l ih => simp [ih]
theorem Sl.holds1 (h : Sl E 1 (fun n : Int => [Value.int .i64 n]) w (.slice (some ⟨g, 0, none⟩) l.length cap) l) : Go.Sort.Holds (Value.int .i64) w g 0 l.toArray := by
  intro j hj
  have hj' : j < l.length := by simpa using hj
  have hx : l[j]? = some l.toArray[j]! := by rw [getElem!_pos l.toArray j hj]; simp [hj']
  have hc := Sl.cells (enc := fun n : Int => [Value.int .i64 n]) (k := 1) (fun _ => rfl) h rfl hx (j := 0) (u := Value.int .i64 l.toArray[j]!) rfl
  refine ⟨by simpa using hc, ?_⟩
  rcases h.2 with ⟨h1, _⟩ | ⟨g', cap', cur, h1, _, hg, _⟩
  · cases h1
  · cases h1
    simp [World.frozen?, hg]
theorem Sl.put1 (h : Sl E 1 (fun n : Int => [Value.int .i64 n]) w (.slice (some ⟨g, 0, none⟩) l.length cap) l) (d : Array Int) (hd : d.size = l.length) (m : Nat) (hm : m ≤ l.length) (q : Nat) :
    Sl E 1 (fun n : Int => [Value.int .i64 n]) (putRow (Value.int .i64) (Sort.ahead w q) g 0 d) (.slice (some ⟨g, 0, none⟩) m cap) (d.toList.take m) ∧ Tch [g] w (putRow (Value.int .i64) (Sort.ahead w q) g 0 d) := by
  have hlm : (d.toList.take m).length = m := by rw [List.length_take, Array.length_toList]; omega
  constructor
  · unfold Sl
    rw [flat_one1]
    refine ⟨by simp, ?_⟩
    rcases h.2 with ⟨h1, _⟩ | ⟨g', cap', cur, h1, h0, hg, hc, hmx, hs, ht⟩
    · cases h1
    · cases h1
      refine .inr ⟨g, cap, putCells (Value.int .i64) 0 d cur, by rw [hlm], Nat.zero_le _, ?_, by rw [hlm]; omega, hmx, by simp [putCells, hs], ?_⟩
      · simp [putRow, mapBlock, Sort.ahead, Array.getElem?_modify, hg, onCells]
      · rw [hlm]
        apply List.ext_getElem?
        intro t
        rw [List.getElem?_take, List.getElem?_map, List.getElem?_take]
        split
        · rename_i hlt
          have h1 : t < cur.size := by omega
          have h2 : t < d.size := by omega
          have h3 : t < m := by omega
          simp [putCells, h1, h2, h3]
        · rename_i hlt
          have h3 : ¬ t < m := by omega
          simp [h3]
  · refine ⟨rfl, rfl, rfl, ?_, ?_⟩
    · simp [putRow, mapBlock, Sort.ahead]
    · intro j hj hn
      have hne : g ≠ j := fun e => hn (by simp [e])
      simp [putRow, mapBlock, Sort.ahead, Array.getElem?_modify, hne]
end
end Go.Reg
namespace Go.Proofs.YteigfapjiekdnaaGreatDoor
open Go.RowKit Go.Shelf Go.Sx Go.Reg Go.Sort Go.Gr Go.Proofs

set_option maxRecDepth 100000
theorem ints_cs {O : List Nat} {w : World} : ∀ {l : List Int} {css : List (List Value)}, RepCss O w (l.map dI) css → css = l.map (fun n => [Value.int .i64 n])
  | [], css, h => by simpa only [List.map_nil, RepCss] using h
  | e :: l, css, h => by
    simp only [List.map_cons, RepCss, dI, RepC] at h
    obtain ⟨c1, c2, rfl, rfl, h⟩ := h
    rw [ints_cs h]; rfl
theorem ints_sl {E : Nat} {w : World} {v : Value} {l : List Int} : Sl E 1 id w v (l.map fun n => [Value.int .i64 n]) ↔ Sl E 1 (fun n : Int => [Value.int .i64 n]) w v l := by
  unfold Sl
  rw [List.length_map, List.flatMap_map]
  exact Iff.rfl
/-- between the shelf's words and 'EatSl' -/
theorem eat_of {f : FuncId} {l : List Int} {xs : List Da} {r : List Int} {vs : List Value} (hxs : ∀ (O : List Nat) (w : World) (us : List Value), Reps O w xs us → us = vs) (hrl : r.length ≤ l.length)
    (hrun : ∀ (us : Array Value) (w : World), (callFunc f us).run C1.P w = .ok (.enter f us) w)
    (hnil : l = [] → ∀ w : World, Calls C1.P f (.slice none 0 0 :: vs).toArray w fun e w' => e = .returned (.slice none 0 0) ∧ w' = w)
    (hmem : ∀ (g cap : Nat) (w : World), Go.Sort.Holds (Value.int .i64) w g 0 l.toArray → l.length ≤ cap → cap ≤ 9223372036854775807 → Calls C1.P f (.slice (some ⟨g, 0, none⟩) l.length cap :: vs).toArray w fun e w' => e = .returned (.slice (some ⟨g, 0, none⟩) r.length cap) ∧ ∃ q, ∃ rest : List Int, r.length + rest.length = l.length ∧ w' = putRow (Value.int .i64) (Sort.ahead w q) g 0 (r ++ rest).toArray) :
    EatSl C1 f 3 1 (l.map dI) xs (fun ds => ds = r.map dI) := by
  intro O w v css us hs hb hO hr hk hg hus
  obtain rfl := hxs O w us hus
  obtain rfl := ints_cs hr
  refine ⟨hrun _ _, ?_⟩
  have hs1 := ints_sl.1 hs
  rcases hs1.shape with ⟨rfl, rfl⟩ | ⟨g, cap, rfl, hc⟩
  · refine (hnil rfl w).mono ?_
    rintro e w' ⟨rfl, rfl⟩
    have : r = [] := List.eq_nil_of_length_eq_zero (by simpa using hrl)
    subst this
    exact ⟨_, _, [], rfl, rfl, Sl.nil _ _ _ _, fun b hb => (by cases hb), by simp [RepCss], by simp, Tch.refl _ _⟩
  · have hcm : cap ≤ 9223372036854775807 := by
      rcases hs1.2 with ⟨h1, _⟩ | ⟨g', cap', cur, h1, _, _, _, hm, _⟩
      · cases h1
      · cases h1; unfold maxLen at hm; omega
    refine (hmem g cap w hs1.holds1 hc hcm).mono ?_
    rintro e w' ⟨rfl, q, rest, hrl2, rfl⟩
    obtain ⟨h1, h2⟩ := hs1.put1 (r ++ rest).toArray (by simp; omega) r.length hrl q
    have ht : (r ++ rest).toArray.toList.take r.length = r := by simp
    rw [ht] at h1
    exact ⟨_, _, r.map fun n => [Value.int .i64 n], rfl, rfl, ints_sl.2 h1, fun b hb => .inl hb, css_ints r, css_row r, h2⟩
theorem reps_nil_eq {O : List Nat} {w : World} {us : List Value} (h : Reps O w [] us) : us = [] := reps_inv0 h
theorem compact_len (l : List Int) : (Lib.compact l).length ≤ l.length := by
  unfold Lib.compact Lib.compactUpTo
  rw [List.length_map]
  have := List.length_filter_le (Lib.keeps l.toArray) (List.range l.length)
  rwa [List.length_range] at this
theorem compact_eat (l : List Int) (hl : l.length ≤ 9223372036854775807) : EatSl C1 84 3 1 (l.map dI) [] (fun ds => ds = (Lib.compact l).map dI) :=
  eat_of (vs := []) (fun O w us h => reps_nil_eq h) (compact_len l) (fun us w => enters_of Tryz.func84 (by kernel_rfl) rfl us w)
    (fun _ w => AnyG.slices_Compact_int_empty Tryz.compactI none 0 w)
    (fun g cap w hH hc hm => (AnyG.slices_Compact_int Tryz.compactI g 0 cap l w hH hl hc).mono fun e w' ⟨h1, q, h2⟩ => ⟨h1, q, List.replicate (l.length - (Lib.compact l).length) 0, by have := compact_len l; simp; omega, h2⟩)
end Go.Proofs.YteigfapjiekdnaaGreatDoor

namespace Go.Gr
open Go.Lib in
theorem compact_inv (d : Array Int) (hd : ∀ i j, i ≤ j → j < d.size → d[i]! ≤ d[j]!) : ∀ m, m ≤ d.size → (compactUpTo d m).Pairwise (· < ·) ∧ ∀ x, x ∈ compactUpTo d m ↔ ∃ j, j < m ∧ x = d[j]! := by
  intro m
  induction m with
  | zero => intro _; simp [compactUpTo]
  | succ m ih =>
    intro hm
    obtain ⟨h1, h2⟩ := ih (by omega)
    rw [compactUpTo_succ]
    cases hk : keeps d m with
    | true =>
      rw [if_pos rfl]
      refine ⟨List.pairwise_append.2 ⟨h1, by simp, fun a ha b hb => ?_⟩, fun x => ?_⟩
      · simp only [List.mem_singleton] at hb
        subst hb
        obtain ⟨j, hj, rfl⟩ := (h2 a).1 ha
        simp only [keeps, decide_eq_true_eq] at hk
        have g1 := hd j (m - 1) (by omega) (by omega)
        have g2 := hd (m - 1) m (by omega) (by omega)
        have : d[m]! ≠ d[m - 1]! := hk.resolve_left (by omega)
        omega
      · rw [List.mem_append, h2, List.mem_singleton]
        constructor
        · rintro (⟨j, hj, rfl⟩ | rfl)
          · exact ⟨j, by omega, rfl⟩
          · exact ⟨m, by omega, rfl⟩
        · rintro ⟨j, hj, rfl⟩
          by_cases e : j = m
          · subst e; exact .inr rfl
          · exact .inl ⟨j, by omega, rfl⟩
    | false =>
      simp only [Bool.false_eq_true, if_false, List.append_nil]
      refine ⟨h1, fun x => ?_⟩
      rw [h2]
      simp only [keeps, decide_eq_false_iff_not, not_or, Classical.not_not] at hk
      constructor
      · rintro ⟨j, hj, rfl⟩; exact ⟨j, by omega, rfl⟩
      · rintro ⟨j, hj, rfl⟩
        by_cases e : j = m
        · subst e; exact ⟨j - 1, by omega, hk.2⟩
        · exact ⟨j, by omega, rfl⟩
/-- a list's numbers, rising, each once -/
def setOf (l : List Int) : List Int := Lib.compact (l.mergeSort fun x y => decide (x ≤ y))
theorem setOf_spec (l : List Int) : (setOf l).Pairwise (· < ·) ∧ ∀ x, x ∈ setOf l ↔ x ∈ l := by
  have hp := List.mergeSort_perm l fun x y => decide (x ≤ y)
  have hs : (l.mergeSort fun x y => decide (x ≤ y)).Pairwise (fun x y => decide (x ≤ y) = true) := List.pairwise_mergeSort (by intro a b c; simp; omega) (by intro a b; simp; omega) l
  generalize hz : (l.mergeSort fun x y => decide (x ≤ y)) = z at hp hs
  have hd : ∀ i j, i ≤ j → j < z.toArray.size → z.toArray[i]! ≤ z.toArray[j]! := by
    intro i j hij hj
    have hj' : j < z.length := by simpa using hj
    rw [getElem!_pos z.toArray j hj, getElem!_pos z.toArray i (by omega)]
    by_cases e : i = j
    · subst e; exact Int.le_refl _
    · have := List.pairwise_iff_getElem.1 hs i j (by omega) hj' (by omega)
      simpa using this
  obtain ⟨h1, h2⟩ := compact_inv z.toArray hd z.length (by simp)
  unfold setOf Lib.compact
  rw [hz]
  refine ⟨h1, fun x => ?_⟩
  rw [h2, ← hp.mem_iff, List.mem_iff_getElem]
  constructor
  · rintro ⟨j, hj, rfl⟩
    refine ⟨j, hj, ?_⟩
    rw [getElem!_pos z.toArray j (by simpa using hj)]; simp
  · rintro ⟨j, hj, rfl⟩
    refine ⟨j, hj, ?_⟩
    rw [getElem!_pos z.toArray j (by simpa using hj)]; simp
end Go.Gr
namespace Go.Proofs.YteigfapjiekdnaaGreatDoor
open Go.Sx Go.RowKit Go.Reg Go.Gr

set_option maxRecDepth 100000
theorem setOf_len (l : List Int) : (setOf l).length ≤ l.length := by
  have := compact_len (l.mergeSort fun x y => decide (x ≤ y))
  rwa [List.length_mergeSort] at this
def pl_sof : List (Nat × Plan) := []
def G_sof : List FuncId := []
theorem cok_sof : codeOk Tryz.prog G_sof pl_sof (Tryz.f66.body.getD .skip) = true := by kernel_rfl
theorem run_sof (vs : Array Value) (w : World) : (callFunc 66 vs).run C1.P w = .ok (.enter 66 vs) w := by kernel_rfl
theorem of_pure (l : List Int) (hl : l.length ≤ 4294967296) : Pure C1 66 [dIs l] (fun y => y = dIs (setOf l)) := by
  refine pure_of c1_ok (pl := pl_sof) (G := G_sof) Tryz.func66 rfl Tryz.ntmps66 run_sof cok_sof (by simp) ?_
  (conv => whnf)
  (repeat' ((first | refine ord_ok (by (conv => whnf); (repeat' ((first | refine call_eq rfl (values_pure l) ?_ | refine ify ?_ | refine ifn ?_ | refine i6 ?_ | refine ati ?_ | refine mst ?_ | refine rmd ?_ | refine ibo (fun _ => ?_) (fun _ => ?_)) <;> conv => whnf)); (all_goals (repeat' (first | exact trivial | exact rfl | refine And.intro ?_ ?_)))) ?_ | refine call_eq rfl (values_pure l) ?_ | refine ify ?_ | refine ifn ?_ | refine i6 ?_ | refine ati ?_ | refine mst ?_ | refine rmd ?_ | refine ibo (fun _ => ?_) (fun _ => ?_)) <;> conv => whnf))
  refine call_mksl 29 rfl rfl (sorted_mksl l hl) ?_; rintro ds rfl
  (conv => whnf)
  refine call_eat rfl rfl (compact_eat (l.mergeSort fun x y => decide (x ≤ y)) (by rw [List.length_mergeSort]; omega)) ?_; rintro ds rfl
  ((conv => whnf); repeat' ((first | refine odw ?_ | refine ify ?_ | refine ifn ?_ | refine i6 ?_ | refine ati ?_ | refine mst ?_ | refine rmd ?_ | refine ibo (fun _ => ?_) (fun _ => ?_)) <;> conv => whnf))
  exact rfl
end Go.Proofs.YteigfapjiekdnaaGreatDoor
end

section
/- mini, plain: the sets of a pattern's vertices, the least of their sizes. -/
namespace Go.Gr
open Go.Proofs.YteigfapjiekdnaaGreatDoor
/-- a set with a number more -/
def addS (s : List Int) (n : Int) : List Int := setOf (n :: s)
theorem mem_addS {s : List Int} {n x : Int} : x ∈ addS s n ↔ x = n ∨ x ∈ s := by unfold addS; rw [(setOf_spec _).2, List.mem_cons]
/-- what stands at a place of lists -/
def colS (X : List (List Int)) (i : Nat) : List Int := setOf (X.map fun L => (L[i]?).getD 0)
theorem colS_rise (X : List (List Int)) (i : Nat) : (colS X i).Pairwise (· < ·) := (setOf_spec _).1
theorem mem_colS {X : List (List Int)} {i : Nat} {x : Int} : x ∈ colS X i ↔ ∃ L ∈ X, (L[i]?).getD 0 = x := by unfold colS; rw [(setOf_spec _).2, List.mem_map]
theorem rise_nodup {l : List Int} (h : l.Pairwise (· < ·)) : l.Nodup := h.imp fun h => Int.ne_of_lt h
theorem setOf_rise {l : List Int} (h : l.Pairwise (· < ·)) : setOf l = l := rise_eq (setOf_spec l).1 h (setOf_spec l).2
theorem setOf_nil : setOf [] = [] := setOf_rise List.Pairwise.nil
theorem colS_nil (i : Nat) : colS [] i = [] := setOf_nil
theorem setOf_len (l : List Int) : (setOf l).length ≤ l.length := nodup_le (rise_nodup (setOf_spec l).1) fun x hx => ((setOf_spec l).2 x).1 hx
theorem colS_len (X : List (List Int)) (i : Nat) : (colS X i).length ≤ X.length := by
  have := setOf_len (X.map fun L => (L[i]?).getD 0)
  rwa [List.length_map] at this
theorem colS_step {X : List (List Int)} {k : Nat} {L : List Int} {i : Nat} {v : Int} (hL : X[k]? = some L) (hv : L[i]? = some v) : colS (X.take (k + 1)) i = addS (colS (X.take k) i) v := by
  refine rise_eq (colS_rise _ _) (setOf_spec _).1 fun x => ?_
  rw [mem_addS, mem_colS, mem_colS, List.take_add_one, hL]
  constructor
  · rintro ⟨M, hM, e⟩
    rcases List.mem_append.1 hM with h | h
    · exact .inr ⟨M, h, e⟩
    · rw [Option.toList_some, List.mem_singleton] at h
      subst h
      rw [hv] at e; exact .inl e.symm
  · rintro (rfl | ⟨M, hM, e⟩)
    · exact ⟨L, by simp, by rw [hv]; rfl⟩
    · exact ⟨M, List.mem_append_left _ hM, e⟩
theorem colS_mono {X Y : List (List Int)} (h : ∀ L ∈ X, L ∈ Y) (i : Nat) : (colS X i).length ≤ (colS Y i).length :=
  nodup_le (rise_nodup (colS_rise X i)) fun x hx => by
    obtain ⟨L, hL, e⟩ := mem_colS.1 hx
    exact mem_colS.2 ⟨L, h L hL, e⟩
/-- the least of lists' lengths -/
def leastL (l : List (List Int)) : Nat := ((l.map List.length).min?).getD 0
theorem leastL_is {l : List (List Int)} {s : List Int} (hs : s ∈ l) (h : ∀ t ∈ l, s.length ≤ t.length) : leastL l = s.length := by
  unfold leastL
  rw [(List.min?_eq_some_iff (a := s.length)).2 ⟨List.mem_map.2 ⟨s, hs, rfl⟩, fun b hb => by obtain ⟨t, ht, rfl⟩ := List.mem_map.1 hb; exact h t ht⟩]
  rfl
theorem leastL_mem {l : List (List Int)} (h : l ≠ []) : ∃ s ∈ l, leastL l = s.length ∧ ∀ t ∈ l, s.length ≤ t.length := by
  have hx : ∃ m, (l.map List.length).min? = some m := by
    cases l with
    | nil => exact absurd rfl h
    | cons a l => exact ⟨_, rfl⟩
  obtain ⟨m, hm⟩ := hx
  obtain ⟨h1, h2⟩ := List.min?_eq_some_iff.1 hm
  obtain ⟨s, hs, rfl⟩ := List.mem_map.1 h1
  exact ⟨s, hs, by unfold leastL; rw [hm]; rfl, fun t ht => h2 _ (List.mem_map.2 ⟨t, ht, rfl⟩)⟩
def colsS (k : Nat) (X : List (List Int)) : List (List Int) := (List.range k).map (colS X)
theorem colsS_len (k : Nat) (X : List (List Int)) : (colsS k X).length = k := by unfold colsS; simp
theorem colsS_at {k : Nat} {X : List (List Int)} {i : Nat} (h : i < k) : (colsS k X)[i]? = some (colS X i) := by
  unfold colsS; rw [List.getElem?_map, List.getElem?_range h]; rfl
theorem mem_colsS {k : Nat} {X : List (List Int)} {s : List Int} : s ∈ colsS k X ↔ ∃ i, i < k ∧ colS X i = s := by
  unfold colsS; simp
/-- vertices of a label -/
def labS (G : Gr) (x : Int) : List Int := ((List.range G.labels.length).filter fun v : Nat => decide (labelV G v = x)).map fun v : Nat => (v : Int)
/-- sets of which some have a list's vertex more -/
def midS (k : Nat) (Y : List (List Int)) (M : List Int) (done : Nat → Bool) : List (List Int) := (List.range k).map fun v => if done v then colS (Y ++ [M]) v else colS Y v
theorem midS_len (k : Nat) (Y : List (List Int)) (M : List Int) (done : Nat → Bool) : (midS k Y M done).length = k := by unfold midS; simp
theorem midS_at {k : Nat} {Y : List (List Int)} {M : List Int} {done : Nat → Bool} {v : Nat} (hv : v < k) : (midS k Y M done)[v]? = some (if done v then colS (Y ++ [M]) v else colS Y v) := by
  unfold midS; rw [List.getElem?_map, List.getElem?_range hv]; rfl
theorem midS_start (k : Nat) (Y : List (List Int)) (M : List Int) {done : Nat → Bool} (h : ∀ v, v < k → done v = false) : midS k Y M done = colsS k Y := by
  unfold midS colsS
  exact List.map_congr_left fun v hv => by rw [h v (List.mem_range.1 hv)]; rfl
theorem midS_end (k : Nat) (Y : List (List Int)) (M : List Int) {done : Nat → Bool} (h : ∀ v, v < k → done v = true) : midS k Y M done = colsS k (Y ++ [M]) := by
  unfold midS colsS
  exact List.map_congr_left fun v hv => by rw [h v (List.mem_range.1 hv)]; rfl
theorem colS_snoc {Y : List (List Int)} {M : List Int} {v : Nat} {x : Int} (h : M[v]? = some x) : colS (Y ++ [M]) v = addS (colS Y v) x := by
  have := colS_step (X := Y ++ [M]) (k := Y.length) (L := M) (i := v) (v := x) (by simp) h
  rwa [List.take_of_length_le (by simp), List.take_left' rfl] at this
theorem midS_step {k : Nat} {Y : List (List Int)} {M : List Int} {done done' : Nat → Bool} {w : Nat} {x : Int} (hx : M[w]? = some x) (h : ∀ v, v < k → done' v = (done v || decide (v = w))) : (midS k Y M done).set w (addS (colS Y w) x) = midS k Y M done' := by
  refine List.ext_getElem? fun v => ?_
  rw [List.getElem?_set, midS_len]
  by_cases hv : v < k
  · rw [midS_at hv, midS_at hv, h v hv]
    by_cases e : w = v
    · subst e
      rw [if_pos rfl, if_pos hv, decide_eq_true rfl, Bool.or_true, if_pos rfl, colS_snoc hx]
    · rw [if_neg e, decide_eq_false (fun h => e h.symm), Bool.or_false]
  · rw [List.getElem?_eq_none (by rw [midS_len]; omega), List.getElem?_eq_none (by rw [midS_len]; omega)]
    by_cases e : w = v
    · rw [if_pos e, if_neg (by omega)]
    · rw [if_neg e]
end Go.Gr
end
