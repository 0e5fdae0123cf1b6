/- Merged: Qih Imc Ime Atm Lsc. -/
import Derived.Test.YteigfapjiekdnaaGreatDoorKmap
import Derived.Test.YteigfapjiekdnaaGreatDoorKmaj
import Derived.Test.YteigfapjiekdnaaGreatDoorKmam
import Derived.Test.YteigfapjiekdnaaGreatDoorSxu
import Derived.Shelf.SlicesG.CompactI
import Derived.Shelf.SlicesG.Delete
import Derived.Test.YteigfapjiekdnaaGreatDoorRows
section
/- quick, plain: images are those of the document. -/
namespace Go.Gr
open Go.Proofs.YteigfapjiekdnaaGreatDoor
theorem turn_lt {a b : Int} (h : a ≤ b) : turn ⟨a, b⟩ = ⟨a, b⟩ := by unfold turn; simp only [Edg.mk.injEq]; omega
theorem turn_gt {a b : Int} (h : b ≤ a) : turn ⟨a, b⟩ = ⟨b, a⟩ := by unfold turn; simp only [Edg.mk.injEq]; omega
theorem hasR_turn {E : List Edg} (h : ∀ e ∈ E, e.a < e.b) (x y : Int) : hasR E x y = decide (turn ⟨x, y⟩ ∈ E) := by
  rw [Bool.eq_iff_iff, decide_eq_true_eq]
  unfold hasR
  rw [List.any_eq_true]
  constructor
  · rintro ⟨e, he, hc⟩
    have hc := of_decide_eq_true hc
    have hl := h e he
    obtain ⟨a, b⟩ := e
    simp only at hc hl
    rcases hc with ⟨rfl, rfl⟩ | ⟨rfl, rfl⟩
    · rw [turn_lt (by omega)]; exact he
    · rw [turn_gt (by omega)]; exact he
  · intro he
    refine ⟨_, he, decide_eq_true ?_⟩
    rcases Int.le_total x y with hxy | hxy
    · rw [turn_lt hxy]; exact .inl ⟨rfl, rfl⟩
    · rw [turn_gt hxy]; exact .inr ⟨rfl, rfl⟩
theorem madeE_lt {E : List Edg} {L : List Int} : ∀ e ∈ madeE E L, e.a < e.b := by
  intro e he
  obtain ⟨j, x, _, _, h, _, rfl⟩ := mem_rowsF.1 he
  simp only; omega
theorem hasR_made {E : List Edg} {L : List Int} {u v : Nat} (huv : u < v) (hv : v < L.length) : hasR (madeE E L) u v = pairF E L u v := by
  rw [hasR_turn madeE_lt, turn_lt (by omega), Bool.eq_iff_iff, decide_eq_true_eq]
  unfold madeE
  rw [mem_rowsF]
  constructor
  · rintro ⟨j, x, h1, h2, h3, h4, h5⟩
    simp only [Edg.mk.injEq] at h5
    have e1 : u = j := by omega
    have e2 : v = x := by omega
    rw [e1, e2]; exact h4
  · intro h
    exact ⟨u, v, by omega, hv, huv, h, rfl⟩
theorem okI_iff {G : Gr} {p : Pt} {whole : Bool} {l : List Int} {v : Int} : okI G p whole l v = true ↔ labelV G v = plOf p l.length ∧ v ∉ l ∧ ∀ k u, k < l.length → l[k]? = some u → okB G p whole l.length k u v = true := by
  constructor
  · intro h
    refine ⟨Decidable.byContradiction fun hn => ?_, okI_not h, fun k u _ hx => ?_⟩
    · rw [okI_label hn] at h; cases h
    · cases hb : okB G p whole l.length k u v with
      | true => rfl
      | false => rw [okI_at hx hb] at h; cases h
  · rintro ⟨h1, h2, h3⟩
    exact okI_yes h1 h2 h3
theorem okAll0_iff {ok : List Int → Int → Bool} {L : List Int} : okAll ok 0 L = true ↔ ∀ i v, L[i]? = some v → ok (L.take i) v = true := by
  simp only [okAll, List.all_eq_true, List.mem_range, Bool.or_eq_true, decide_eq_true_eq]
  constructor
  · intro h i v hx
    have := h i (List.getElem?_eq_some_iff.1 hx).1
    rw [hx] at this
    rcases this with h | h
    · omega
    · exact h
  · intro h i hi
    right
    rw [List.getElem?_eq_getElem hi]
    exact h i _ (List.getElem?_eq_getElem hi)
theorem images_same {G : Gr} (hG : G.Ok) {p : Pt} (hp : pErr p = none) (whole : Bool) : imgs G.labels.length (okI G p whole) p.labels.length [] = (iterL G.labels.length p.labels.length [[]]).filter (okL G p whole) := by
  have hpe : ∀ e ∈ p.edges, e.a < e.b := by
    unfold pErr at hp
    split at hp
    · cases hp
    · exact fun e he => ((eErr_none hp).1 e he).2.1
  have hGe : ∀ e ∈ G.edges, e.a < e.b := fun e he => (hG.edge e he).2.1
  rw [imgs_eq (fun l v h => okI_not h)]
  refine List.filter_congr fun L hL => ?_
  have hLn := iterL_len _ _ hL
  obtain ⟨hnd, _⟩ := iterL_mem hL
  rw [List.length_nil, Bool.eq_iff_iff, okAll0_iff]
  unfold okL
  rw [okN_iff]
  have key : ∀ u v x y, u < v → L[u]? = some x → L[v]? = some y → okB G p whole v u x y = dLt G.edges p whole L u v := by
    intro u v x y huv hx hy
    have hvl := (List.getElem?_eq_some_iff.1 hy).1
    unfold okB dLt
    rw [hasR_made huv hvl]
    unfold pairF
    rw [hx, hy]
    simp only [Option.getD_some]
    rw [hasR_turn hGe, hasR_turn hpe]
    unfold hasG phOf
    cases decide (turn ⟨x, y⟩ ∈ G.edges) <;> cases decide (turn ⟨(u : Int), (v : Int)⟩ ∈ p.edges) <;> cases whole <;> rfl
  constructor
  · intro h k hk
    have hx := List.getElem?_eq_getElem (l := L) (i := k) (by omega)
    have h1 := okI_iff.1 (h k _ hx)
    rw [List.length_take, Nat.min_eq_left (by omega)] at h1
    refine ⟨?_, fun u hu => ?_⟩
    · unfold cL; rw [hx]; exact decide_eq_true h1.1
    · have hy := List.getElem?_eq_getElem (l := L) (i := u) (by omega)
      rw [← key u k _ _ hu hy hx]
      exact h1.2.2 u _ hu (by rw [List.getElem?_take, if_pos hu]; exact hy)
  · intro h k v hx
    have hk := (List.getElem?_eq_some_iff.1 hx).1
    obtain ⟨h1, h2⟩ := h k (by omega)
    rw [okI_iff, List.length_take, Nat.min_eq_left (by omega)]
    refine ⟨?_, fun hm => ?_, fun u x hu hy => ?_⟩
    · unfold cL at h1
      rw [hx] at h1
      exact of_decide_eq_true h1
    · obtain ⟨u, hu, e⟩ := List.mem_take_iff_getElem.1 hm
      have h3 := (List.pairwise_iff_getElem.1 hnd) u k (by omega) hk (by omega)
      rw [(List.getElem?_eq_some_iff.1 hx).2] at h3
      exact h3 e
    · rw [List.getElem?_take, if_pos hu] at hy
      rw [key u k _ _ hu hy hx]
      exact h2 u hu
end Go.Gr
end

section
/- quick, plain: how many images there are (for QuickCounts). -/
namespace Go.Gr
/-! ### how many images there are -/
theorem mem_iterL (n : Nat) : ∀ (k : Nat) (L : List Int), L ∈ iterL n k [[]] ↔ L.length = k ∧ L.Nodup ∧ ∀ x ∈ L, 0 ≤ x ∧ x < (n : Int)
  | 0, L => by
    show L ∈ [[]] ↔ _
    rw [List.mem_singleton]
    constructor
    · rintro rfl; exact ⟨rfl, List.nodup_nil, by simp⟩
    · intro h; exact List.eq_nil_of_length_eq_zero h.1
  | k + 1, L => by
    rw [iterL_succ]
    simp only [stepL, List.mem_flatMap, List.mem_map, List.mem_filter, List.mem_range, Bool.not_eq_true', decide_eq_false_iff_not]
    constructor
    · rintro ⟨l, hl, v, ⟨hv, hn⟩, rfl⟩
      obtain ⟨h1, h2, h3⟩ := (mem_iterL n k l).1 hl
      refine ⟨by simp [h1], ?_, fun x hx => ?_⟩
      · rw [List.nodup_append]
        exact ⟨h2, by simp, fun a ha b hb => by rw [List.mem_singleton.1 hb]; exact fun e => hn (e ▸ ha)⟩
      · rcases List.mem_append.1 hx with hx | hx
        · exact h3 x hx
        · rw [List.mem_singleton.1 hx]; omega
    · rintro ⟨h1, h2, h3⟩
      have hne : L ≠ [] := fun e => by rw [e] at h1; cases h1
      obtain ⟨l, v, rfl⟩ : ∃ l v, L = l ++ [v] := ⟨L.dropLast, L.getLast hne, (List.dropLast_concat_getLast hne).symm⟩
      rw [List.nodup_append] at h2
      obtain ⟨g1, _, g3⟩ := h2
      have hv := h3 v (by simp)
      refine ⟨l, (mem_iterL n k l).2 ⟨by simpa using h1, g1, fun x hx => h3 x (by simp [hx])⟩, v.toNat, ⟨by omega, fun hm => ?_⟩, by rw [Int.toNat_of_nonneg hv.1]⟩
      rw [Int.toNat_of_nonneg hv.1] at hm
      exact g3 v hm v (by simp) rfl
end Go.Gr
end

section
/- quick, plain: images by their places; how many. -/
namespace Go.Gr
open Go.Proofs.YteigfapjiekdnaaGreatDoor
theorem sub_len {α : Type} [DecidableEq α] : ∀ {l m : List α}, l.Nodup → (∀ x ∈ l, x ∈ m) → l.length ≤ m.length
  | [], _, _, _ => Nat.zero_le _
  | x :: l, m, hn, hs => by
    have hx : x ∈ m := hs x (by simp)
    rw [List.nodup_cons] at hn
    have h := sub_len (m := m.erase x) hn.2 fun y hy => by
      have hne : y ≠ x := fun e => hn.1 (e ▸ hy)
      exact (List.mem_erase_of_ne hne).2 (hs y (by simp [hy]))
    rw [List.length_erase_of_mem hx] at h
    have := List.length_pos_of_mem hx
    rw [List.length_cons]; omega
theorem nodup_le {α : Type} [DecidableEq α] {l m : List α} (hn : l.Nodup) (hs : ∀ x ∈ l, x ∈ m) : l.length ≤ m.length := sub_len hn hs
def imgP (G : Gr) (p : Pt) (whole : Bool) : List (List Int) := imgs G.labels.length (okI G p whole) p.labels.length []
structure IsImg (G : Gr) (p : Pt) (whole : Bool) (L : List Int) : Prop where
  len : L.length = p.labels.length
  nodup : L.Nodup
  lt : ∀ x ∈ L, 0 ≤ x ∧ x < (G.labels.length : Int)
  label : ∀ i x, L[i]? = some x → labelV G x = plOf p i
  has : ∀ i j x y, i ≠ j → L[i]? = some x → L[j]? = some y → phOf p i j = true → hasG G x y = true
  only : whole = true → ∀ i j x y, i ≠ j → L[i]? = some x → L[j]? = some y → hasG G x y = true → phOf p i j = true
theorem turn_comm (a b : Int) : turn ⟨a, b⟩ = turn ⟨b, a⟩ := by unfold turn; simp only [Edg.mk.injEq]; omega
theorem phOf_comm (p : Pt) (i j : Nat) : phOf p i j = phOf p j i := by unfold phOf; rw [turn_comm]
theorem hasG_comm (G : Gr) (x y : Int) : hasG G x y = hasG G y x := by unfold hasG; rw [turn_comm]
theorem okB_iff {G : Gr} {p : Pt} {whole : Bool} {n i : Nat} {u v : Int} : okB G p whole n i u v = true ↔ (phOf p i n = true → hasG G u v = true) ∧ (whole = true → hasG G u v = true → phOf p i n = true) := by
  unfold okB
  cases phOf p i n <;> cases hasG G u v <;> cases whole <;> simp
theorem nodup_at {L : List Int} (h : L.Nodup) {i j : Nat} {x : Int} (hi : L[i]? = some x) (hj : L[j]? = some x) : i = j := by
  obtain ⟨h1, e1⟩ := List.getElem?_eq_some_iff.1 hi
  obtain ⟨h2, e2⟩ := List.getElem?_eq_some_iff.1 hj
  rcases Nat.lt_trichotomy i j with hl | hl | hl
  · exact absurd (e1.trans e2.symm) (List.pairwise_iff_getElem.1 h i j h1 h2 hl)
  · exact hl
  · exact absurd (e2.trans e1.symm) (List.pairwise_iff_getElem.1 h j i h2 h1 hl)
theorem mem_imgP {G : Gr} {p : Pt} {whole : Bool} {L : List Int} : L ∈ imgP G p whole ↔ IsImg G p whole L := by
  unfold imgP
  rw [imgs_eq (fun l v h => okI_not h), List.mem_filter, mem_iterL, List.length_nil, okAll0_iff]
  constructor
  · rintro ⟨⟨h1, h2, h3⟩, h4⟩
    have key : ∀ i v, L[i]? = some v → labelV G v = plOf p i ∧ ∀ k u, k < i → L[k]? = some u → okB G p whole i k u v = true := by
      intro i v hv
      have hil := (List.getElem?_eq_some_iff.1 hv).1
      have := okI_iff.1 (h4 i v hv)
      rw [List.length_take, Nat.min_eq_left (by omega)] at this
      exact ⟨this.1, fun k u hk hu => this.2.2 k u hk (by rw [List.getElem?_take, if_pos hk]; exact hu)⟩
    refine ⟨h1, h2, h3, fun i x hx => (key i x hx).1, fun i j x y hij hx hy hp => ?_, fun hw i j x y hij hx hy hp => ?_⟩
    · rcases Nat.lt_or_gt_of_ne hij with h | h
      · exact (okB_iff.1 ((key j y hy).2 i x h hx)).1 hp
      · rw [hasG_comm]
        exact (okB_iff.1 ((key i x hx).2 j y h hy)).1 (by rw [phOf_comm]; exact hp)
    · rcases Nat.lt_or_gt_of_ne hij with h | h
      · exact (okB_iff.1 ((key j y hy).2 i x h hx)).2 hw hp
      · rw [phOf_comm]
        exact (okB_iff.1 ((key i x hx).2 j y h hy)).2 hw (by rw [hasG_comm]; exact hp)
  · intro h
    refine ⟨⟨h.len, h.nodup, h.lt⟩, fun i v hv => ?_⟩
    have hil := (List.getElem?_eq_some_iff.1 hv).1
    rw [okI_iff, List.length_take, Nat.min_eq_left (by omega)]
    refine ⟨h.label i v hv, fun hm => ?_, fun k u hk hu => ?_⟩
    · obtain ⟨u, hu, e⟩ := List.mem_take_iff_getElem.1 hm
      have := nodup_at h.nodup hv (List.getElem?_eq_some_iff.2 ⟨by omega, e⟩)
      omega
    · rw [List.getElem?_take, if_pos hk] at hu
      exact okB_iff.2 ⟨fun hp => h.has k i u v (by omega) hu hv hp, fun hw hp => h.only hw k i u v (by omega) hu hv hp⟩
def cntL (G : Gr) (x : Int) (v : Nat) : Nat := ((List.range v).filter fun v : Nat => decide (labelV G v = x)).length
theorem cntL_le (G : Gr) (x : Int) (v : Nat) : cntL G x v ≤ v := by
  unfold cntL
  exact Nat.le_trans (List.length_filter_le _ _) (by simp)
end Go.Gr
end

section
/- slices.Sorted(slices.Values(l)) at ints as an owned slice. -/
namespace Go.Proofs.YteigfapjiekdnaaGreatDoor
open Go.RowKit Go.Shelf Go.Sx Go.Reg Go.Maps Go.Sort Go.Gr

set_option maxRecDepth 100000
theorem css_ints {O : List Nat} {w : World} : ∀ ss : List Int, RepCss O w (ss.map dI) (ss.map fun n => [Value.int .i64 n])
  | [] => by simp [RepCss]
  | x :: ss => ⟨_, _, rfl, by simp [RepC, dI], css_ints ss⟩
theorem css_row (ss : List Int) : ∀ x ∈ ss.map (fun n => [Value.int .i64 n]), RowOk 1 x := by
  intro x hx
  obtain ⟨n, _, rfl⟩ := List.mem_map.1 hx
  exact ⟨rfl, by simp [Value.oneCell']⟩
theorem css_flat (ss : List Int) : (ss.map fun n => [Value.int .i64 n]).flatMap id = ss.map encZ := by
  induction ss with
  | nil => rfl
  | cons x ss ih => simp only [List.map_cons, List.flatMap_cons, ih]; rfl
theorem sl_of_own {w : World} {base E : Nat} {v : Value} {ss : List Int} (h : w.ownsRow base E 1 v ss.length (ss.map encZ)) : Sl E 1 id w v (ss.map fun n => [Value.int .i64 n]) ∧ ∀ b, v.ownBlock = some b → base ≤ b := by
  unfold Sl
  rw [css_flat, List.length_map]
  rcases h with ⟨h0, ⟨rfl, hn⟩ | ⟨g, cap, cur, rfl, hb, hg, r⟩⟩
  · exact ⟨⟨h0, .inl ⟨rfl, hn⟩⟩, fun b hb => by cases hb⟩
  · exact ⟨⟨h0, .inr ⟨g, cap, cur, rfl, Nat.zero_le _, hg, r⟩⟩, fun b hb' => by simp only [Value.ownBlock, Option.some.injEq] at hb'; subst hb'; exact hb⟩
theorem sorted_mksl (l : List Int) (hl : l.length ≤ 4294967296) : MakeSl C1 60 [.func (.func 119) [] [.ref (dIs l)]] 3 1 (fun ds => ds = (l.mergeSort fun x y => decide (x ≤ y)).map dI) := by
  intro O w us hO hg hr
  obtain ⟨v, vs, rfl, h1, h2⟩ := reps_inv hr
  obtain rfl := reps_inv0 h2
  obtain ⟨cs, r, rfl⟩ := h1
  simp only [RepC, RepCss] at r
  obtain ⟨fs, cs', rfl, ⟨c1, c2, rfl, ⟨b, o, c, rfl, hb, hbl, hc, hcell⟩, rfl⟩, rfl⟩ := r
  simp only [dIs, RepC] at hc
  obtain ⟨a, cap, css, rfl, hlc, hcm, hcs, hrow, hd⟩ := hc
  have hv : w.cell? ⟨b, o, none⟩ = some (.slice a l.length cap) := by have := hcell 0 _ rfl; simpa using this
  refine ⟨by kernel_rfl, ?_⟩
  show Calls _ _ #[.func (.func 119) #[] #[.pointer (some ⟨b, o, none⟩)]] w _
  have hseq : SeqK Fence.wide 3 Tryz.prog 119 #[.pointer (some ⟨b, o, none⟩)] (fun ys => ys = l) l.length w := by
    intro k J W hW hJ hJb hY h0
    have hc' : W.cell? ⟨b, o, none⟩ = some (.slice a l.length cap) := (hW.cell (p := ⟨b, o, none⟩) hbl).trans hv
    rcases hd with hd | ⟨b2, o2, rfl, hb2, hbl2, hcell2⟩
    · have : l = [] := by simpa using hd
      subst this
      exact values1_nilK Fence.wide 3 trivial rfl k b o cap a J W hc' h0
    · refine values1K Fence.wide 3 trivial rfl (by omega) k b o w.heap.size b2 o2 cap l (by omega) hbl2 w J hJb hY W hc' ?_ h0
      intro j hj
      have hf : ∀ (l : List Int) (css : List (List Value)), RepCss O w (l.map dI) css → css.flatten = l.map (Value.int .i64) := by
        intro l
        induction l with
        | nil => intro css h; simp only [List.map_nil, RepCss] at h; subst h; rfl
        | cons x l ih =>
          intro css h
          simp only [List.map_cons, RepCss, dI, RepC] at h
          obtain ⟨_, c2, rfl, rfl, h⟩ := h
          simp only [List.flatten_cons, ih c2 h]; rfl
      exact hcell2 j _ (by rw [hf l css hcs, List.getElem?_map, List.getElem?_eq_getElem hj]; rfl)
  have := sortedK_in Tryz.sortedI Fence.wide 6 trivial trivial trivial trivial rfl (by omega) (sortsIn_wide _) (enters_of Tryz.func118 (by kernel_rfl) rfl) 119 #[.pointer (some ⟨b, o, none⟩)] trivial (enters_of Tryz.func119 (by kernel_rfl) rfl)
    (fun ys => ys = l) l.length (by unfold maxLen; omega) (by omega) w (fun ss h => Nat.le_of_eq (by rw [h])) hseq
  refine (callsIn_wide.1 this).mono ?_
  rintro e w' ⟨v, ss, rfl, rfl, hown, _, hbel⟩
  rw [← List.length_mergeSort (le := fun x y => decide (x ≤ y))] at hown
  obtain ⟨g1, g2⟩ := sl_of_own hown
  exact ⟨v, _, _, rfl, rfl, g1, g2, css_ints _, css_row _, ⟨hbel.os, hbel.tape, hbel.output, hbel.size, fun k hk _ => hbel.block k hk⟩⟩
end Go.Proofs.YteigfapjiekdnaaGreatDoor
end

section
/-
  DERIVED: THE SHELF's CONTRACTS AT THIS DUMP, IN PLAIN WORDS (tools/lay-plain.mjs out of 'YteigfapjiekdnaaGreatDoorLscTmp.lean', which tools/lay-shelf.mjs wrote): THE SAME DECLARATIONS UNDER THE SAME NAMES: 'import', 'namespace', 'open', 'def', 'theorem' AND NOTHING ELSE: no command of the shelf's: FOR A HAND-IN. Each laying: the table of numbers ('.._ren') and one theorem, a field a fact of the dump's own or the kernel's comparison; each contract: ONE APPLICATION.
-/
namespace Go.Proofs
open Go.Shelf
def Tryz.compactI_ren : Go.Shelf.Ren := ⟨fun | 43 => 84 | n => n, fun | 22 => 22 | 23 => 3 | 3 => 3 | 4 => 4 | 0 => 0 | n => n, fun | n => n⟩
theorem Tryz.compactI : Go.Proofs.SlLaysN.n43 Tryz.prog Tryz.compactI_ren := {
  mixed := by kernel_rfl
  f43 := ⟨Tryz.f84.name, by decide, Tryz.func84.trans (congrArg some (by kernel_rfl))⟩
  t0 := Tryz.underlying0
  a0 := Tryz.isAgg0
  z0 := Tryz.sizeOf0
  v0 := Tryz.zeroValue0
  t3 := Tryz.underlying3
  a3 := Tryz.isAgg3
  z3 := Tryz.sizeOf3
  v3 := Tryz.zeroValue3
  t4 := Tryz.underlying4
  a4 := Tryz.isAgg4
  z4 := Tryz.sizeOf4
  v4 := Tryz.zeroValue4
  t22 := Tryz.underlying22
  a22 := Tryz.isAgg22
  z22 := Tryz.sizeOf22
  v22 := Tryz.zeroValue22
  t23 := Tryz.underlying3
  a23 := Tryz.isAgg3
  z23 := Tryz.sizeOf3
  v23 := Tryz.zeroValue3
  i23 := by kernel_rfl }
end Go.Proofs
end
