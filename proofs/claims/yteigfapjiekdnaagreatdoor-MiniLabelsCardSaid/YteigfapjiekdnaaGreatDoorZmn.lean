/- Merged: Mna Mnb Mnc. -/
import Derived.Test.YteigfapjiekdnaaGreatDoorZqi
import Derived.Test.YteigfapjiekdnaaGreatDoorZat
import Derived.Test.YteigfapjiekdnaaGreatDoorLgi
import Derived.Test.YteigfapjiekdnaaGreatDoorZvl
section
/- mini, plain: the sets of a pattern's vertices, the least of their sizes. -/
namespace Go.Gr
open Go.Proofs.YteigfapjiekdnaaGreatDoor
/-- a set with a number more -/
def addS (s : List Int) (n : Int) : List Int := setOf (n :: s)
theorem mem_addS {s : List Int} {n x : Int} : x ∈ addS s n ↔ x = n ∨ x ∈ s := by unfold addS; rw [(setOf_spec _).2, List.mem_cons]
/-- what stands at a place of lists -/
def colS (X : List (List Int)) (i : Nat) : List Int := setOf (X.map fun L => (L[i]?).getD 0)
theorem colS_rise (X : List (List Int)) (i : Nat) : (colS X i).Pairwise (· < ·) := (setOf_spec _).1
theorem mem_colS {X : List (List Int)} {i : Nat} {x : Int} : x ∈ colS X i ↔ ∃ L ∈ X, (L[i]?).getD 0 = x := by unfold colS; rw [(setOf_spec _).2, List.mem_map]
theorem rise_nodup {l : List Int} (h : l.Pairwise (· < ·)) : l.Nodup := h.imp fun h => Int.ne_of_lt h
theorem setOf_rise {l : List Int} (h : l.Pairwise (· < ·)) : setOf l = l := rise_eq (setOf_spec l).1 h (setOf_spec l).2
theorem setOf_nil : setOf [] = [] := setOf_rise List.Pairwise.nil
theorem colS_nil (i : Nat) : colS [] i = [] := setOf_nil
theorem setOf_len (l : List Int) : (setOf l).length ≤ l.length := nodup_le (rise_nodup (setOf_spec l).1) fun x hx => ((setOf_spec l).2 x).1 hx
theorem colS_len (X : List (List Int)) (i : Nat) : (colS X i).length ≤ X.length := by
  have := setOf_len (X.map fun L => (L[i]?).getD 0)
  rwa [List.length_map] at this
theorem addS_len (s : List Int) (n : Int) : (addS s n).length ≤ s.length + 1 := setOf_len _
theorem colS_step {X : List (List Int)} {k : Nat} {L : List Int} {i : Nat} {v : Int} (hL : X[k]? = some L) (hv : L[i]? = some v) : colS (X.take (k + 1)) i = addS (colS (X.take k) i) v := by
  refine rise_eq (colS_rise _ _) (setOf_spec _).1 fun x => ?_
  rw [mem_addS, mem_colS, mem_colS, List.take_add_one, hL]
  constructor
  · rintro ⟨M, hM, e⟩
    rcases List.mem_append.1 hM with h | h
    · exact .inr ⟨M, h, e⟩
    · rw [Option.toList_some, List.mem_singleton] at h
      subst h
      rw [hv] at e; exact .inl e.symm
  · rintro (rfl | ⟨M, hM, e⟩)
    · exact ⟨L, by simp, by rw [hv]; rfl⟩
    · exact ⟨M, List.mem_append_left _ hM, e⟩
theorem colS_mono {X Y : List (List Int)} (h : ∀ L ∈ X, L ∈ Y) (i : Nat) : (colS X i).length ≤ (colS Y i).length :=
  nodup_le (rise_nodup (colS_rise X i)) fun x hx => by
    obtain ⟨L, hL, e⟩ := mem_colS.1 hx
    exact mem_colS.2 ⟨L, h L hL, e⟩
/-- the least of lists' lengths -/
def leastL (l : List (List Int)) : Nat := ((l.map List.length).min?).getD 0
theorem leastL_is {l : List (List Int)} {s : List Int} (hs : s ∈ l) (h : ∀ t ∈ l, s.length ≤ t.length) : leastL l = s.length := by
  unfold leastL
  rw [(List.min?_eq_some_iff (a := s.length)).2 ⟨List.mem_map.2 ⟨s, hs, rfl⟩, fun b hb => by obtain ⟨t, ht, rfl⟩ := List.mem_map.1 hb; exact h t ht⟩]
  rfl
theorem leastL_mem {l : List (List Int)} (h : l ≠ []) : ∃ s ∈ l, leastL l = s.length ∧ ∀ t ∈ l, s.length ≤ t.length := by
  have hx : ∃ m, (l.map List.length).min? = some m := by
    cases l with
    | nil => exact absurd rfl h
    | cons a l => exact ⟨_, rfl⟩
  obtain ⟨m, hm⟩ := hx
  obtain ⟨h1, h2⟩ := List.min?_eq_some_iff.1 hm
  obtain ⟨s, hs, rfl⟩ := List.mem_map.1 h1
  exact ⟨s, hs, by unfold leastL; rw [hm]; rfl, fun t ht => h2 _ (List.mem_map.2 ⟨t, ht, rfl⟩)⟩
theorem leastL_le {l : List (List Int)} {s : List Int} (hs : s ∈ l) : leastL l ≤ s.length := by
  obtain ⟨t, _, e, h⟩ := leastL_mem (l := l) (fun e => by rw [e] at hs; cases hs)
  rw [e]; exact h s hs
def colsS (k : Nat) (X : List (List Int)) : List (List Int) := (List.range k).map (colS X)
theorem colsS_len (k : Nat) (X : List (List Int)) : (colsS k X).length = k := by unfold colsS; simp
theorem colsS_at {k : Nat} {X : List (List Int)} {i : Nat} (h : i < k) : (colsS k X)[i]? = some (colS X i) := by
  unfold colsS; rw [List.getElem?_map, List.getElem?_range h]; rfl
theorem mem_colsS {k : Nat} {X : List (List Int)} {s : List Int} : s ∈ colsS k X ↔ ∃ i, i < k ∧ colS X i = s := by
  unfold colsS; simp
theorem least_mono {k : Nat} {X Y : List (List Int)} (h : ∀ L ∈ X, L ∈ Y) : leastL (colsS k X) ≤ leastL (colsS k Y) := by
  cases k with
  | zero => exact Nat.le_refl _
  | succ k =>
    obtain ⟨s, hs, e, _⟩ := leastL_mem (l := colsS (k + 1) Y) (fun e => by have := colsS_len (k + 1) Y; rw [e] at this; simp at this)
    obtain ⟨i, hi, rfl⟩ := mem_colsS.1 hs
    rw [e]
    exact Nat.le_trans (leastL_le (mem_colsS.2 ⟨i, hi, rfl⟩)) (colS_mono h i)
theorem least_one (X : List (List Int)) : leastL (colsS 1 X) = (colS X 0).length := leastL_is (mem_colsS.2 ⟨0, by omega, rfl⟩) fun t ht => by
  obtain ⟨i, hi, rfl⟩ := mem_colsS.1 ht
  rw [show i = 0 by omega]; exact Nat.le_refl _
/-- vertices of a label -/
def labS (G : Gr) (x : Int) : List Int := ((List.range G.labels.length).filter fun v : Nat => decide (labelV G v = x)).map fun v : Nat => (v : Int)
theorem labS_rise (G : Gr) (x : Int) : (labS G x).Pairwise (· < ·) := range_rise _ _
theorem labS_len (G : Gr) (x : Int) : (labS G x).length = cntL G x G.labels.length := by unfold labS cntL; rw [List.length_map]
theorem mem_labS {G : Gr} {x v : Int} : v ∈ labS G x ↔ (0 ≤ v ∧ v < (G.labels.length : Int)) ∧ labelV G v = x := by
  unfold labS
  simp only [List.mem_map, List.mem_filter, List.mem_range, decide_eq_true_eq]
  constructor
  · rintro ⟨u, ⟨h1, h2⟩, rfl⟩; exact ⟨by omega, h2⟩
  · rintro ⟨h1, h2⟩
    exact ⟨v.toNat, ⟨by omega, by rw [Int.toNat_of_nonneg h1.1]; exact h2⟩, Int.toNat_of_nonneg h1.1⟩
theorem col_one (G : Gr) (x : Int) : colS (imgP G ⟨[x], []⟩ false) 0 = labS G x := by
  unfold colS
  rw [imgP_one, List.map_map]
  exact setOf_rise (labS_rise G x)
theorem col_lab {G : Gr} {p : Pt} {w : Bool} {i : Nat} (hi : i < p.labels.length) : ∀ v ∈ colS (imgP G p w) i, v ∈ labS G (plOf p i) := by
  intro v hv
  obtain ⟨L, hL, e⟩ := mem_colS.1 hv
  have hI := mem_imgP.1 hL
  have hx := List.getElem?_eq_getElem (l := L) (i := i) (by rw [hI.len]; exact hi)
  rw [hx] at e
  subst e
  exact mem_labS.2 ⟨hI.lt _ (List.mem_of_getElem? hx), hI.label i _ hx⟩
theorem col_cnt {G : Gr} {p : Pt} {w : Bool} {i : Nat} (hi : i < p.labels.length) : (colS (imgP G p w) i).length ≤ cntL G (plOf p i) G.labels.length := by
  rw [← labS_len]
  exact nodup_le (rise_nodup (colS_rise _ _)) (col_lab hi)
theorem img_edge_no {G : Gr} {x y : Int} {L : List Int} (h : IsImg G ⟨[x, y], [⟨0, 1⟩]⟩ false L) : IsImg G ⟨[x, y], []⟩ false L :=
  ⟨h.len, h.nodup, h.lt, h.label, fun _ _ _ _ _ _ _ hp => by simp [phOf] at hp, fun e => by cases e⟩
/-- the first vertices of images of an edge -/
theorem col_edge {G : Gr} (hG : G.Ok) {x y : Int} {v : Nat} (hv : v < G.labels.length) : (v : Int) ∈ colS (imgP G ⟨[x, y], [⟨0, 1⟩]⟩ false) 0 ↔ labelV G v = x ∧ ∃ u ∈ nearOf G.edges v, labelV G u = y := by
  rw [mem_colS]
  have hph : phOf ⟨[x, y], [⟨0, 1⟩]⟩ 0 1 = true := decide_eq_true (show turn ⟨0, 1⟩ ∈ ([⟨0, 1⟩] : List Edg) by decide)
  constructor
  · rintro ⟨L, hL, e⟩
    have hI := mem_imgP.1 hL
    have hlen : L.length = 2 := hI.len
    have h0 := List.getElem?_eq_getElem (l := L) (i := 0) (by omega)
    have h1 := List.getElem?_eq_getElem (l := L) (i := 1) (by omega)
    rw [h0] at e
    generalize L[0] = a at h0 e
    generalize L[1] = u at h1
    simp only [Option.getD_some] at e
    subst e
    have hh := hI.has 0 1 _ _ (by omega) h0 h1 hph
    have hu := hI.lt u (List.mem_of_getElem? h1)
    refine ⟨hI.label 0 _ h0, u, (mem_near hG).2 ⟨hu.1, hu.2, ?_⟩, hI.label 1 _ h1⟩
    rw [turn_comm]
    exact of_decide_eq_true hh
  · rintro ⟨hx, u, hu, hy⟩
    obtain ⟨h1, h2, h3⟩ := (mem_near hG).1 hu
    have hne : (v : Int) ≠ u := by
      rintro rfl
      have := (hG.edge _ h3).2.1
      unfold turn at this
      simp only at this
      omega
    have hh : hasG G v u = true := by unfold hasG; rw [turn_comm]; exact decide_eq_true h3
    refine ⟨[(v : Int), u], mem_imgP.2 ⟨rfl, by simp [hne], ?_, ?_, ?_, fun e => by cases e⟩, rfl⟩
    · intro z hz
      rcases List.mem_cons.1 hz with rfl | hz
      · omega
      · rw [List.mem_singleton.1 hz]; exact ⟨h1, h2⟩
    · intro i z hz
      match i with
      | 0 => simp at hz; subst hz; exact hx
      | 1 => simp at hz; subst hz; exact hy
      | i + 2 => simp at hz
    · intro i j a b hij ha hb _
      match i, j with
      | 0, 0 => exact absurd rfl hij
      | 1, 1 => exact absurd rfl hij
      | 0, 1 => simp at ha hb; subst ha; subst hb; exact hh
      | 1, 0 => simp at ha hb; subst ha; subst hb; rw [hasG_comm]; exact hh
      | i + 2, j => simp at ha
      | i, j + 2 => simp at hb
/-- sets of which some have a list's vertex more -/
def midS (k : Nat) (Y : List (List Int)) (M : List Int) (done : Nat → Bool) : List (List Int) := (List.range k).map fun v => if done v then colS (Y ++ [M]) v else colS Y v
theorem midS_len (k : Nat) (Y : List (List Int)) (M : List Int) (done : Nat → Bool) : (midS k Y M done).length = k := by unfold midS; simp
theorem midS_at {k : Nat} {Y : List (List Int)} {M : List Int} {done : Nat → Bool} {v : Nat} (hv : v < k) : (midS k Y M done)[v]? = some (if done v then colS (Y ++ [M]) v else colS Y v) := by
  unfold midS; rw [List.getElem?_map, List.getElem?_range hv]; rfl
theorem midS_start (k : Nat) (Y : List (List Int)) (M : List Int) {done : Nat → Bool} (h : ∀ v, v < k → done v = false) : midS k Y M done = colsS k Y := by
  unfold midS colsS
  exact List.map_congr_left fun v hv => by rw [h v (List.mem_range.1 hv)]; rfl
theorem midS_end (k : Nat) (Y : List (List Int)) (M : List Int) {done : Nat → Bool} (h : ∀ v, v < k → done v = true) : midS k Y M done = colsS k (Y ++ [M]) := by
  unfold midS colsS
  exact List.map_congr_left fun v hv => by rw [h v (List.mem_range.1 hv)]; rfl
theorem colS_snoc {Y : List (List Int)} {M : List Int} {v : Nat} {x : Int} (h : M[v]? = some x) : colS (Y ++ [M]) v = addS (colS Y v) x := by
  have := colS_step (X := Y ++ [M]) (k := Y.length) (L := M) (i := v) (v := x) (by simp) h
  rwa [List.take_of_length_le (by simp), List.take_left' rfl] at this
theorem midS_step {k : Nat} {Y : List (List Int)} {M : List Int} {done done' : Nat → Bool} {w : Nat} {x : Int} (hx : M[w]? = some x) (h : ∀ v, v < k → done' v = (done v || decide (v = w))) : (midS k Y M done).set w (addS (colS Y w) x) = midS k Y M done' := by
  refine List.ext_getElem? fun v => ?_
  rw [List.getElem?_set, midS_len]
  by_cases hv : v < k
  · rw [midS_at hv, midS_at hv, h v hv]
    by_cases e : w = v
    · subst e
      rw [if_pos rfl, if_pos hv, decide_eq_true rfl, Bool.or_true, if_pos rfl, colS_snoc hx]
    · rw [if_neg e, decide_eq_false (fun h => e h.symm), Bool.or_false]
  · rw [List.getElem?_eq_none (by rw [midS_len]; omega), List.getElem?_eq_none (by rw [midS_len]; omega)]
    by_cases e : w = v
    · rw [if_pos e, if_neg (by omega)]
    · rw [if_neg e]
end Go.Gr
end

section
/- slices.Grow, Concat at ints; sets.Add. -/
namespace Go.Proofs.YteigfapjiekdnaaGreatDoor
open Go.Sx Go.RowKit Go.Reg Go.Gr

set_option maxRecDepth 100000
theorem intInfo : (Tryz.prog.info? 3).map (fun i => (i.zero, i.size, i.bytes)) = some (some (.int .i64 0), 1, 8) := by kernel_rfl
theorem growI_mksl (m : Nat) (hm : m ≤ 2000000000) : MakeSl C1 147 [.nils, .int .i64 m] 3 1 (fun ds => ds = []) := by
  intro O w us hO hg hr
  obtain ⟨v, vs, rfl, h1, h2⟩ := reps_inv hr
  obtain ⟨v2, vs2, rfl, h3, h4⟩ := reps_inv h2
  obtain rfl := reps_inv0 h4
  have e1 : v = .slice none 0 0 := by
    obtain ⟨cs, r, e⟩ := h1
    simp only [RepC] at r
    subst r; exact e
  have e2 : v2 = .int .i64 m := by
    obtain ⟨cs, r, e⟩ := h3
    simp only [RepC] at r
    subst r; exact e
  subst e1 e2
  refine ⟨by kernel_rfl, ?_⟩
  obtain ⟨i0, hi0, ez, es, eb⟩ : ∃ i0, Tryz.prog.info? 3 = some i0 ∧ i0.zero = some (.int .i64 0) ∧ i0.size = 1 ∧ i0.bytes = 8 := by
    have := intInfo
    cases hq : Tryz.prog.info? 3 with
    | none => rw [hq] at this; cases this
    | some i => rw [hq] at this; simp only [Option.map_some, Option.some.injEq, Prod.mk.injEq] at this; exact ⟨i, rfl, this⟩
  by_cases h0 : m = 0
  · subst h0
    refine (Any8.slices_Grow_room Tryz.growI none 0 0 0 w (by omega) (by omega) (by omega) (by omega)).mono ?_
    rintro e w' ⟨rfl, rfl⟩
    exact ⟨_, [], [], rfl, rfl, World.ownsRow_nil _ 0 _ _, (fun b hb => by cases hb), rfl, (fun x hx => by cases hx), Tch.refl _ _⟩
  · refine (Any8.slices_Grow_grow Tryz.growI i0 (.int .i64 0) hi0 ez (by omega) none 0 0 m [] w (by omega) (by omega) (by rw [eb]; omega) (by omega) (by simp) (fun _ => rfl) (fun a ha => by cases ha)).mono ?_
    rintro e w' ⟨rfl, rfl⟩
    have hGn : 0 + m ≤ grownCap w (0 + m) 0 3 := grownCap_ge w _ _ _
    have hGm : grownCap w (0 + m) 0 3 ≤ maxLen := grownCap_le_maxLen w (0 + m) 0 _ (by unfold maxLen; omega)
    have hren : Tryz.growI_ren.t 25 = 3 := rfl
    rw [hren]
    generalize grownCap w (0 + m) 0 3 = G at hGn hGm ⊢
    obtain ⟨ROW, hROW⟩ : ∃ R, R = (([] : List Value).toArray ++ Builtin.zeroCells (Value.int .i64 0).cells (0 + m - 0) ++ Builtin.zeroCells (Value.int .i64 0).cells (G - (0 + m))) := ⟨_, rfl⟩
    have hs : ROW.size = G * 1 := by
      rw [hROW]
      simp only [Array.size_append, List.size_toArray, List.length_nil, size_zeroCells, Value.cells]
      simp; omega
    rw [← hROW]
    refine ⟨_, [], [], rfl, rfl, ?_, ?_, rfl, (fun x hx => by cases hx), (Tch.drew w []).trans0 (Tch.alloc _ _ _)⟩
    · exact ⟨rfl, .inr ⟨w.heap.size, G, ROW, rfl, Nat.zero_le _, (by show (w.heap.push (Obj.cells ROW 3))[w.heap.size]? = _; simp), Nat.zero_le _, hGm, hs, by simp⟩⟩
    · intro b hb
      simp only [Value.ownBlock, Option.some.injEq] at hb
      omega
theorem flatI_snoc {L : List (List Int)} {i : Nat} {l : List Int} (h : L[i]? = some l) : (L.take (i + 1)).flatten = (L.take i).flatten ++ l := by
  rw [List.take_add_one, h, Option.toList_some, List.flatten_append]; simp
theorem flatI_le (L : List (List Int)) (i : Nat) : (L.take i).flatten.length ≤ L.flatten.length := by
  conv => rhs; rw [← List.take_append_drop i L, List.flatten_append, List.length_append]
  omega
def pl_cci : List (Nat × Plan) := []
def G_cci : List FuncId := []
theorem cok_cci : codeOk Tryz.prog G_cci pl_cci (Tryz.f114.body.getD .skip) = true := by kernel_rfl
theorem run_cci (vs : Array Value) (w : World) : (callFunc 114 vs).run C1.P w = .ok (.enter 114 vs) w := by kernel_rfl
set_option maxHeartbeats 4000000 in
theorem concatI_pure (L : List (List Int)) (hL : L.length ≤ 1000) (hf : L.flatten.length ≤ 2000000000) : Pure C1 114 [.list 1 (L.map dIs)] (fun y => y = dIs L.flatten) := by
  have hdL : (L.map dIs).length = L.length := List.length_map _
  have hfl := flatI_le L
  refine pure_of c1_ok (pl := pl_cci) (G := G_cci) Tryz.func114 rfl Tryz.ntmps114 run_cci cok_cci (by simp) ?_
  ((conv => whnf); repeat' ((first | refine odw ?_ | refine ify ?_ | refine ifn ?_ | refine i6 ?_ | refine ati ?_ | refine mst ?_ | refine rmd ?_ | refine ibo (fun _ => ?_) (fun _ => ?_)) <;> conv => whnf))
  refine loop_lo (ι := Nat) (fun i => i ≤ L.length) (fun i => [(11, .d (.int .i64 i)), (10, .d (.int .i64 (L.map dIs).length)), (9, .d (.list 1 (L.map dIs))), (3, .d (.int .i64 ((L.take i).flatten.length : Nat))), (0, .d (.list 1 (L.map dIs)))]) (fun _ => []) (fun i => L.length - i) 0 (fun _ => rfl) (Nat.zero_le _) (.refl _ _) ⟨rfl, rfl, rfl, rfl, rfl, trivial⟩ trivial ?_
  intro i hi
  refine sxCode_sound c1_ok (G := G_cci) (pl := pl_cci) _ _ _ _ (by kernel_rfl) ?_
  by_cases hil : i < L.length
  · have hx := List.getElem?_eq_getElem hil
    generalize L[i] = x at hx
    have hxd : (L.map dIs)[i]? = some (dIs x) := by rw [List.getElem?_map, hx]; rfl
    have hdx : (x.map dI).length = x.length := List.length_map _
    have hst := congrArg List.length (flatI_snoc hx)
    rw [List.length_append] at hst
    have h1 := hfl (i + 1)
    (conv => whnf)
    (repeat' ((first | refine ord_ok (by (conv => whnf); (repeat' ((first | refine at_da hxd rfl ?_ | refine ify ?_ | refine ifn ?_ | refine i6 ?_ | refine ati ?_ | refine mst ?_ | refine rmd ?_ | refine ibo (fun _ => ?_) (fun _ => ?_)) <;> conv => whnf)); (all_goals (repeat' (first | exact trivial | exact rfl | refine And.intro ?_ ?_)))) ?_ | refine at_da hxd rfl ?_ | refine ify ?_ | refine ifn ?_ | refine i6 ?_ | refine ati ?_ | refine mst ?_ | refine rmd ?_ | refine ibo (fun _ => ?_) (fun _ => ?_)) <;> conv => whnf))
    exact ⟨i + 1, _, _, hil, .refl _ _, ⟨rfl, rfl, rfl, int_is (by omega), rfl, trivial⟩, trivial, by omega⟩
  · have e : L.take i = L := List.take_of_length_le (by omega)
    rw [e]
    ((conv => whnf); repeat' ((first | refine odw ?_ | refine ify ?_ | refine ifn ?_ | refine i6 ?_ | refine ati ?_ | refine mst ?_ | refine rmd ?_ | refine ibo (fun _ => ?_) (fun _ => ?_)) <;> conv => whnf))
    refine call_mksl 24 rfl rfl (growI_mksl _ hf) ?_; rintro ds rfl
    ((conv => whnf); repeat' ((first | refine odw ?_ | refine ify ?_ | refine ifn ?_ | refine i6 ?_ | refine ati ?_ | refine mst ?_ | refine rmd ?_ | refine ibo (fun _ => ?_) (fun _ => ?_)) <;> conv => whnf))
    refine loop_lo (ι := Nat) (fun i => i ≤ L.length) (fun i => [(27, .d (.int .i64 i)), (26, .d (.int .i64 (L.map dIs).length)), (25, .d (.list 1 (L.map dIs))), (6, .own 24)]) (fun i => [(24, .slice 3 1 ((L.take i).flatten.map dI))]) (fun i => L.length - i) 0 (fun _ => rfl) (Nat.zero_le _) (.refl _ _) ⟨rfl, rfl, rfl, rfl, trivial⟩ ⟨rfl, trivial⟩ ?_
    intro i hi
    refine sxCode_sound c1_ok (G := G_cci) (pl := pl_cci) _ _ _ _ (by kernel_rfl) ?_
    by_cases hil : i < L.length
    · have hx := List.getElem?_eq_getElem hil
      generalize L[i] = x at hx
      have hxd : (L.map dIs)[i]? = some (dIs x) := by rw [List.getElem?_map, hx]; rfl
      have hdx : (x.map dI).length = x.length := List.length_map _
      have hst := flatI_snoc hx
      have hsl := congrArg List.length hst
      rw [List.length_append] at hsl
      have h1 := hfl (i + 1)
      generalize (L.take i).flatten = Z at hst hsl ⊢
      have hdz : (Z.map dI).length = Z.length := List.length_map _
      (conv => whnf)
      (repeat' ((first | refine ord_ok (by (conv => whnf); (repeat' ((first | refine at_da hxd rfl ?_ | refine ify ?_ | refine ifn ?_ | refine i6 ?_ | refine ati ?_ | refine mst ?_ | refine rmd ?_ | refine ibo (fun _ => ?_) (fun _ => ?_)) <;> conv => whnf)); (all_goals (repeat' (first | exact trivial | exact rfl | refine And.intro ?_ ?_)))) ?_ | refine at_da hxd rfl ?_ | refine ify ?_ | refine ifn ?_ | refine i6 ?_ | refine ati ?_ | refine mst ?_ | refine rmd ?_ | refine ibo (fun _ => ?_) (fun _ => ?_)) <;> conv => whnf))
      exact ⟨i + 1, _, _, hil, .refl _ _, ⟨rfl, rfl, rfl, rfl, trivial⟩, ⟨slice_is (by rw [hst, List.map_append]), trivial⟩, by omega⟩
    · have e : L.take i = L := List.take_of_length_le (by omega)
      rw [e]
      ((conv => whnf); repeat' ((first | refine odw ?_ | refine ify ?_ | refine ifn ?_ | refine i6 ?_ | refine ati ?_ | refine mst ?_ | refine rmd ?_ | refine ibo (fun _ => ?_) (fun _ => ?_)) <;> conv => whnf))
      exact rfl
theorem bsw_pure (l : List Int) (hr : l.Pairwise (· < ·)) (hl : l.length ≤ 4294967296) (e : Int) : Pure C1 113 [dIs l, .int .i64 e] (fun y => ∃ m : Nat, (m ≤ l.length ∧ (∀ z ∈ l.take m, z < e) ∧ ∀ z ∈ l.drop m, ¬ z < e) ∧ y = .tuple [.int .i64 m, .bool (decide (e ∈ l))]) := by
  have hlm : (l.map dI).length = l.length := List.length_map _
  refine pure_of c1_ok (pl := pl_bsi) (G := G_bsi) Tryz.func113 rfl Tryz.ntmps113 run_bsi cok_bsi (by simp) ?_
  ((conv => whnf); repeat' ((first | refine odw ?_ | refine ify ?_ | refine ifn ?_ | refine i6 ?_ | refine ati ?_ | refine mst ?_ | refine rmd ?_ | refine ibo (fun _ => ?_) (fun _ => ?_)) <;> conv => whnf))
  refine loop_lo (ι := Nat × Nat) (fun x => x.1 ≤ x.2 ∧ x.2 ≤ l.length ∧ (∀ z ∈ l.take x.1, z < e) ∧ ∀ z ∈ l.drop x.2, ¬ z < e)
    (fun x => [(8, .d (.int .i64 x.2)), (7, .d (.int .i64 x.1)), (6, .d (.int .i64 (l.map dI).length)), (1, .d (.int .i64 e)), (0, .d (dIs l))])
    (fun _ => []) (fun x => x.2 - x.1) (0, (l.map dI).length) (fun _ => rfl) ⟨Nat.zero_le _, by rw [hlm]; exact Nat.le_refl _, by simp, by rw [hlm]; simp⟩ (.refl _ _) ⟨rfl, rfl, rfl, rfl, rfl, trivial⟩ trivial ?_
  rintro ⟨lo, hi⟩ ⟨h1, h2, h3, h4⟩
  dsimp only at h1 h2 h3 h4
  refine sxCode_sound c1_ok (G := G_bsi) (pl := pl_bsi) _ _ _ _ (by kernel_rfl) ?_
  by_cases hlt : lo < hi
  · have hx := List.getElem?_eq_getElem (l := l) (i := (lo + hi) / 2) (by omega)
    generalize l[(lo + hi) / 2]'(by omega) = z at hx
    have hxd : (l.map dI)[(lo + hi) / 2]? = some (.int .i64 z) := by rw [List.getElem?_map, hx]; rfl
    have hle := less_pure z e
    by_cases hz : z < e
    · rw [decide_eq_true hz] at hle
      (conv => whnf)
      (repeat' ((first | refine ord_ok (by (conv => whnf); (repeat' ((first | refine u64_is (by omega) ?_ | refine ify ?_ | refine ifn ?_ | refine i6 ?_ | refine ati ?_ | refine mst ?_ | refine rmd ?_ | refine ibo (fun _ => ?_) (fun _ => ?_)) <;> conv => whnf)); (all_goals (repeat' (first | exact trivial | exact rfl | refine And.intro ?_ ?_)))) ?_ | refine u64_is (by omega) ?_ | refine ify ?_ | refine ifn ?_ | refine i6 ?_ | refine ati ?_ | refine mst ?_ | refine rmd ?_ | refine ibo (fun _ => ?_) (fun _ => ?_)) <;> conv => whnf))
      refine op_shr 1 rfl rfl rfl (by decide) rfl rfl ?_
      (conv => whnf)
      (repeat' ((first | refine ord_ok (by (conv => whnf); (repeat' ((first | refine i64_eq ((lo + hi) / 2) (half_nat lo hi) (by omega) ?_ | refine at_da hxd rfl ?_ | refine call_eq rfl hle ?_ | refine ify ?_ | refine ifn ?_ | refine i6 ?_ | refine ati ?_ | refine mst ?_ | refine rmd ?_ | refine ibo (fun _ => ?_) (fun _ => ?_)) <;> conv => whnf)); (all_goals (repeat' (first | exact trivial | exact rfl | refine And.intro ?_ ?_)))) ?_ | refine i64_eq ((lo + hi) / 2) (half_nat lo hi) (by omega) ?_ | refine at_da hxd rfl ?_ | refine call_eq rfl hle ?_ | refine ify ?_ | refine ifn ?_ | refine i6 ?_ | refine ati ?_ | refine mst ?_ | refine rmd ?_ | refine ibo (fun _ => ?_) (fun _ => ?_)) <;> conv => whnf))
      exact ⟨((lo + hi) / 2 + 1, hi), _, _, ⟨by dsimp only; omega, h2, rise_take hr hx hz, h4⟩, .refl _ _, ⟨rfl, rfl, rfl, rfl, rfl, trivial⟩, trivial, by dsimp only; omega⟩
    · rw [decide_eq_false hz] at hle
      (conv => whnf)
      (repeat' ((first | refine ord_ok (by (conv => whnf); (repeat' ((first | refine u64_is (by omega) ?_ | refine ify ?_ | refine ifn ?_ | refine i6 ?_ | refine ati ?_ | refine mst ?_ | refine rmd ?_ | refine ibo (fun _ => ?_) (fun _ => ?_)) <;> conv => whnf)); (all_goals (repeat' (first | exact trivial | exact rfl | refine And.intro ?_ ?_)))) ?_ | refine u64_is (by omega) ?_ | refine ify ?_ | refine ifn ?_ | refine i6 ?_ | refine ati ?_ | refine mst ?_ | refine rmd ?_ | refine ibo (fun _ => ?_) (fun _ => ?_)) <;> conv => whnf))
      refine op_shr 1 rfl rfl rfl (by decide) rfl rfl ?_
      (conv => whnf)
      (repeat' ((first | refine ord_ok (by (conv => whnf); (repeat' ((first | refine i64_eq ((lo + hi) / 2) (half_nat lo hi) (by omega) ?_ | refine at_da hxd rfl ?_ | refine call_eq rfl hle ?_ | refine ify ?_ | refine ifn ?_ | refine i6 ?_ | refine ati ?_ | refine mst ?_ | refine rmd ?_ | refine ibo (fun _ => ?_) (fun _ => ?_)) <;> conv => whnf)); (all_goals (repeat' (first | exact trivial | exact rfl | refine And.intro ?_ ?_)))) ?_ | refine i64_eq ((lo + hi) / 2) (half_nat lo hi) (by omega) ?_ | refine at_da hxd rfl ?_ | refine call_eq rfl hle ?_ | refine ify ?_ | refine ifn ?_ | refine i6 ?_ | refine ati ?_ | refine mst ?_ | refine rmd ?_ | refine ibo (fun _ => ?_) (fun _ => ?_)) <;> conv => whnf))
      exact ⟨(lo, (lo + hi) / 2), _, _, ⟨by dsimp only; omega, by dsimp only; omega, h3, rise_drop hr hx hz⟩, .refl _ _, ⟨rfl, rfl, rfl, rfl, rfl, trivial⟩, trivial, by dsimp only; omega⟩
  · have h4' : ∀ z ∈ l.drop lo, ¬ z < e := by rw [show lo = hi by omega]; exact h4
    have hm := rise_mem hr h3 h4'
    by_cases hln : lo < l.length
    · have hx := List.getElem?_eq_getElem hln
      generalize l[lo] = z at hx
      have hxd : (l.map dI)[lo]? = some (.int .i64 z) := by rw [List.getElem?_map, hx]; rfl
      have hnz := snan_pure z
      by_cases hz : z = e
      · rw [decide_eq_true (hm.2 (by rw [hx, hz]))]
        (conv => whnf)
        (repeat' ((first | refine ord_ok (by (conv => whnf); (repeat' ((first | refine at_da hxd rfl ?_ | refine call_eq rfl hnz ?_ | refine ify ?_ | refine ifn ?_ | refine i6 ?_ | refine ati ?_ | refine mst ?_ | refine rmd ?_ | refine ibo (fun _ => ?_) (fun _ => ?_)) <;> conv => whnf)); (all_goals (repeat' (first | exact trivial | exact rfl | refine And.intro ?_ ?_)))) ?_ | refine at_da hxd rfl ?_ | refine call_eq rfl hnz ?_ | refine ify ?_ | refine ifn ?_ | refine i6 ?_ | refine ati ?_ | refine mst ?_ | refine rmd ?_ | refine ibo (fun _ => ?_) (fun _ => ?_)) <;> conv => whnf))
        exact ⟨lo, ⟨by omega, h3, h4'⟩, rfl⟩
      · rw [decide_eq_false (fun h => hz (by have := hm.1 h; rw [hx] at this; exact Option.some.inj this))]
        (conv => whnf)
        (repeat' ((first | refine ord_ok (by (conv => whnf); (repeat' ((first | refine at_da hxd rfl ?_ | refine call_eq rfl hnz ?_ | refine ify ?_ | refine ifn ?_ | refine i6 ?_ | refine ati ?_ | refine mst ?_ | refine rmd ?_ | refine ibo (fun _ => ?_) (fun _ => ?_)) <;> conv => whnf)); (all_goals (repeat' (first | exact trivial | exact rfl | refine And.intro ?_ ?_)))) ?_ | refine at_da hxd rfl ?_ | refine call_eq rfl hnz ?_ | refine ify ?_ | refine ifn ?_ | refine i6 ?_ | refine ati ?_ | refine mst ?_ | refine rmd ?_ | refine ibo (fun _ => ?_) (fun _ => ?_)) <;> conv => whnf))
        exact ⟨lo, ⟨by omega, h3, h4'⟩, rfl⟩
    · rw [decide_eq_false (fun h => by have := hm.1 h; rw [List.getElem?_eq_none (by omega)] at this; cases this)]
      ((conv => whnf); repeat' ((first | refine odw ?_ | refine ify ?_ | refine ifn ?_ | refine i6 ?_ | refine ati ?_ | refine mst ?_ | refine rmd ?_ | refine ibo (fun _ => ?_) (fun _ => ?_)) <;> conv => whnf))
      exact ⟨lo, ⟨by omega, h3, h4'⟩, rfl⟩
theorem clone1_pure (x : Int) (l : List Int) (hl : (x :: l).length ≤ 2000000000) : Pure C1 55 [dIs (x :: l)] (fun y => y = dIs (x :: l)) := by
  have hlm : ((x :: l).map dI).length = (x :: l).length := List.length_map _
  refine pure_of c1_ok (pl := pl_clone) (G := G_clone) Tryz.func55 rfl Tryz.ntmps55 run_clone cok_clone (by simp) ?_
  have hlm2 : (([] : List Da).length + ((x :: l).map dI).length) ≤ 4294967296 := by rw [hlm]; simp at hl ⊢; omega
  ((conv => whnf); repeat' ((first | refine odw ?_ | refine ify ?_ | refine ifn ?_ | refine i6 ?_ | refine ati ?_ | refine mst ?_ | refine rmd ?_ | refine ibo (fun _ => ?_) (fun _ => ?_)) <;> conv => whnf))
  all_goals first | exact rfl | (refine most_ok hlm2 ?_; ((conv => whnf); repeat' ((first | refine odw ?_ | refine ify ?_ | refine ifn ?_ | refine i6 ?_ | refine ati ?_ | refine mst ?_ | refine rmd ?_ | refine ibo (fun _ => ?_) (fun _ => ?_)) <;> conv => whnf)); exact rfl)
theorem addS_has {s : List Int} {n : Int} (hs : s.Pairwise (· < ·)) (h : n ∈ s) : addS s n = s := rise_eq (setOf_spec _).1 hs fun x => by
  rw [mem_addS]
  exact ⟨fun h' => h'.elim (fun e => e ▸ h) id, .inr⟩
theorem addS_cut {s : List Int} {n : Int} {m : Nat} (hs : s.Pairwise (· < ·)) (hn : n ∉ s) (h1 : ∀ z ∈ s.take m, z < n) (h2 : ∀ z ∈ s.drop m, ¬ z < n) : addS s n = s.take m ++ ([n] ++ s.drop m) := by
  refine rise_eq (setOf_spec _).1 ?_ fun x => ?_
  · rw [List.pairwise_append, List.pairwise_append]
    refine ⟨hs.sublist (List.take_sublist _ _), ⟨by simp, hs.sublist (List.drop_sublist _ _), fun a ha b hb => ?_⟩, fun a ha b hb => ?_⟩
    · rw [List.mem_singleton] at ha; subst ha
      have := h2 b hb
      have hne : b ≠ a := fun e => hn (e ▸ List.mem_of_mem_drop hb)
      omega
    · have h3 := h1 a ha
      rcases List.mem_append.1 hb with hb | hb
      · rw [List.mem_singleton] at hb; subst hb; exact h3
      · have := h2 b hb; omega
  · rw [mem_addS]
    have : x ∈ s ↔ x ∈ s.take m ∨ x ∈ s.drop m := by rw [← List.mem_append, List.take_append_drop]
    rw [this]
    simp only [List.mem_append, List.mem_singleton]
    constructor
    · rintro (h | h | h)
      · exact .inr (.inl h)
      · exact .inl h
      · exact .inr (.inr h)
    · rintro (h | h | h)
      · exact .inr (.inl h)
      · exact .inl h
      · exact .inr (.inr h)
def pl_sadd : List (Nat × Plan) := [(4, .leaf [0, 0, 0, 0, 6, 0, 0, 0, 6, 2, 0] [0, 1, 2, 3, 5, 6, 7, 4, 8, 9, 10] [0, 0, 3, 0, 8, 0, 0, 96, 255, 511, 1023])]
def G_sadd : List FuncId := [113, 55, 114]
theorem cok_sadd : codeOk Tryz.prog G_sadd pl_sadd (Tryz.f54.body.getD .skip) = true := by kernel_rfl
theorem run_sadd (vs : Array Value) (w : World) : (callFunc 54 vs).run C1.P w = .ok (.enter 54 vs) w := by kernel_rfl
set_option maxHeartbeats 4000000 in
theorem sadd_pure (s : List Int) (hs : s.Pairwise (· < ·)) (hl : s.length ≤ 1000000000) (n : Int) : Pure C1 54 [dIs s, .int .i64 n] (fun y => y = dIs (addS s n)) := by
  have hsl : (s.map dI).length = s.length := List.length_map _
  have hb := bsw_pure s hs (by omega) n
  refine pure_of c1_ok (pl := pl_sadd) (G := G_sadd) Tryz.func54 rfl Tryz.ntmps54 run_sadd cok_sadd (by simp) ?_
  by_cases hn : n ∈ s
  · rw [decide_eq_true hn] at hb
    rw [addS_has hs hn]
    have hcl : Pure C1 55 [dIs s] (fun y => y = dIs s) := by
      cases s with
      | nil => cases hn
      | cons x l => exact clone1_pure x l (by omega)
    (conv => whnf)
    refine call_pure rfl hb ?_; rintro y ⟨m, _, rfl⟩
    (conv => whnf)
    (repeat' ((first | refine ord_ok (by (conv => whnf); (repeat' ((first | refine call_eq rfl hcl ?_ | refine ify ?_ | refine ifn ?_ | refine i6 ?_ | refine ati ?_ | refine mst ?_ | refine rmd ?_ | refine ibo (fun _ => ?_) (fun _ => ?_)) <;> conv => whnf)); (all_goals (repeat' (first | exact trivial | exact rfl | refine And.intro ?_ ?_)))) ?_ | refine call_eq rfl hcl ?_ | refine ify ?_ | refine ifn ?_ | refine i6 ?_ | refine ati ?_ | refine mst ?_ | refine rmd ?_ | refine ibo (fun _ => ?_) (fun _ => ?_)) <;> conv => whnf))
    exact rfl
  · rw [decide_eq_false hn] at hb
    (conv => whnf)
    refine call_pure rfl hb ?_; rintro y ⟨m, ⟨hm, h1, h2⟩, rfl⟩
    rw [addS_cut hs hn h1 h2]
    have hcc : Pure C1 114 [.list 1 [.list 1 ((s.map dI).take m), .list 1 [.int .i64 n], .list 1 ((s.map dI).drop m)]] (fun y => y = dIs (s.take m ++ ([n] ++ s.drop m))) := by
      have := concatI_pure [s.take m, [n], s.drop m] (by simp) (by simp; omega)
      simp only [List.map_cons, List.map_nil, List.flatten_cons, List.flatten_nil, List.append_nil] at this
      rw [← List.map_take, ← List.map_drop]
      exact this
    (conv => whnf)
    (repeat' ((first | refine ord_ok (by (conv => whnf); (repeat' ((first | refine upto_is rfl (show m ≤ (s.map dI).length by omega) ?_ | refine sl_is m rfl (by omega) ?_ | refine ify ?_ | refine ifn ?_ | refine i6 ?_ | refine ati ?_ | refine mst ?_ | refine rmd ?_ | refine ibo (fun _ => ?_) (fun _ => ?_)) <;> conv => whnf)); (all_goals (repeat' (first | exact trivial | exact rfl | refine And.intro ?_ ?_)))) ?_ | refine upto_is rfl (show m ≤ (s.map dI).length by omega) ?_ | refine sl_is m rfl (by omega) ?_ | refine ify ?_ | refine ifn ?_ | refine i6 ?_ | refine ati ?_ | refine mst ?_ | refine rmd ?_ | refine ibo (fun _ => ?_) (fun _ => ?_)) <;> conv => whnf))
    refine op_again c1_ok (G := []) (.frz 20 rfl (.refl _ _)) (.inl rfl) ?_
    (conv => whnf)
    (repeat' ((first | refine ord_ok (by (conv => whnf); (repeat' ((first | refine call_frz 24 rfl ?_ | refine call_eq rfl hcc ?_ | refine ify ?_ | refine ifn ?_ | refine i6 ?_ | refine ati ?_ | refine mst ?_ | refine rmd ?_ | refine ibo (fun _ => ?_) (fun _ => ?_)) <;> conv => whnf)); (all_goals (repeat' (first | exact trivial | exact rfl | refine And.intro ?_ ?_)))) ?_ | refine call_frz 24 rfl ?_ | refine call_eq rfl hcc ?_ | refine ify ?_ | refine ifn ?_ | refine i6 ?_ | refine ati ?_ | refine mst ?_ | refine rmd ?_ | refine ibo (fun _ => ?_) (fun _ => ?_)) <;> conv => whnf))
    exact rfl
end Go.Proofs.YteigfapjiekdnaaGreatDoor
end

section
/- slices.MinFunc; mini: right, All, least, Support. -/
namespace Go.Proofs.YteigfapjiekdnaaGreatDoor
open Go.Sx Go.RowKit Go.Reg Go.Gr

set_option maxRecDepth 100000
/-- a set: nil as long as it is empty -/
def dN (s : List Int) : Da := if s = [] then .nils else dIs s
theorem dN_cons (x : Int) (s : List Int) : dN (x :: s) = dIs (x :: s) := rfl
theorem laxN (s : List Int) : LaxA (dN s) (dIs s) := by
  cases s with
  | nil => exact .nils 1
  | cons x s => exact .refl _
theorem dN_ne {s : List Int} (h : s ≠ []) : dN s = dIs s := by unfold dN; rw [if_neg h]
theorem addS_ne (s : List Int) (n : Int) : addS s n ≠ [] := fun e => by
  have : n ∈ addS s n := mem_addS.2 (.inl rfl)
  rw [e] at this; cases this
theorem dN_or (s : List Int) : dN s = .nils ∨ dN s = dIs s := by unfold dN; split <;> simp
def pl_ml1 : List (Nat × Plan) := []
def G_ml1 : List FuncId := []
theorem cok_ml1 : codeOk Tryz.prog G_ml1 pl_ml1 (Tryz.f112.body.getD .skip) = true := by kernel_rfl
theorem run_ml1 (vs : Array Value) (w : World) : (callFunc 112 vs).run C1.P w = .ok (.enter 112 vs) w := by kernel_rfl
theorem least1_pure (a b : List Int) (ha : a.length ≤ 1000000000) (hb : b.length ≤ 1000000000) : Pure C1 112 [dN a, dN b] (fun y => y = .int .i64 ((a.length : Int) - b.length)) := by
  have hda : (a.map dI).length = a.length := List.length_map _
  have hdb : (b.map dI).length = b.length := List.length_map _
  refine Sx.Pure.lax (.cons (laxN a) (.cons (laxN b) .nil)) ?_
  refine pure_of c1_ok (pl := pl_ml1) (G := G_ml1) Tryz.func112 rfl Tryz.ntmps112 run_ml1 cok_ml1 (by simp) ?_
  ((conv => whnf); repeat' ((first | refine odw ?_ | refine ify ?_ | refine ifn ?_ | refine i6 ?_ | refine ati ?_ | refine mst ?_ | refine rmd ?_ | refine ibo (fun _ => ?_) (fun _ => ?_)) <;> conv => whnf))
  exact congrArg (Da.int .i64) (by omega)
def pl_mnf : List (Nat × Plan) := []
def G_mnf : List FuncId := []
theorem cok_mnf : codeOk Tryz.prog G_mnf pl_mnf (Tryz.f111.body.getD .skip) = true := by kernel_rfl
theorem run_mnf (vs : Array Value) (w : World) : (callFunc 111 vs).run C1.P w = .ok (.enter 111 vs) w := by kernel_rfl
set_option maxHeartbeats 4000000 in
theorem minf_pure (l : List (List Int)) (h0 : l ≠ []) (hm : l.length ≤ 1000) (hs : ∀ s ∈ l, s.length ≤ 1000000000) : Pure C1 111 [.list 1 (l.map dN), .func (.func 112) [] []] (fun y => ∃ s ∈ l, y = dN s ∧ ∀ t ∈ l, s.length ≤ t.length) := by
  have hdl : (l.map dN).length = l.length := List.length_map _
  have hpos : 0 < l.length := List.length_pos_iff.2 h0
  have hx := List.getElem?_eq_getElem hpos
  have hxm := List.getElem_mem hpos
  generalize l[0] = s0 at hx hxm
  have hxd : (l.map dN)[0]? = some (dN s0) := by rw [List.getElem?_map, hx]; rfl
  refine pure_of c1_ok (pl := pl_mnf) (G := G_mnf) Tryz.func111 rfl Tryz.ntmps111 run_mnf cok_mnf (by simp) ?_
  have hstart : ∃ z, z = dN s0 ∧ (z = .nils ∨ z = dIs s0) := ⟨_, rfl, dN_or s0⟩
  obtain ⟨z, hz, hzo⟩ := hstart
  rw [← hz] at hxd
  rcases hzo with rfl | rfl <;> (conv => whnf) <;> (repeat' ((first | refine ord_ok (by (conv => whnf); (repeat' ((first | refine at_da hxd rfl ?_ | refine ify ?_ | refine ifn ?_ | refine i6 ?_ | refine ati ?_ | refine mst ?_ | refine rmd ?_ | refine ibo (fun _ => ?_) (fun _ => ?_)) <;> conv => whnf)); (all_goals (repeat' (first | exact trivial | exact rfl | refine And.intro ?_ ?_)))) ?_ | refine at_da hxd rfl ?_ | refine ify ?_ | refine ifn ?_ | refine i6 ?_ | refine ati ?_ | refine mst ?_ | refine rmd ?_ | refine ibo (fun _ => ?_) (fun _ => ?_)) <;> conv => whnf))
  all_goals
    refine loop_lo (ι := Nat × List Int × Da) (fun x => (1 ≤ x.1 ∧ x.1 ≤ l.length) ∧ x.2.2 = dN x.2.1 ∧ x.2.1 ∈ l ∧ ∀ k t, k < x.1 → l[k]? = some t → x.2.1.length ≤ t.length) (fun x => [(6, .d (.int .i64 x.1)), (5, .d x.2.2), (1, .d (.func (.func 112) [] [])), (0, .d (.list 1 (l.map dN)))]) (fun _ => []) (fun x => l.length - x.1) (1, s0, _) (fun _ => rfl) ⟨⟨Nat.le_refl _, hpos⟩, hz, hxm, fun k t hk ht => by rw [show k = 0 by omega, hx] at ht; cases ht; exact Nat.le_refl _⟩ (.refl _ _) ⟨rfl, rfl, rfl, rfl, trivial⟩ trivial ?_
    rintro ⟨i, s, d⟩ ⟨⟨h1, h2⟩, hd, hsm, hle⟩
    dsimp only at h1 h2 hd hsm hle
    refine sxCode_sound c1_ok (G := G_mnf) (pl := pl_mnf) _ _ _ _ (by kernel_rfl) ?_
    by_cases hlt : i < l.length
    · have hy := List.getElem?_eq_getElem hlt
      have hym := List.getElem_mem hlt
      generalize l[i] = x at hy hym
      have hyd : (l.map dN)[i]? = some (dN x) := by rw [List.getElem?_map, hy]; rfl
      have hc := least1_pure x s (hs x hym) (hs s hsm)
      have hst : ∀ z, (∀ k t, k < i → l[k]? = some t → z ≤ t.length) → z ≤ x.length → ∀ k t, k < i + 1 → l[k]? = some t → z ≤ t.length := by
        intro z hz hzx k t hk ht
        rcases Nat.lt_or_ge k i with h | h
        · exact hz k t h ht
        · rw [show k = i by omega, hy] at ht; cases ht; exact hzx
      have hsx := dN_or s
      have hxx := dN_or x
      rw [← hd] at hc hsx
      generalize hX : dN x = xd at hyd hc hxx
      by_cases hxs : x.length < s.length
      · have hneg : (x.length : Int) - s.length < 0 := by omega
        rcases hsx with rfl | rfl <;> rcases hxx with rfl | rfl <;> (conv => whnf) <;> (repeat' ((first | refine ord_ok (by (conv => whnf); (repeat' ((first | refine at_da hyd rfl ?_ | refine call_eq rfl hc ?_ | refine ify ?_ | refine ifn ?_ | refine i6 ?_ | refine ati ?_ | refine mst ?_ | refine rmd ?_ | refine ibo (fun _ => ?_) (fun _ => ?_)) <;> conv => whnf)); (all_goals (repeat' (first | exact trivial | exact rfl | refine And.intro ?_ ?_)))) ?_ | refine at_da hyd rfl ?_ | refine call_eq rfl hc ?_ | refine ify ?_ | refine ifn ?_ | refine i6 ?_ | refine ati ?_ | refine mst ?_ | refine rmd ?_ | refine ibo (fun _ => ?_) (fun _ => ?_)) <;> conv => whnf))
        all_goals exact ⟨(i + 1, x, _), _, _, ⟨⟨by dsimp only; omega, hlt⟩, hX.symm, hym, hst _ (fun k t hk ht => Nat.le_trans (Nat.le_of_lt hxs) (hle k t hk ht)) (Nat.le_refl _)⟩, .refl _ _, ⟨rfl, rfl, rfl, rfl, trivial⟩, trivial, by dsimp only; omega⟩
      · rcases hsx with rfl | rfl <;> rcases hxx with rfl | rfl <;> (conv => whnf) <;> (repeat' ((first | refine ord_ok (by (conv => whnf); (repeat' ((first | refine at_da hyd rfl ?_ | refine call_eq rfl hc ?_ | refine ify ?_ | refine ifn ?_ | refine i6 ?_ | refine ati ?_ | refine mst ?_ | refine rmd ?_ | refine ibo (fun _ => ?_) (fun _ => ?_)) <;> conv => whnf)); (all_goals (repeat' (first | exact trivial | exact rfl | refine And.intro ?_ ?_)))) ?_ | refine at_da hyd rfl ?_ | refine call_eq rfl hc ?_ | refine ify ?_ | refine ifn ?_ | refine i6 ?_ | refine ati ?_ | refine mst ?_ | refine rmd ?_ | refine ibo (fun _ => ?_) (fun _ => ?_)) <;> conv => whnf))
        all_goals exact ⟨(i + 1, s, _), _, _, ⟨⟨by dsimp only; omega, hlt⟩, hd, hsm, hst s.length hle (by omega)⟩, .refl _ _, ⟨rfl, rfl, rfl, rfl, trivial⟩, trivial, by dsimp only; omega⟩
    · have hsx := dN_or s
      rw [← hd] at hsx
      rcases hsx with rfl | rfl <;> ((conv => whnf); repeat' ((first | refine odw ?_ | refine ify ?_ | refine ifn ?_ | refine i6 ?_ | refine ati ?_ | refine mst ?_ | refine rmd ?_ | refine ibo (fun _ => ?_) (fun _ => ?_)) <;> conv => whnf))
      all_goals
        refine ⟨s, hsm, hd, fun t ht => ?_⟩
        obtain ⟨k, hk⟩ := List.mem_iff_getElem?.1 ht
        have := (List.getElem?_eq_some_iff.1 hk).1
        exact hle k t (by omega) hk
def pl_mlt : List (Nat × Plan) := []
def G_mlt : List FuncId := [111]
theorem cok_mlt : codeOk Tryz.prog G_mlt pl_mlt (Tryz.f52.body.getD .skip) = true := by kernel_rfl
theorem run_mlt (vs : Array Value) (w : World) : (callFunc 52 vs).run C1.P w = .ok (.enter 52 vs) w := by kernel_rfl
theorem least_pure (l : List (List Int)) (h0 : l ≠ []) (hm : l.length ≤ 1000) (hs : ∀ s ∈ l, s.length ≤ 1000000000) : Pure C1 52 [.list 1 (l.map dN)] (fun y => y = .int .i64 (leastL l : Nat)) := by
  have hdl : (l.map dN).length = l.length := List.length_map _
  have hpos : 0 < l.length := List.length_pos_iff.2 h0
  refine pure_of c1_ok (pl := pl_mlt) (G := G_mlt) Tryz.func52 rfl Tryz.ntmps52 run_mlt cok_mlt (by simp) ?_
  ((conv => whnf); repeat' ((first | refine odw ?_ | refine ify ?_ | refine ifn ?_ | refine i6 ?_ | refine ati ?_ | refine mst ?_ | refine rmd ?_ | refine ibo (fun _ => ?_) (fun _ => ?_)) <;> conv => whnf))
  refine call_pure rfl (minf_pure l h0 hm hs) ?_; rintro y ⟨s, hsm, rfl, hle⟩
  rw [leastL_is hsm hle]
  cases s with
  | nil =>
    rw [show dN [] = Da.nils from rfl]
    ((conv => whnf); repeat' ((first | refine odw ?_ | refine ify ?_ | refine ifn ?_ | refine i6 ?_ | refine ati ?_ | refine mst ?_ | refine rmd ?_ | refine ibo (fun _ => ?_) (fun _ => ?_)) <;> conv => whnf))
    exact rfl
  | cons x s =>
    have hds : ((x :: s).map dI).length = (x :: s).length := List.length_map _
    rw [dN_cons]
    ((conv => whnf); repeat' ((first | refine odw ?_ | refine ify ?_ | refine ifn ?_ | refine i6 ?_ | refine ati ?_ | refine mst ?_ | refine rmd ?_ | refine ibo (fun _ => ?_) (fun _ => ?_)) <;> conv => whnf))
    exact congrArg (Da.int .i64) (by omega)
def patternS : ByteArray := ⟨#[112, 97, 116, 116, 101, 114, 110]⟩
def pl_mri : List (Nat × Plan) := []
def G_mri : List FuncId := [31, 63]
theorem cok_mri : codeOk Tryz.prog G_mri pl_mri (Tryz.f53.body.getD .skip) = true := by kernel_rfl
theorem run_mri (vs : Array Value) (w : World) : (callFunc 53 vs).run C1.P w = .ok (.enter 53 vs) w := by kernel_rfl
theorem mright_pure {p : Pt} (hp : pErr p = none) (h0 : p.labels ≠ []) (hm : p.labels.length ≤ 1000) (hme : p.edges.length ≤ 1000) : Pure C1 53 [dPt p] (fun y => y = .nili) := by
  have hdl : (p.labels.map dI).length = p.labels.length := List.length_map _
  have hpos : 0 < p.labels.length := List.length_pos_iff.2 h0
  have hr := pright_pure p (by omega) (by omega)
  rw [rightP_none hp] at hr
  refine pure_of c1_ok (pl := pl_mri) (G := G_mri) Tryz.func53 rfl Tryz.ntmps53 run_mri cok_mri (by simp) ?_
  (conv => whnf)
  (repeat' ((first | refine ord_ok (by (conv => whnf); (repeat' ((first | refine call_eq rfl hr ?_ | refine ify ?_ | refine ifn ?_ | refine i6 ?_ | refine ati ?_ | refine mst ?_ | refine rmd ?_ | refine ibo (fun _ => ?_) (fun _ => ?_)) <;> conv => whnf)); (all_goals (repeat' (first | exact trivial | exact rfl | refine And.intro ?_ ?_)))) ?_ | refine call_eq rfl hr ?_ | refine ify ?_ | refine ifn ?_ | refine i6 ?_ | refine ati ?_ | refine mst ?_ | refine rmd ?_ | refine ibo (fun _ => ?_) (fun _ => ?_)) <;> conv => whnf))
  exact rfl
theorem mright_empty : Pure C1 53 [dPt ⟨[], []⟩] (fun y => y = dF 2 0 patternS) := by
  have hr := pright_pure ⟨[], []⟩ (by decide) (by decide)
  rw [rightP_none (show pErr ⟨[], []⟩ = none by decide)] at hr
  have hf := fnew_pure 2 0 patternS
  refine pure_of c1_ok (pl := pl_mri) (G := G_mri) Tryz.func53 rfl Tryz.ntmps53 run_mri cok_mri (by simp) ?_
  (conv => whnf)
  (repeat' ((first | refine ord_ok (by (conv => whnf); (repeat' ((first | refine call_eq rfl hr ?_ | refine call_eq rfl hf ?_ | refine ify ?_ | refine ifn ?_ | refine i6 ?_ | refine ati ?_ | refine mst ?_ | refine rmd ?_ | refine ibo (fun _ => ?_) (fun _ => ?_)) <;> conv => whnf)); (all_goals (repeat' (first | exact trivial | exact rfl | refine And.intro ?_ ?_)))) ?_ | refine call_eq rfl hr ?_ | refine call_eq rfl hf ?_ | refine ify ?_ | refine ifn ?_ | refine i6 ?_ | refine ati ?_ | refine mst ?_ | refine rmd ?_ | refine ibo (fun _ => ?_) (fun _ => ?_)) <;> conv => whnf))
  exact rfl
theorem sadd_nil (s : List Int) (hs : s.Pairwise (· < ·)) (hl : s.length ≤ 1000000000) (n : Int) : Pure C1 54 [dN s, .int .i64 n] (fun y => y = dIs (addS s n)) :=
  Sx.Pure.lax (.cons (laxN s) (.cons (.refl _) .nil)) (sadd_pure s hs hl n)
def pl_mal : List (Nat × Plan) := []
def G_mal : List FuncId := [53, 28, 54]
theorem cok_mal : codeOk Tryz.prog G_mal pl_mal (Tryz.f15.body.getD .skip) = true := by kernel_rfl
theorem run_mal (vs : Array Value) (w : World) : (callFunc 15 vs).run C1.P w = .ok (.enter 15 vs) w := by kernel_rfl
set_option maxHeartbeats 4000000 in
theorem all_pure (G : Gr) (hG : G.Ok) {p : Pt} (hp : pErr p = none) (h0 : p.labels ≠ []) (hG10 : G.labels.length ≤ 10) (h8 : p.labels.length ≤ 8) (hme : p.edges.length ≤ 1000) : Pure C1 15 [dG G, dPt p] (fun y => y = .tuple [.list 1 ((colsS p.labels.length (imgP G p false)).map dN), .nili]) := by
  have hdl : (p.labels.map dI).length = p.labels.length := List.length_map _
  have hr := mright_pure hp h0 (by omega) hme
  have him := qimages_pure G hG p false hG10 (by omega) (by omega)
  have ei : imagesY G p false = dLL (imgP G p false) := by unfold imagesY; rw [if_pos ⟨hp, h0⟩]; rfl
  rw [ei] at him
  have hXl : (imgP G p false).length ≤ 100000000 := Nat.le_trans (imgs_len _ _) (pow_le8 hG10 h8)
  have hXn : ∀ L ∈ imgP G p false, L.length = p.labels.length := fun L hL => (mem_imgP.1 hL).len
  generalize imgP G p false = X at him hXl hXn ⊢
  have hdX : (X.map dIs).length = X.length := List.length_map _
  have hst : List.replicate p.labels.length Da.nils = (colsS p.labels.length (X.take 0)).map dN := by
    refine List.ext_getElem? fun v => ?_
    rw [List.getElem?_map]
    by_cases hv : v < p.labels.length
    · rw [colsS_at hv, List.take_zero, colS_nil, List.getElem?_replicate, if_pos hv]; rfl
    · rw [List.getElem?_eq_none (by rw [List.length_replicate]; omega), List.getElem?_eq_none (by rw [colsS_len]; omega)]; rfl
  refine pure_of c1_ok (pl := pl_mal) (G := G_mal) Tryz.func15 rfl Tryz.ntmps15 run_mal cok_mal (by simp) ?_
  (conv => whnf)
  (repeat' ((first | refine ord_ok (by (conv => whnf); (repeat' ((first | refine call_eq rfl hr ?_ | refine call_eq rfl him ?_ | refine mk_ok p.labels.length (by omega) (by omega) (by omega) ?_ | refine ify ?_ | refine ifn ?_ | refine i6 ?_ | refine ati ?_ | refine mst ?_ | refine rmd ?_ | refine ibo (fun _ => ?_) (fun _ => ?_)) <;> conv => whnf)); (all_goals (repeat' (first | exact trivial | exact rfl | refine And.intro ?_ ?_)))) ?_ | refine call_eq rfl hr ?_ | refine call_eq rfl him ?_ | refine mk_ok p.labels.length (by omega) (by omega) (by omega) ?_ | refine ify ?_ | refine ifn ?_ | refine i6 ?_ | refine ati ?_ | refine mst ?_ | refine rmd ?_ | refine ibo (fun _ => ?_) (fun _ => ?_)) <;> conv => whnf))
  refine loop_lo (ι := Nat) (fun k => k ≤ X.length) (fun k => [(25, .d (.int .i64 k)), (24, .d (.int .i64 X.length)), (23, .d (dLL X)), (7, .own 20)]) (fun k => [(20, .slice 22 1 ((colsS p.labels.length (X.take k)).map dN))]) (fun k => X.length - k) 0 (fun _ => rfl) (Nat.zero_le _) (.refl _ _) ⟨rfl, by rw [← hdX]; rfl, rfl, rfl, trivial⟩ ⟨slice_is hst, trivial⟩ ?_
  intro k hk
  refine sxCode_sound c1_ok (G := G_mal) (pl := pl_mal) _ _ _ _ (by kernel_rfl) ?_
  by_cases hkl : k < X.length
  · have hx := List.getElem?_eq_getElem hkl
    have hxm := List.getElem_mem hkl
    generalize X[k] = L at hx hxm
    have hLn := hXn L hxm
    have hdL : (L.map dI).length = L.length := List.length_map _
    have hxd : (X.map dIs)[k]? = some (dIs L) := by rw [List.getElem?_map, hx]; rfl
    have htk : X.take (k + 1) = X.take k ++ [L] := by rw [List.take_add_one, hx]; rfl
    have hcl : ∀ j, (colS (X.take k) j).length ≤ 100000000 := fun j => by
      have := colS_len (X.take k) j
      rw [List.length_take] at this; omega
    have hcr : ∀ j, (colS (X.take k) j).Pairwise (· < ·) := fun j => colS_rise _ _
    (conv => whnf)
    (repeat' ((first | refine ord_ok (by (conv => whnf); (repeat' ((first | refine at_da hxd rfl ?_ | refine ify ?_ | refine ifn ?_ | refine i6 ?_ | refine ati ?_ | refine mst ?_ | refine rmd ?_ | refine ibo (fun _ => ?_) (fun _ => ?_)) <;> conv => whnf)); (all_goals (repeat' (first | exact trivial | exact rfl | refine And.intro ?_ ?_)))) ?_ | refine at_da hxd rfl ?_ | refine ify ?_ | refine ifn ?_ | refine i6 ?_ | refine ati ?_ | refine mst ?_ | refine rmd ?_ | refine ibo (fun _ => ?_) (fun _ => ?_)) <;> conv => whnf))
    refine loop_lo (ι := Nat) (fun j => j ≤ L.length) (fun j => [(31, .d (.int .i64 j)), (30, .d (.int .i64 L.length)), (29, .d (dIs L)), (25, .d (.int .i64 k)), (24, .d (.int .i64 X.length)), (23, .d (dLL X)), (7, .own 20)]) (fun j => [(20, .slice 22 1 ((midS p.labels.length (X.take k) L (fun v => decide (v < j))).map dN))]) (fun j => L.length - j) 0 (fun _ => rfl) (Nat.zero_le _) (.refl _ _) ⟨rfl, by rw [← hdL]; rfl, rfl, rfl, rfl, rfl, rfl, trivial⟩ ⟨slice_is (by rw [midS_start _ _ _ (fun v _ => decide_eq_false (Nat.not_lt_zero v))]), trivial⟩ ?_
    intro j hj
    refine sxCode_sound c1_ok (G := G_mal) (pl := pl_mal) _ _ _ _ (by kernel_rfl) ?_
    by_cases hjl : j < L.length
    · have hy := List.getElem?_eq_getElem hjl
      generalize L[j] = v at hy
      have hyd : (L.map dI)[j]? = some (.int .i64 v) := by rw [List.getElem?_map, hy]; rfl
      have had := sadd_nil (colS (X.take k) j) (hcr j) (by have := hcl j; omega) v
      have hstep := congrArg (List.map dN) (midS_step (k := p.labels.length) (Y := X.take k) (done := fun v => decide (v < j)) (done' := fun v => decide (v < j + 1)) hy (fun u _ => by
        rw [Bool.eq_iff_iff, Bool.or_eq_true, decide_eq_true_eq, decide_eq_true_eq, decide_eq_true_eq]; omega))
      rw [List.map_set, dN_ne (addS_ne _ _)] at hstep
      have hod : ((midS p.labels.length (X.take k) L (fun v => decide (v < j))).map dN)[j]? = some (dN (colS (X.take k) j)) := by
        rw [List.getElem?_map, midS_at (by omega), if_neg (by simp)]; rfl
      have hol : ((midS p.labels.length (X.take k) L (fun v => decide (v < j))).map dN).length = p.labels.length := by rw [List.length_map, midS_len]
      generalize (midS p.labels.length (X.take k) L (fun v => decide (v < j))).map dN = O at hstep hod hol ⊢
      generalize hX : dN (colS (X.take k) j) = xd at hod had
      have hxx := dN_or (colS (X.take k) j)
      rw [hX] at hxx
      rcases hxx with rfl | rfl <;> (conv => whnf) <;> (repeat' ((first | refine ord_ok (by (conv => whnf); (repeat' ((first | refine at_da hyd rfl ?_ | refine el_at (i := j) rfl (by omega) ?_ | refine el_is hod ?_ | refine call_eq rfl had ?_ | refine ify ?_ | refine ifn ?_ | refine i6 ?_ | refine ati ?_ | refine mst ?_ | refine rmd ?_ | refine ibo (fun _ => ?_) (fun _ => ?_)) <;> conv => whnf)); (all_goals (repeat' (first | exact trivial | exact rfl | refine And.intro ?_ ?_)))) ?_ | refine at_da hyd rfl ?_ | refine el_at (i := j) rfl (by omega) ?_ | refine el_is hod ?_ | refine call_eq rfl had ?_ | refine ify ?_ | refine ifn ?_ | refine i6 ?_ | refine ati ?_ | refine mst ?_ | refine rmd ?_ | refine ibo (fun _ => ?_) (fun _ => ?_)) <;> conv => whnf))
      all_goals exact ⟨j + 1, _, _, hjl, .refl _ _, ⟨rfl, rfl, rfl, rfl, rfl, rfl, rfl, trivial⟩, ⟨slice_is hstep, trivial⟩, by omega⟩
    · rw [midS_end _ _ _ (fun v hv => decide_eq_true (by omega)), ← htk]
      ((conv => whnf); repeat' ((first | refine odw ?_ | refine ify ?_ | refine ifn ?_ | refine i6 ?_ | refine ati ?_ | refine mst ?_ | refine rmd ?_ | refine ibo (fun _ => ?_) (fun _ => ?_)) <;> conv => whnf))
      exact ⟨k + 1, _, _, hkl, .refl _ _, ⟨rfl, rfl, rfl, rfl, trivial⟩, ⟨rfl, trivial⟩, by omega⟩
  · rw [List.take_of_length_le (by omega)]
    ((conv => whnf); repeat' ((first | refine odw ?_ | refine ify ?_ | refine ifn ?_ | refine i6 ?_ | refine ati ?_ | refine mst ?_ | refine rmd ?_ | refine ibo (fun _ => ?_) (fun _ => ?_)) <;> conv => whnf))
    exact rfl
/-- a pattern's support -/
def supP (G : Gr) (p : Pt) : Nat := leastL (colsS p.labels.length (imgP G p false))
def pl_msu : List (Nat × Plan) := []
def G_msu : List FuncId := [15, 52]
theorem cok_msu : codeOk Tryz.prog G_msu pl_msu (Tryz.f14.body.getD .skip) = true := by kernel_rfl
theorem run_msu (vs : Array Value) (w : World) : (callFunc 14 vs).run C1.P w = .ok (.enter 14 vs) w := by kernel_rfl
theorem support_pure (G : Gr) (hG : G.Ok) {p : Pt} (hp : pErr p = none) (h0 : p.labels ≠ []) (hG10 : G.labels.length ≤ 10) (h8 : p.labels.length ≤ 8) (hme : p.edges.length ≤ 1000) : Pure C1 14 [dG G, dPt p] (fun y => y = .tuple [.int .i64 (supP G p : Nat), .nili]) := by
  have ha := all_pure G hG hp h0 hG10 h8 hme
  have hXl : (imgP G p false).length ≤ 100000000 := Nat.le_trans (imgs_len _ _) (pow_le8 hG10 h8)
  have hpos : 0 < p.labels.length := List.length_pos_iff.2 h0
  have hl := least_pure (colsS p.labels.length (imgP G p false)) (fun e => by have := colsS_len p.labels.length (imgP G p false); rw [e] at this; simp at this; omega) (by rw [colsS_len]; omega) (fun s hs => by
    obtain ⟨i, _, rfl⟩ := mem_colsS.1 hs
    have := colS_len (imgP G p false) i
    omega)
  refine pure_of c1_ok (pl := pl_msu) (G := G_msu) Tryz.func14 rfl Tryz.ntmps14 run_msu cok_msu (by simp) ?_
  (conv => whnf)
  (repeat' ((first | refine ord_ok (by (conv => whnf); (repeat' ((first | refine call_eq rfl ha ?_ | refine call_eq rfl hl ?_ | refine ify ?_ | refine ifn ?_ | refine i6 ?_ | refine ati ?_ | refine mst ?_ | refine rmd ?_ | refine ibo (fun _ => ?_) (fun _ => ?_)) <;> conv => whnf)); (all_goals (repeat' (first | exact trivial | exact rfl | refine And.intro ?_ ?_)))) ?_ | refine call_eq rfl ha ?_ | refine call_eq rfl hl ?_ | refine ify ?_ | refine ifn ?_ | refine i6 ?_ | refine ati ?_ | refine mst ?_ | refine rmd ?_ | refine ibo (fun _ => ?_) (fun _ => ?_)) <;> conv => whnf))
  exact rfl
end Go.Proofs.YteigfapjiekdnaaGreatDoor
end
