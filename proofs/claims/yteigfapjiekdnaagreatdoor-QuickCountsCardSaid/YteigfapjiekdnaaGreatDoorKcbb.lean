/- Merged: Grw Atm Lsc Srp. -/
import Derived.Test.YteigfapjiekdnaaGreatDoorKcav
import Derived.Test.YteigfapjiekdnaaGreatDoorKcba
import Derived.Test.YteigfapjiekdnaaGreatDoorKcau
import Derived.Test.YteigfapjiekdnaaGreatDoorKcal
import Derived.Test.YteigfapjiekdnaaGreatDoorSxu
import Derived.Shelf.SlicesG.CompactI
import Derived.Shelf.SlicesG.Delete
import Derived.Test.YteigfapjiekdnaaGreatDoorRows
section
/- slices.Grow, Concat at edges; pat.Less. -/
namespace Go.Proofs.YteigfapjiekdnaaGreatDoor
open Go.Sx Go.RowKit Go.Reg Go.Gr

set_option maxRecDepth 100000
theorem upto_e {len i : Nat} {n : Int} {K : Nat → Prop} (hn : n = i) (hi : i ≤ len) (hK : K i) : ∃ m : Nat, n = m ∧ m ≤ len ∧ K m := ⟨i, hn, hi, hK⟩
theorem edgeInfo : (Tryz.prog.info? 40).map (fun i => (i.zero, i.size, i.bytes)) = some (some (.agg #[.int .i64 0, .int .i64 0]), 2, 16) := by kernel_rfl
theorem egrow_mksl (m : Nat) (hm : m ≤ 1000) : MakeSl C1 127 [.nils, .int .i64 m] 40 2 (fun ds => ds = []) := by
  intro O w us hO hg hr
  obtain ⟨v, vs, rfl, h1, h2⟩ := reps_inv hr
  obtain ⟨v2, vs2, rfl, h3, h4⟩ := reps_inv h2
  obtain rfl := reps_inv0 h4
  have e1 : v = .slice none 0 0 := by
    obtain ⟨cs, r, e⟩ := h1
    simp only [RepC] at r
    subst r; exact e
  have e2 : v2 = .int .i64 m := by
    obtain ⟨cs, r, e⟩ := h3
    simp only [RepC] at r
    subst r; exact e
  subst e1 e2
  refine ⟨by kernel_rfl, ?_⟩
  obtain ⟨i0, hi0, ez, es, eb⟩ : ∃ i0, Tryz.prog.info? 40 = some i0 ∧ i0.zero = some (.agg #[.int .i64 0, .int .i64 0]) ∧ i0.size = 2 ∧ i0.bytes = 16 := by
    have := edgeInfo
    cases hq : Tryz.prog.info? 40 with
    | none => rw [hq] at this; cases this
    | some i => rw [hq] at this; simp only [Option.map_some, Option.some.injEq, Prod.mk.injEq] at this; exact ⟨i, rfl, this⟩
  by_cases h0 : m = 0
  · subst h0
    refine (Any8.slices_Grow_room Tryz.growE none 0 0 0 w (by omega) (by omega) (by omega) (by omega)).mono ?_
    rintro e w' ⟨rfl, rfl⟩
    exact ⟨_, [], [], rfl, rfl, World.ownsRow_nil _ 0 _ _, (fun b hb => by cases hb), rfl, (fun x hx => by cases hx), Tch.refl _ _⟩
  · refine (Any8.slices_Grow_grow Tryz.growE i0 (.agg #[.int .i64 0, .int .i64 0]) hi0 ez (by omega) none 0 0 m [] w (by omega) (by omega) (by rw [eb]; omega) (by omega) (by simp) (fun _ => rfl) (fun a ha => by cases ha)).mono ?_
    rintro e w' ⟨rfl, rfl⟩
    have hGn : 0 + m ≤ grownCap w (0 + m) 0 40 := grownCap_ge w _ _ _
    have hGm : grownCap w (0 + m) 0 40 ≤ maxLen := grownCap_le_maxLen w (0 + m) 0 _ (by unfold maxLen; omega)
    have hren : Tryz.growE_ren.t 25 = 40 := rfl
    rw [hren]
    generalize grownCap w (0 + m) 0 40 = G at hGn hGm ⊢
    obtain ⟨ROW, hROW⟩ : ∃ R, R = (([] : List Value).toArray ++ Builtin.zeroCells (Value.agg #[.int .i64 0, .int .i64 0]).cells (0 + m - 0) ++ Builtin.zeroCells (Value.agg #[.int .i64 0, .int .i64 0]).cells (G - (0 + m))) := ⟨_, rfl⟩
    have hs : ROW.size = G * 2 := by
      rw [hROW]
      simp only [Array.size_append, List.size_toArray, List.length_nil, size_zeroCells, Value.cells]
      simp; omega
    rw [← hROW]
    refine ⟨_, [], [], rfl, rfl, ?_, ?_, rfl, (fun x hx => by cases hx), (Tch.drew w []).trans0 (Tch.alloc _ _ _)⟩
    · exact ⟨rfl, .inr ⟨w.heap.size, G, ROW, rfl, Nat.zero_le _, (by show (w.heap.push (Obj.cells ROW 40))[w.heap.size]? = _; simp), Nat.zero_le _, hGm, hs, by simp⟩⟩
    · intro b hb
      simp only [Value.ownBlock, Option.some.injEq] at hb
      omega
theorem flatE_snoc {L : List (List Edg)} {i : Nat} {l : List Edg} (h : L[i]? = some l) : (L.take (i + 1)).flatten = (L.take i).flatten ++ l := by
  rw [List.take_add_one, h, Option.toList_some, List.flatten_append]; simp
theorem flatE_le (L : List (List Edg)) (i : Nat) : (L.take i).flatten.length ≤ L.flatten.length := by
  conv => rhs; rw [← List.take_append_drop i L, List.flatten_append, List.length_append]
  omega
def pl_cct : List (Nat × Plan) := []
def G_cct : List FuncId := []
theorem cok_cct : codeOk Tryz.prog G_cct pl_cct (Tryz.f70.body.getD .skip) = true := by kernel_rfl
theorem run_cct (vs : Array Value) (w : World) : (callFunc 70 vs).run C1.P w = .ok (.enter 70 vs) w := by kernel_rfl
set_option maxHeartbeats 4000000 in
theorem econcat_pure (L : List (List Edg)) (hL : L.length ≤ 1000) (hf : L.flatten.length ≤ 1000) : Pure C1 70 [.list 1 (L.map dEs)] (fun y => y = dEs L.flatten) := by
  have hdL : (L.map dEs).length = L.length := List.length_map _
  have hfl := flatE_le L
  refine pure_of c1_ok (pl := pl_cct) (G := G_cct) Tryz.func70 rfl Tryz.ntmps70 run_cct cok_cct (by simp) ?_
  ((conv => whnf); repeat' ((first | refine odw ?_ | refine ify ?_ | refine ifn ?_ | refine i6 ?_ | refine ati ?_ | refine mst ?_ | refine rmd ?_ | refine ibo (fun _ => ?_) (fun _ => ?_)) <;> conv => whnf))
  refine loop_lo (ι := Nat) (fun i => i ≤ L.length) (fun i => [(11, .d (.int .i64 i)), (10, .d (.int .i64 (L.map dEs).length)), (9, .d (.list 1 (L.map dEs))), (3, .d (.int .i64 ((L.take i).flatten.length : Nat))), (0, .d (.list 1 (L.map dEs)))]) (fun _ => []) (fun i => L.length - i) 0 (fun _ => rfl) (Nat.zero_le _) (.refl _ _) ⟨rfl, rfl, rfl, rfl, rfl, trivial⟩ trivial ?_
  intro i hi
  refine sxCode_sound c1_ok (G := G_cct) (pl := pl_cct) _ _ _ _ (by kernel_rfl) ?_
  by_cases hil : i < L.length
  · have hx := List.getElem?_eq_getElem hil
    generalize L[i] = x at hx
    have hxd : (L.map dEs)[i]? = some (dEs x) := by rw [List.getElem?_map, hx]; rfl
    have hdx : (x.map dE).length = x.length := List.length_map _
    have hst := congrArg List.length (flatE_snoc hx)
    rw [List.length_append] at hst
    have h1 := hfl (i + 1)
    (conv => whnf)
    (repeat' ((first | refine ord_ok (by (conv => whnf); (repeat' ((first | refine at_da hxd rfl ?_ | refine ify ?_ | refine ifn ?_ | refine i6 ?_ | refine ati ?_ | refine mst ?_ | refine rmd ?_ | refine ibo (fun _ => ?_) (fun _ => ?_)) <;> conv => whnf)); (all_goals (repeat' (first | exact trivial | exact rfl | refine And.intro ?_ ?_)))) ?_ | refine at_da hxd rfl ?_ | refine ify ?_ | refine ifn ?_ | refine i6 ?_ | refine ati ?_ | refine mst ?_ | refine rmd ?_ | refine ibo (fun _ => ?_) (fun _ => ?_)) <;> conv => whnf))
    exact ⟨i + 1, _, _, hil, .refl _ _, ⟨rfl, rfl, rfl, int_is (by omega), rfl, trivial⟩, trivial, by omega⟩
  · have e : L.take i = L := List.take_of_length_le (by omega)
    rw [e]
    ((conv => whnf); repeat' ((first | refine odw ?_ | refine ify ?_ | refine ifn ?_ | refine i6 ?_ | refine ati ?_ | refine mst ?_ | refine rmd ?_ | refine ibo (fun _ => ?_) (fun _ => ?_)) <;> conv => whnf))
    refine call_mksl 24 rfl rfl (egrow_mksl _ hf) ?_; rintro ds rfl
    ((conv => whnf); repeat' ((first | refine odw ?_ | refine ify ?_ | refine ifn ?_ | refine i6 ?_ | refine ati ?_ | refine mst ?_ | refine rmd ?_ | refine ibo (fun _ => ?_) (fun _ => ?_)) <;> conv => whnf))
    refine loop_lo (ι := Nat) (fun i => i ≤ L.length) (fun i => [(27, .d (.int .i64 i)), (26, .d (.int .i64 (L.map dEs).length)), (25, .d (.list 1 (L.map dEs))), (6, .own 24)]) (fun i => [(24, .slice 40 2 ((L.take i).flatten.map dE))]) (fun i => L.length - i) 0 (fun _ => rfl) (Nat.zero_le _) (.refl _ _) ⟨rfl, rfl, rfl, rfl, trivial⟩ ⟨rfl, trivial⟩ ?_
    intro i hi
    refine sxCode_sound c1_ok (G := G_cct) (pl := pl_cct) _ _ _ _ (by kernel_rfl) ?_
    by_cases hil : i < L.length
    · have hx := List.getElem?_eq_getElem hil
      generalize L[i] = x at hx
      have hxd : (L.map dEs)[i]? = some (dEs x) := by rw [List.getElem?_map, hx]; rfl
      have hdx : (x.map dE).length = x.length := List.length_map _
      have hst := flatE_snoc hx
      have hsl := congrArg List.length hst
      rw [List.length_append] at hsl
      have h1 := hfl (i + 1)
      generalize (L.take i).flatten = Z at hst hsl ⊢
      have hdz : (Z.map dE).length = Z.length := List.length_map _
      (conv => whnf)
      (repeat' ((first | refine ord_ok (by (conv => whnf); (repeat' ((first | refine at_da hxd rfl ?_ | refine most16 (by omega) ?_ | refine ify ?_ | refine ifn ?_ | refine i6 ?_ | refine ati ?_ | refine mst ?_ | refine rmd ?_ | refine ibo (fun _ => ?_) (fun _ => ?_)) <;> conv => whnf)); (all_goals (repeat' (first | exact trivial | exact rfl | refine And.intro ?_ ?_)))) ?_ | refine at_da hxd rfl ?_ | refine most16 (by omega) ?_ | refine ify ?_ | refine ifn ?_ | refine i6 ?_ | refine ati ?_ | refine mst ?_ | refine rmd ?_ | refine ibo (fun _ => ?_) (fun _ => ?_)) <;> conv => whnf))
      exact ⟨i + 1, _, _, hil, .refl _ _, ⟨rfl, rfl, rfl, rfl, trivial⟩, ⟨slice_is (by rw [hst, List.map_append]), trivial⟩, by omega⟩
    · have e : L.take i = L := List.take_of_length_le (by omega)
      rw [e]
      ((conv => whnf); repeat' ((first | refine odw ?_ | refine ify ?_ | refine ifn ?_ | refine i6 ?_ | refine ati ?_ | refine mst ?_ | refine rmd ?_ | refine ibo (fun _ => ?_) (fun _ => ?_)) <;> conv => whnf))
      exact rfl
theorem eclone_pure (x : Int) (l : List Int) (hl : (x :: l).length ≤ 8) : Pure C1 55 [dIs (x :: l)] (fun y => y = dIs (x :: l)) := by
  have hlm : ((x :: l).map dI).length = (x :: l).length := List.length_map _
  refine pure_of c1_ok (pl := pl_clone) (G := G_clone) Tryz.func55 rfl Tryz.ntmps55 run_clone cok_clone (by simp) ?_
  have hlm2 : (([] : List Da).length + ((x :: l).map dI).length) ≤ 4294967296 := by rw [hlm]; simp at hl ⊢; omega
  ((conv => whnf); repeat' ((first | refine odw ?_ | refine ify ?_ | refine ifn ?_ | refine i6 ?_ | refine ati ?_ | refine mst ?_ | refine rmd ?_ | refine ibo (fun _ => ?_) (fun _ => ?_)) <;> conv => whnf))
  all_goals first | exact rfl | (refine most_ok hlm2 ?_; ((conv => whnf); repeat' ((first | refine odw ?_ | refine ify ?_ | refine ifn ?_ | refine i6 ?_ | refine ati ?_ | refine mst ?_ | refine rmd ?_ | refine ibo (fun _ => ?_) (fun _ => ?_)) <;> conv => whnf)); exact rfl)
def pl_plss : List (Nat × Plan) := [(4, .leaf [0, 1, 1, 2, 2, 0] [0, 1, 2, 3, 4, 5] [0, 1, 0, 4, 15, 31]),
  (7, .split 2 12 (.leaf [0, 1, 2, 0, 1, 0, 0, 0, 1, 0, 0, 0, 6, 2, 0, 3, 0] [0, 3, 5, 7, 9, 10, 1, 4, 6, 8, 11, 2, 12, 13, 14, 15, 16] [0, 1, 3, 0, 8, 0, 56, 0, 128, 0, 512, 1920, 4095, 8191, 16383, 32767, 65535]) (.leaf [0, 1, 2, 0, 1, 0, 0, 0, 1, 0, 0, 0, 6, 2, 0, 3, 0] [0, 3, 5, 7, 9, 10, 1, 4, 6, 8, 11, 12, 2, 13, 14, 15, 16] [0, 1, 8187, 0, 8, 0, 56, 0, 128, 0, 512, 1920, 4088, 8191, 16383, 32767, 65535]))]
def G_plss : List FuncId := [31, 69, 68, 55, 70, 63]
theorem cok_plss : codeOk Tryz.prog G_plss pl_plss (Tryz.f29.body.getD .skip) = true := by kernel_rfl
theorem run_plss (vs : Array Value) (w : World) : (callFunc 29 vs).run C1.P w = .ok (.enter 29 vs) w := by kernel_rfl
set_option maxHeartbeats 8000000 in
theorem ptless_pure {p : Pt} (hp : pErr p = none) {i : Nat} {e : Edg} (he : p.edges[i]? = some e) : Pure C1 29 [dPt p, dE e] (fun y => y = .tuple [dPt (lessP p i), .nili]) := by
  have hE := pt_edges hp
  have h8 := (lErr_none (pErr_none hp).1).1
  have hpo := pt_of hp
  have hr := pright_pure p (by omega) (by omega)
  rw [rightP_none hp] at hr
  have ht := pturned_pure e
  have heo := hpo.edge e (List.mem_of_getElem? he)
  have hte : turn e = e := by
    obtain ⟨u, v⟩ := e
    simp only at heo
    unfold turn; simp only [Edg.mk.injEq]; omega
  rw [hte] at ht
  have hi := (List.getElem?_eq_some_iff.1 he).1
  have hx := eindex_pure p.edges e (by omega)
  rw [eIdx_at (i := i) (fun k x hk hxk h => by
    obtain ⟨h1, e1⟩ := List.getElem?_eq_some_iff.1 hxk
    obtain ⟨h2, e2⟩ := List.getElem?_eq_some_iff.1 he
    have := List.pairwise_iff_getElem.1 hpo.strict k i h1 h2 hk
    rw [e1, e2, h] at this
    exact cmpE_irr _ this) he] at hx
  have hln : 0 < p.labels.length := by have := heo; omega
  have hcl : Pure C1 55 [dIs p.labels] (fun y => y = dIs p.labels) := by
    cases hl : p.labels with
    | nil => rw [hl] at hln; simp at hln
    | cons x l => exact eclone_pure x l (by rw [hl] at h8; exact h8)
  have hde : (p.edges.map dE).length = p.edges.length := List.length_map _
  have hcc : Pure C1 70 [.list 1 [.list 2 ((p.edges.map dE).take i), .list 2 ((p.edges.map dE).drop (i + 1))]] (fun y => y = dEs (p.edges.take i ++ p.edges.drop (i + 1))) := by
    have := econcat_pure [p.edges.take i, p.edges.drop (i + 1)] (by simp) (by simp; omega)
    simp only [List.map_cons, List.map_nil, List.flatten_cons, List.flatten_nil, List.append_nil] at this
    rw [← List.map_take, ← List.map_drop]
    exact this
  unfold lessP
  refine pure_of c1_ok (pl := pl_plss) (G := G_plss) Tryz.func29 rfl Tryz.ntmps29 run_plss cok_plss (by simp) ?_
  (conv => whnf)
  (repeat' ((first | refine ord_ok (by (conv => whnf); (repeat' ((first | refine call_eq rfl hr ?_ | refine call_eq rfl ht ?_ | refine call_eq rfl hx ?_ | refine call_eq rfl hcl ?_ | refine call_eq rfl hcc ?_ | refine call_frz 35 rfl ?_ | refine sl_is (i + 1) (by omega) (by omega) ?_ | refine upto_e rfl (show i ≤ (p.edges.map dE).length by omega) ?_ | refine ify ?_ | refine ifn ?_ | refine i6 ?_ | refine ati ?_ | refine mst ?_ | refine rmd ?_ | refine ibo (fun _ => ?_) (fun _ => ?_)) <;> conv => whnf)); (all_goals (repeat' (first | exact trivial | exact rfl | refine And.intro ?_ ?_)))) ?_ | refine call_eq rfl hr ?_ | refine call_eq rfl ht ?_ | refine call_eq rfl hx ?_ | refine call_eq rfl hcl ?_ | refine call_eq rfl hcc ?_ | refine call_frz 35 rfl ?_ | refine sl_is (i + 1) (by omega) (by omega) ?_ | refine upto_e rfl (show i ≤ (p.edges.map dE).length by omega) ?_ | refine ify ?_ | refine ifn ?_ | refine i6 ?_ | refine ati ?_ | refine mst ?_ | refine rmd ?_ | refine ibo (fun _ => ?_) (fun _ => ?_)) <;> conv => whnf))
  exact rfl
end Go.Proofs.YteigfapjiekdnaaGreatDoor
end

section
/- slices.Sorted(slices.Values(l)) at ints as an owned slice. -/
namespace Go.Proofs.YteigfapjiekdnaaGreatDoor
open Go.RowKit Go.Shelf Go.Sx Go.Reg Go.Maps Go.Sort Go.Gr

set_option maxRecDepth 100000
theorem css_ints {O : List Nat} {w : World} : ∀ ss : List Int, RepCss O w (ss.map dI) (ss.map fun n => [Value.int .i64 n])
  | [] => by simp [RepCss]
  | x :: ss => ⟨_, _, rfl, by simp [RepC, dI], css_ints ss⟩
theorem css_row (ss : List Int) : ∀ x ∈ ss.map (fun n => [Value.int .i64 n]), RowOk 1 x := by
  intro x hx
  obtain ⟨n, _, rfl⟩ := List.mem_map.1 hx
  exact ⟨rfl, by simp [Value.oneCell']⟩
end Go.Proofs.YteigfapjiekdnaaGreatDoor
end

section
/-
  DERIVED: THE SHELF's CONTRACTS AT THIS DUMP, IN PLAIN WORDS (tools/lay-plain.mjs out of 'YteigfapjiekdnaaGreatDoorLscTmp.lean', which tools/lay-shelf.mjs wrote): THE SAME DECLARATIONS UNDER THE SAME NAMES: 'import', 'namespace', 'open', 'def', 'theorem' AND NOTHING ELSE: no command of the shelf's: FOR A HAND-IN. Each laying: the table of numbers ('.._ren') and one theorem, a field a fact of the dump's own or the kernel's comparison; each contract: ONE APPLICATION.
-/
namespace Go.Proofs
open Go.Shelf
def Tryz.deleteI_ren : Go.Shelf.Ren := ⟨fun | 45 => 78 | n => n, fun | 22 => 22 | 23 => 3 | 3 => 3 | 4 => 4 | 0 => 0 | n => n, fun | n => n⟩
theorem Tryz.deleteI : Go.Proofs.SlLaysN.n45 Tryz.prog Tryz.deleteI_ren := {
  mixed := by kernel_rfl
  f45 := ⟨Tryz.f78.name, by decide, Tryz.func78.trans (congrArg some (by kernel_rfl))⟩
  t0 := Tryz.underlying0
  a0 := Tryz.isAgg0
  z0 := Tryz.sizeOf0
  v0 := Tryz.zeroValue0
  t3 := Tryz.underlying3
  a3 := Tryz.isAgg3
  z3 := Tryz.sizeOf3
  v3 := Tryz.zeroValue3
  t4 := Tryz.underlying4
  a4 := Tryz.isAgg4
  z4 := Tryz.sizeOf4
  v4 := Tryz.zeroValue4
  t22 := Tryz.underlying22
  a22 := Tryz.isAgg22
  z22 := Tryz.sizeOf22
  v22 := Tryz.zeroValue22
  t23 := Tryz.underlying3
  a23 := Tryz.isAgg3
  z23 := Tryz.sizeOf3
  v23 := Tryz.zeroValue3
  i23 := by kernel_rfl }
end Go.Proofs
end

section
/- slices.Compact, slices.Delete at an owned slice of ints, told for the engine. · sets: Of. -/
namespace Go.Reg
open Go Go.RowKit Go.Sort Go.Proofs
section
variable {E : Nat} {w : World} {l : List Int} {g cap : Nat}
theorem flat_one1 (l : List Int) : l.flatMap (fun n => [Value.int .i64 n]) = l.map (Value.int .i64) := by
  induction l with
  | nil => rfl
  | cons x l ih => simp [ih]
theorem Sl.holds1 (h : Sl E 1 (fun n : Int => [Value.int .i64 n]) w (.slice (some ⟨g, 0, none⟩) l.length cap) l) : Go.Sort.Holds (Value.int .i64) w g 0 l.toArray := by
  intro j hj
  have hj' : j < l.length := by simpa using hj
  have hx : l[j]? = some l.toArray[j]! := by rw [getElem!_pos l.toArray j hj]; simp [hj']
  have hc := Sl.cells (enc := fun n : Int => [Value.int .i64 n]) (k := 1) (fun _ => rfl) h rfl hx (j := 0) (u := Value.int .i64 l.toArray[j]!) rfl
  refine ⟨by simpa using hc, ?_⟩
  rcases h.2 with ⟨h1, _⟩ | ⟨g', cap', cur, h1, _, hg, _⟩
  · cases h1
  · cases h1
    simp [World.frozen?, hg]
theorem Sl.put1 (h : Sl E 1 (fun n : Int => [Value.int .i64 n]) w (.slice (some ⟨g, 0, none⟩) l.length cap) l) (d : Array Int) (hd : d.size = l.length) (m : Nat) (hm : m ≤ l.length) (q : Nat) :
    Sl E 1 (fun n : Int => [Value.int .i64 n]) (putRow (Value.int .i64) (Sort.ahead w q) g 0 d) (.slice (some ⟨g, 0, none⟩) m cap) (d.toList.take m) ∧ Tch [g] w (putRow (Value.int .i64) (Sort.ahead w q) g 0 d) := by
  have hlm : (d.toList.take m).length = m := by rw [List.length_take, Array.length_toList]; omega
  constructor
  · unfold Sl
    rw [flat_one1]
    refine ⟨by simp, ?_⟩
    rcases h.2 with ⟨h1, _⟩ | ⟨g', cap', cur, h1, h0, hg, hc, hmx, hs, ht⟩
    · cases h1
    · cases h1
      refine .inr ⟨g, cap, putCells (Value.int .i64) 0 d cur, by rw [hlm], Nat.zero_le _, ?_, by rw [hlm]; omega, hmx, by simp [putCells, hs], ?_⟩
      · simp [putRow, mapBlock, Sort.ahead, Array.getElem?_modify, hg, onCells]
      · rw [hlm]
        apply List.ext_getElem?
        intro t
        rw [List.getElem?_take, List.getElem?_map, List.getElem?_take]
        split
        · rename_i hlt
          have h1 : t < cur.size := by omega
          have h2 : t < d.size := by omega
          have h3 : t < m := by omega
          simp [putCells, h1, h2, h3]
        · rename_i hlt
          have h3 : ¬ t < m := by omega
          simp [h3]
  · refine ⟨rfl, rfl, rfl, ?_, ?_⟩
    · simp [putRow, mapBlock, Sort.ahead]
    · intro j hj hn
      have hne : g ≠ j := fun e => hn (by simp [e])
      simp [putRow, mapBlock, Sort.ahead, Array.getElem?_modify, hne]
end
end Go.Reg
namespace Go.Proofs.YteigfapjiekdnaaGreatDoor
open Go.RowKit Go.Shelf Go.Sx Go.Reg Go.Sort Go.Gr Go.Proofs

set_option maxRecDepth 100000
theorem ints_cs {O : List Nat} {w : World} : ∀ {l : List Int} {css : List (List Value)}, RepCss O w (l.map dI) css → css = l.map (fun n => [Value.int .i64 n])
  | [], css, h => by simpa only [List.map_nil, RepCss] using h
  | e :: l, css, h => by
    simp only [List.map_cons, RepCss, dI, RepC] at h
    obtain ⟨c1, c2, rfl, rfl, h⟩ := h
    rw [ints_cs h]; rfl
theorem ints_sl {E : Nat} {w : World} {v : Value} {l : List Int} : Sl E 1 id w v (l.map fun n => [Value.int .i64 n]) ↔ Sl E 1 (fun n : Int => [Value.int .i64 n]) w v l := by
  unfold Sl
  rw [List.length_map, List.flatMap_map]
  exact Iff.rfl
/-- between the shelf's words and 'EatSl' -/
theorem eat_of {f : FuncId} {l : List Int} {xs : List Da} {r : List Int} {vs : List Value} (hxs : ∀ (O : List Nat) (w : World) (us : List Value), Reps O w xs us → us = vs) (hrl : r.length ≤ l.length)
    (hrun : ∀ (us : Array Value) (w : World), (callFunc f us).run C1.P w = .ok (.enter f us) w)
    (hnil : l = [] → ∀ w : World, Calls C1.P f (.slice none 0 0 :: vs).toArray w fun e w' => e = .returned (.slice none 0 0) ∧ w' = w)
    (hmem : ∀ (g cap : Nat) (w : World), Go.Sort.Holds (Value.int .i64) w g 0 l.toArray → l.length ≤ cap → cap ≤ 9223372036854775807 → Calls C1.P f (.slice (some ⟨g, 0, none⟩) l.length cap :: vs).toArray w fun e w' => e = .returned (.slice (some ⟨g, 0, none⟩) r.length cap) ∧ ∃ q, ∃ rest : List Int, r.length + rest.length = l.length ∧ w' = putRow (Value.int .i64) (Sort.ahead w q) g 0 (r ++ rest).toArray) :
    EatSl C1 f 3 1 (l.map dI) xs (fun ds => ds = r.map dI) := by
  intro O w v css us hs hb hO hr hk hg hus
  obtain rfl := hxs O w us hus
  obtain rfl := ints_cs hr
  refine ⟨hrun _ _, ?_⟩
  have hs1 := ints_sl.1 hs
  rcases hs1.shape with ⟨rfl, rfl⟩ | ⟨g, cap, rfl, hc⟩
  · refine (hnil rfl w).mono ?_
    rintro e w' ⟨rfl, rfl⟩
    have : r = [] := List.eq_nil_of_length_eq_zero (by simpa using hrl)
    subst this
    exact ⟨_, _, [], rfl, rfl, Sl.nil _ _ _ _, fun b hb => (by cases hb), by simp [RepCss], by simp, Tch.refl _ _⟩
  · have hcm : cap ≤ 9223372036854775807 := by
      rcases hs1.2 with ⟨h1, _⟩ | ⟨g', cap', cur, h1, _, _, _, hm, _⟩
      · cases h1
      · cases h1; unfold maxLen at hm; omega
    refine (hmem g cap w hs1.holds1 hc hcm).mono ?_
    rintro e w' ⟨rfl, q, rest, hrl2, rfl⟩
    obtain ⟨h1, h2⟩ := hs1.put1 (r ++ rest).toArray (by simp; omega) r.length hrl q
    have ht : (r ++ rest).toArray.toList.take r.length = r := by simp
    rw [ht] at h1
    exact ⟨_, _, r.map fun n => [Value.int .i64 n], rfl, rfl, ints_sl.2 h1, fun b hb => .inl hb, css_ints r, css_row r, h2⟩
theorem delete_eat (l : List Int) (i : Nat) (hi : i < l.length) : EatSl C1 78 3 1 (l.map dI) [.int .i64 i, .int .i64 ((i : Int) + 1)] (fun ds => ds = (l.eraseIdx i).map dI) := by
  have he : l.eraseIdx i = l.take i ++ l.drop (i + 1) := List.eraseIdx_eq_take_drop_succ l i
  have hel : (l.eraseIdx i).length = l.length - 1 := by rw [List.length_eraseIdx]; split <;> omega
  refine eat_of (vs := [.int .i64 i, .int .i64 ((i : Int) + 1)]) (fun O w us h => ?_) (by omega) (fun us w => enters_of Tryz.func78 (by kernel_rfl) rfl us w)
    (fun h w => by subst h; simp at hi) (fun g cap w hH hc hm => ?_)
  · obtain ⟨v, vs, rfl, h1, h2⟩ := reps_inv h
    obtain ⟨v2, vs2, rfl, h3, h4⟩ := reps_inv h2
    obtain rfl := reps_inv0 h4
    rw [rep_int h1, rep_int h3]
  · have := AnyG.slices_Delete_int Tryz.deleteI g 0 cap i (i + 1) l w hH hc hm (by omega) (by omega)
    refine this.mono ?_
    rintro e w' ⟨h1, q, h2⟩
    refine ⟨?_, q, List.replicate (i + 1 - i) 0, ?_, ?_⟩
    · rw [h1, hel]; congr 2; omega
    · rw [hel, List.length_replicate]; omega
    · rw [h2, he]
end Go.Proofs.YteigfapjiekdnaaGreatDoor
end
