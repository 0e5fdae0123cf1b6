/- Merged: Grw Pid Lct Lcs Flx Flt. -/
import Derived.Test.YteigfapjiekdnaaGreatDoorKmba
import Derived.Test.YteigfapjiekdnaaGreatDoorKmbe
import Derived.Test.YteigfapjiekdnaaGreatDoorKmav
import Derived.Test.YteigfapjiekdnaaGreatDoorKmar
import Derived.Test.YteigfapjiekdnaaGreatDoorKmaz
import Derived.Test.YteigfapjiekdnaaGreatDoorRows
import Derived.Test.YteigfapjiekdnaaGreatDoorTrc
import Derived.Test.YteigfapjiekdnaaGreatDoorMem
import Derived.WalkSpells
import Derived.WalkLawsBesides
section
/- slices.Grow, Concat at edges; pat.Less. -/
namespace Go.Proofs.YteigfapjiekdnaaGreatDoor
open Go.Sx Go.RowKit Go.Reg Go.Gr

set_option maxRecDepth 100000
theorem upto_e {len i : Nat} {n : Int} {K : Nat → Prop} (hn : n = i) (hi : i ≤ len) (hK : K i) : ∃ m : Nat, n = m ∧ m ≤ len ∧ K m := ⟨i, hn, hi, hK⟩
theorem edgeInfo : (Tryz.prog.info? 40).map (fun i => (i.zero, i.size, i.bytes)) = some (some (.agg #[.int .i64 0, .int .i64 0]), 2, 16) := by kernel_rfl
theorem egrow_mksl (m : Nat) (hm : m ≤ 1000) : MakeSl C1 127 [.nils, .int .i64 m] 40 2 (fun ds => ds = []) := by
  intro O w us hO hg hr
  obtain ⟨v, vs, rfl, h1, h2⟩ := reps_inv hr
  obtain ⟨v2, vs2, rfl, h3, h4⟩ := reps_inv h2
  obtain rfl := reps_inv0 h4
  have e1 : v = .slice none 0 0 := by
    obtain ⟨cs, r, e⟩ := h1
    simp only [RepC] at r
    subst r; exact e
  have e2 : v2 = .int .i64 m := by
    obtain ⟨cs, r, e⟩ := h3
    simp only [RepC] at r
    subst r; exact e
  subst e1 e2
  refine ⟨by kernel_rfl, ?_⟩
  obtain ⟨i0, hi0, ez, es, eb⟩ : ∃ i0, Tryz.prog.info? 40 = some i0 ∧ i0.zero = some (.agg #[.int .i64 0, .int .i64 0]) ∧ i0.size = 2 ∧ i0.bytes = 16 := by
    have := edgeInfo
    cases hq : Tryz.prog.info? 40 with
    | none => rw [hq] at this; cases this
    | some i => rw [hq] at this; simp only [Option.map_some, Option.some.injEq, Prod.mk.injEq] at this; exact ⟨i, rfl, this⟩
  by_cases h0 : m = 0
  · subst h0
    refine (Any8.slices_Grow_room Tryz.growE none 0 0 0 w (by omega) (by omega) (by omega) (by omega)).mono ?_
    rintro e w' ⟨rfl, rfl⟩
    exact ⟨_, [], [], rfl, rfl, World.ownsRow_nil _ 0 _ _, (fun b hb => by cases hb), rfl, (fun x hx => by cases hx), Tch.refl _ _⟩
  · refine (Any8.slices_Grow_grow Tryz.growE i0 (.agg #[.int .i64 0, .int .i64 0]) hi0 ez (by omega) none 0 0 m [] w (by omega) (by omega) (by rw [eb]; omega) (by omega) (by simp) (fun _ => rfl) (fun a ha => by cases ha)).mono ?_
    rintro e w' ⟨rfl, rfl⟩
    have hGn : 0 + m ≤ grownCap w (0 + m) 0 40 := grownCap_ge w _ _ _
    have hGm : grownCap w (0 + m) 0 40 ≤ maxLen := grownCap_le_maxLen w (0 + m) 0 _ (by unfold maxLen; omega)
    have hren : Tryz.growE_ren.t 25 = 40 := rfl
    rw [hren]
    generalize grownCap w (0 + m) 0 40 = G at hGn hGm ⊢
    obtain ⟨ROW, hROW⟩ : ∃ R, R = (([] : List Value).toArray ++ Builtin.zeroCells (Value.agg #[.int .i64 0, .int .i64 0]).cells (0 + m - 0) ++ Builtin.zeroCells (Value.agg #[.int .i64 0, .int .i64 0]).cells (G - (0 + m))) := ⟨_, rfl⟩
    have hs : ROW.size = G * 2 := by
      rw [hROW]
      simp only [Array.size_append, List.size_toArray, List.length_nil, size_zeroCells, Value.cells]
      simp; omega
    rw [← hROW]
    refine ⟨_, [], [], rfl, rfl, ?_, ?_, rfl, (fun x hx => by cases hx), (Tch.drew w []).trans0 (Tch.alloc _ _ _)⟩
    · exact ⟨rfl, .inr ⟨w.heap.size, G, ROW, rfl, Nat.zero_le _, (by show (w.heap.push (Obj.cells ROW 40))[w.heap.size]? = _; simp), Nat.zero_le _, hGm, hs, by simp⟩⟩
    · intro b hb
      simp only [Value.ownBlock, Option.some.injEq] at hb
      omega
theorem flatE_snoc {L : List (List Edg)} {i : Nat} {l : List Edg} (h : L[i]? = some l) : (L.take (i + 1)).flatten = (L.take i).flatten ++ l := by
  rw [List.take_add_one, h, Option.toList_some, List.flatten_append]; simp
theorem flatE_le (L : List (List Edg)) (i : Nat) : (L.take i).flatten.length ≤ L.flatten.length := by
  conv => rhs; rw [← List.take_append_drop i L, List.flatten_append, List.length_append]
  omega
def pl_cct : List (Nat × Plan) := []
def G_cct : List FuncId := []
theorem cok_cct : codeOk Tryz.prog G_cct pl_cct (Tryz.f70.body.getD .skip) = true := by kernel_rfl
theorem run_cct (vs : Array Value) (w : World) : (callFunc 70 vs).run C1.P w = .ok (.enter 70 vs) w := by kernel_rfl
set_option maxHeartbeats 4000000 in
theorem econcat_pure (L : List (List Edg)) (hL : L.length ≤ 1000) (hf : L.flatten.length ≤ 1000) : Pure C1 70 [.list 1 (L.map dEs)] (fun y => y = dEs L.flatten) := by
  have hdL : (L.map dEs).length = L.length := List.length_map _
  have hfl := flatE_le L
  refine pure_of c1_ok (pl := pl_cct) (G := G_cct) Tryz.func70 rfl Tryz.ntmps70 run_cct cok_cct (by simp) ?_
  ((conv => whnf); repeat' ((first | refine odw ?_ | refine ify ?_ | refine ifn ?_ | refine i6 ?_ | refine ati ?_ | refine mst ?_ | refine rmd ?_ | refine ibo (fun _ => ?_) (fun _ => ?_)) <;> conv => whnf))
  refine loop_lo (ι := Nat) (fun i => i ≤ L.length) (fun i => [(11, .d (.int .i64 i)), (10, .d (.int .i64 (L.map dEs).length)), (9, .d (.list 1 (L.map dEs))), (3, .d (.int .i64 ((L.take i).flatten.length : Nat))), (0, .d (.list 1 (L.map dEs)))]) (fun _ => []) (fun i => L.length - i) 0 (fun _ => rfl) (Nat.zero_le _) (.refl _ _) ⟨rfl, rfl, rfl, rfl, rfl, trivial⟩ trivial ?_
  intro i hi
  refine sxCode_sound c1_ok (G := G_cct) (pl := pl_cct) _ _ _ _ (by kernel_rfl) ?_
  by_cases hil : i < L.length
  · have hx := List.getElem?_eq_getElem hil
    generalize L[i] = x at hx
    have hxd : (L.map dEs)[i]? = some (dEs x) := by rw [List.getElem?_map, hx]; rfl
    have hdx : (x.map dE).length = x.length := List.length_map _
    have hst := congrArg List.length (flatE_snoc hx)
    rw [List.length_append] at hst
    have h1 := hfl (i + 1)
    (conv => whnf)
    (repeat' ((first | refine ord_ok (by (conv => whnf); (repeat' ((first | refine at_da hxd rfl ?_ | refine ify ?_ | refine ifn ?_ | refine i6 ?_ | refine ati ?_ | refine mst ?_ | refine rmd ?_ | refine ibo (fun _ => ?_) (fun _ => ?_)) <;> conv => whnf)); (all_goals (repeat' (first | exact trivial | exact rfl | refine And.intro ?_ ?_)))) ?_ | refine at_da hxd rfl ?_ | refine ify ?_ | refine ifn ?_ | refine i6 ?_ | refine ati ?_ | refine mst ?_ | refine rmd ?_ | refine ibo (fun _ => ?_) (fun _ => ?_)) <;> conv => whnf))
    exact ⟨i + 1, _, _, hil, .refl _ _, ⟨rfl, rfl, rfl, int_is (by omega), rfl, trivial⟩, trivial, by omega⟩
  · have e : L.take i = L := List.take_of_length_le (by omega)
    rw [e]
    ((conv => whnf); repeat' ((first | refine odw ?_ | refine ify ?_ | refine ifn ?_ | refine i6 ?_ | refine ati ?_ | refine mst ?_ | refine rmd ?_ | refine ibo (fun _ => ?_) (fun _ => ?_)) <;> conv => whnf))
    refine call_mksl 24 rfl rfl (egrow_mksl _ hf) ?_; rintro ds rfl
    ((conv => whnf); repeat' ((first | refine odw ?_ | refine ify ?_ | refine ifn ?_ | refine i6 ?_ | refine ati ?_ | refine mst ?_ | refine rmd ?_ | refine ibo (fun _ => ?_) (fun _ => ?_)) <;> conv => whnf))
    refine loop_lo (ι := Nat) (fun i => i ≤ L.length) (fun i => [(27, .d (.int .i64 i)), (26, .d (.int .i64 (L.map dEs).length)), (25, .d (.list 1 (L.map dEs))), (6, .own 24)]) (fun i => [(24, .slice 40 2 ((L.take i).flatten.map dE))]) (fun i => L.length - i) 0 (fun _ => rfl) (Nat.zero_le _) (.refl _ _) ⟨rfl, rfl, rfl, rfl, trivial⟩ ⟨rfl, trivial⟩ ?_
    intro i hi
    refine sxCode_sound c1_ok (G := G_cct) (pl := pl_cct) _ _ _ _ (by kernel_rfl) ?_
    by_cases hil : i < L.length
    · have hx := List.getElem?_eq_getElem hil
      generalize L[i] = x at hx
      have hxd : (L.map dEs)[i]? = some (dEs x) := by rw [List.getElem?_map, hx]; rfl
      have hdx : (x.map dE).length = x.length := List.length_map _
      have hst := flatE_snoc hx
      have hsl := congrArg List.length hst
      rw [List.length_append] at hsl
      have h1 := hfl (i + 1)
      generalize (L.take i).flatten = Z at hst hsl ⊢
      have hdz : (Z.map dE).length = Z.length := List.length_map _
      (conv => whnf)
      (repeat' ((first | refine ord_ok (by (conv => whnf); (repeat' ((first | refine at_da hxd rfl ?_ | refine most16 (by omega) ?_ | refine ify ?_ | refine ifn ?_ | refine i6 ?_ | refine ati ?_ | refine mst ?_ | refine rmd ?_ | refine ibo (fun _ => ?_) (fun _ => ?_)) <;> conv => whnf)); (all_goals (repeat' (first | exact trivial | exact rfl | refine And.intro ?_ ?_)))) ?_ | refine at_da hxd rfl ?_ | refine most16 (by omega) ?_ | refine ify ?_ | refine ifn ?_ | refine i6 ?_ | refine ati ?_ | refine mst ?_ | refine rmd ?_ | refine ibo (fun _ => ?_) (fun _ => ?_)) <;> conv => whnf))
      exact ⟨i + 1, _, _, hil, .refl _ _, ⟨rfl, rfl, rfl, rfl, trivial⟩, ⟨slice_is (by rw [hst, List.map_append]), trivial⟩, by omega⟩
    · have e : L.take i = L := List.take_of_length_le (by omega)
      rw [e]
      ((conv => whnf); repeat' ((first | refine odw ?_ | refine ify ?_ | refine ifn ?_ | refine i6 ?_ | refine ati ?_ | refine mst ?_ | refine rmd ?_ | refine ibo (fun _ => ?_) (fun _ => ?_)) <;> conv => whnf))
      exact rfl
theorem eclone_pure (x : Int) (l : List Int) (hl : (x :: l).length ≤ 8) : Pure C1 55 [dIs (x :: l)] (fun y => y = dIs (x :: l)) := by
  have hlm : ((x :: l).map dI).length = (x :: l).length := List.length_map _
  refine pure_of c1_ok (pl := pl_clone) (G := G_clone) Tryz.func55 rfl Tryz.ntmps55 run_clone cok_clone (by simp) ?_
  have hlm2 : (([] : List Da).length + ((x :: l).map dI).length) ≤ 4294967296 := by rw [hlm]; simp at hl ⊢; omega
  ((conv => whnf); repeat' ((first | refine odw ?_ | refine ify ?_ | refine ifn ?_ | refine i6 ?_ | refine ati ?_ | refine mst ?_ | refine rmd ?_ | refine ibo (fun _ => ?_) (fun _ => ?_)) <;> conv => whnf))
  all_goals first | exact rfl | (refine most_ok hlm2 ?_; ((conv => whnf); repeat' ((first | refine odw ?_ | refine ify ?_ | refine ifn ?_ | refine i6 ?_ | refine ati ?_ | refine mst ?_ | refine rmd ?_ | refine ibo (fun _ => ?_) (fun _ => ?_)) <;> conv => whnf)); exact rfl)
def pl_plss : List (Nat × Plan) := [(4, .leaf [0, 1, 1, 2, 2, 0] [0, 1, 2, 3, 4, 5] [0, 1, 0, 4, 15, 31]),
  (7, .split 2 12 (.leaf [0, 1, 2, 0, 1, 0, 0, 0, 1, 0, 0, 0, 6, 2, 0, 3, 0] [0, 3, 5, 7, 9, 10, 1, 4, 6, 8, 11, 2, 12, 13, 14, 15, 16] [0, 1, 3, 0, 8, 0, 56, 0, 128, 0, 512, 1920, 4095, 8191, 16383, 32767, 65535]) (.leaf [0, 1, 2, 0, 1, 0, 0, 0, 1, 0, 0, 0, 6, 2, 0, 3, 0] [0, 3, 5, 7, 9, 10, 1, 4, 6, 8, 11, 12, 2, 13, 14, 15, 16] [0, 1, 8187, 0, 8, 0, 56, 0, 128, 0, 512, 1920, 4088, 8191, 16383, 32767, 65535]))]
def G_plss : List FuncId := [31, 69, 68, 55, 70, 63]
theorem cok_plss : codeOk Tryz.prog G_plss pl_plss (Tryz.f29.body.getD .skip) = true := by kernel_rfl
theorem run_plss (vs : Array Value) (w : World) : (callFunc 29 vs).run C1.P w = .ok (.enter 29 vs) w := by kernel_rfl
set_option maxHeartbeats 8000000 in
theorem ptless_pure {p : Pt} (hp : pErr p = none) {i : Nat} {e : Edg} (he : p.edges[i]? = some e) : Pure C1 29 [dPt p, dE e] (fun y => y = .tuple [dPt (lessP p i), .nili]) := by
  have hE := pt_edges hp
  have h8 := (lErr_none (pErr_none hp).1).1
  have hpo := pt_of hp
  have hr := pright_pure p (by omega) (by omega)
  rw [rightP_none hp] at hr
  have ht := pturned_pure e
  have heo := hpo.edge e (List.mem_of_getElem? he)
  have hte : turn e = e := by
    obtain ⟨u, v⟩ := e
    simp only at heo
    unfold turn; simp only [Edg.mk.injEq]; omega
  rw [hte] at ht
  have hi := (List.getElem?_eq_some_iff.1 he).1
  have hx := eindex_pure p.edges e (by omega)
  rw [eIdx_at (i := i) (fun k x hk hxk h => by
    obtain ⟨h1, e1⟩ := List.getElem?_eq_some_iff.1 hxk
    obtain ⟨h2, e2⟩ := List.getElem?_eq_some_iff.1 he
    have := List.pairwise_iff_getElem.1 hpo.strict k i h1 h2 hk
    rw [e1, e2, h] at this
    exact cmpE_irr _ this) he] at hx
  have hln : 0 < p.labels.length := by have := heo; omega
  have hcl : Pure C1 55 [dIs p.labels] (fun y => y = dIs p.labels) := by
    cases hl : p.labels with
    | nil => rw [hl] at hln; simp at hln
    | cons x l => exact eclone_pure x l (by rw [hl] at h8; exact h8)
  have hde : (p.edges.map dE).length = p.edges.length := List.length_map _
  have hcc : Pure C1 70 [.list 1 [.list 2 ((p.edges.map dE).take i), .list 2 ((p.edges.map dE).drop (i + 1))]] (fun y => y = dEs (p.edges.take i ++ p.edges.drop (i + 1))) := by
    have := econcat_pure [p.edges.take i, p.edges.drop (i + 1)] (by simp) (by simp; omega)
    simp only [List.map_cons, List.map_nil, List.flatten_cons, List.flatten_nil, List.append_nil] at this
    rw [← List.map_take, ← List.map_drop]
    exact this
  unfold lessP
  refine pure_of c1_ok (pl := pl_plss) (G := G_plss) Tryz.func29 rfl Tryz.ntmps29 run_plss cok_plss (by simp) ?_
  (conv => whnf)
  (repeat' ((first | refine ord_ok (by (conv => whnf); (repeat' ((first | refine call_eq rfl hr ?_ | refine call_eq rfl ht ?_ | refine call_eq rfl hx ?_ | refine call_eq rfl hcl ?_ | refine call_eq rfl hcc ?_ | refine call_frz 35 rfl ?_ | refine sl_is (i + 1) (by omega) (by omega) ?_ | refine upto_e rfl (show i ≤ (p.edges.map dE).length by omega) ?_ | refine ify ?_ | refine ifn ?_ | refine i6 ?_ | refine ati ?_ | refine mst ?_ | refine rmd ?_ | refine ibo (fun _ => ?_) (fun _ => ?_)) <;> conv => whnf)); (all_goals (repeat' (first | exact trivial | exact rfl | refine And.intro ?_ ?_)))) ?_ | refine call_eq rfl hr ?_ | refine call_eq rfl ht ?_ | refine call_eq rfl hx ?_ | refine call_eq rfl hcl ?_ | refine call_eq rfl hcc ?_ | refine call_frz 35 rfl ?_ | refine sl_is (i + 1) (by omega) (by omega) ?_ | refine upto_e rfl (show i ≤ (p.edges.map dE).length by omega) ?_ | refine ify ?_ | refine ifn ?_ | refine i6 ?_ | refine ati ?_ | refine mst ?_ | refine rmd ?_ | refine ibo (fun _ => ?_) (fun _ => ?_)) <;> conv => whnf))
  exact rfl
end Go.Proofs.YteigfapjiekdnaaGreatDoor
end

section
/- perm: Id, times, Of. -/
namespace Go.Gr
open Go.Proofs.YteigfapjiekdnaaGreatDoor
theorem facN_pos : ∀ n, 0 < facN n
  | 0 => by decide
  | n + 1 => Nat.mul_pos (by omega) (facN_pos n)
theorem facN_le : ∀ n, n ≤ 8 → facN n ≤ 40320 := by decide
end Go.Gr
namespace Go.Proofs.YteigfapjiekdnaaGreatDoor
open Go.Sx Go.RowKit Go.Reg Go.Gr

set_option maxRecDepth 100000
/-- what Of keeps: c to go, the list so far, what is left, the rank -/
structure OfI (n : Nat) (s : Nat × Int × List Int × List Int × Nat) : Prop where
  z : s.2.1 = (s.1 : Int) - 1
  len : s.2.2.2.1.length = s.1
  all : (s.2.2.1 ++ s.2.2.2.1).Perm (idL n)
  rank : s.2.2.2.2 < facN s.1
end Go.Proofs.YteigfapjiekdnaaGreatDoor
end

section
/- CanonTurns: the walk. -/
namespace Go.Gr
open Go.Proofs.YteigfapjiekdnaaGreatDoor
theorem pErr_of {n : Nat} {p : Pt} (hp : PtOk n p) (h8 : n ≤ 8) (hl : ∀ x ∈ p.labels, 0 ≤ x ∧ x ≤ 255) : pErr p = none := by
  unfold pErr
  have h1 : lErr p.labels = none := by
    refine lErr_no (by rw [hp.len]; omega) fun k y hk hy => ?_
    have := hl y (List.mem_of_getElem? hy)
    unfold badLabel
    simp; omega
  rw [h1]
  refine findSome_no fun i hi => ?_
  have hx := List.getElem?_eq_getElem hi
  have he := hp.edge _ (List.getElem_mem hi)
  generalize hE : p.edges[i] = e at hx he
  unfold eAt
  rw [hx]
  simp only
  rw [Option.map_eq_none_iff]
  unfold eBad
  rw [if_neg (by rw [hp.len]; simp; omega), if_neg (by omega)]
  by_cases h0 : i = 0
  · rw [if_pos h0]
  · rw [if_neg h0]
    have hj : i - 1 < p.edges.length := by omega
    rw [List.getElem?_eq_getElem hj]
    simp only
    rw [if_pos]
    have := List.pairwise_iff_getElem.1 hp.strict (i - 1) i hj hi (by omega)
    rwa [hE] at this
theorem pErr_turn {p : Pt} (hp : pErr p = none) {b : List Int} (hb : IsOrd p.labels.length b) : pErr (turnP p b) = none := by
  have hl := lErr_none (pErr_none hp).1
  exact pErr_of (turnP_ok hb (pt_of hp)) hl.1 fun x hx => hl.2 x ((turnP_labels (pt_of hp) hb).mem_iff.1 hx)
end Go.Gr
end

section
/- CanonParts: the walk. -/
namespace Go.Gr
open Go.Proofs.YteigfapjiekdnaaGreatDoor
theorem pErr_less {p : Pt} (hp : pErr p = none) (h8 : p.labels.length ≤ 8) (i : Nat) : pErr (lessP p i) = none :=
  pErr_of (less_ok (pt_of hp) i) h8 fun x hx => (lErr_none (pErr_none hp).1).2 x hx
end Go.Gr
end

section
/- Closed facts on the calls that errors.As makes: what reflectlite's functions hand back. -/
namespace Go.Proofs.YteigfapjiekdnaaGreatDoor
open Go.RowKit Go.Reg

theorem x_valueOf_pp (t : Nat) (w : World) : (callFunc 169 #[.iface 178 (.pointer (some ⟨t,0,none⟩))]).run Tryz.prog w = .ok (.value (.agg #[.pointer (some ⟨5,178,none⟩), .pointer (some ⟨w.heap.size,0,none⟩), .int .u64 150])) (w.alloc (.cells #[.pointer (some ⟨t,0,none⟩)] 178)) := by kernel_rfl
theorem x_valueOf_p (t o : Nat) (w : World) : (callFunc 169 #[.iface 139 (.pointer (some ⟨t,o,none⟩))]).run Tryz.prog w = .ok (.value (.agg #[.pointer (some ⟨5,139,none⟩), .pointer (some ⟨w.heap.size,0,none⟩), .int .u64 150])) (w.alloc (.cells #[.pointer (some ⟨t,o,none⟩)] 139)) := by kernel_rfl
theorem x_type_pp (b : Nat) (w : World) : (callFunc 170 #[.agg #[.pointer (some ⟨5,178,none⟩), .pointer (some ⟨b,0,none⟩), .int .u64 150]]).run Tryz.prog w = .ok (.value (.iface 234 (.agg #[.pointer (some ⟨5,178,none⟩)]))) w := by kernel_rfl
theorem x_typeOf_p (b o : Nat) (w : World) : (callFunc 192 #[.iface 139 (.pointer (some ⟨b,o,none⟩))]).run Tryz.prog w = .ok (.value (.iface 234 (.agg #[.pointer (some ⟨5,139,none⟩)]))) w := by kernel_rfl
theorem x_kind_pp (w : World) : (callFunc 227 #[.pointer (some ⟨5,178,none⟩)]).run Tryz.prog w = .ok (.value (.int .u8 22)) w := by kernel_rfl
theorem x_kind_p (w : World) : (callFunc 227 #[.pointer (some ⟨5,139,none⟩)]).run Tryz.prog w = .ok (.value (.int .u8 22)) w := by kernel_rfl
theorem x_elem_pp (w : World) : (callFunc 240 #[.agg #[.pointer (some ⟨5,178,none⟩)]]).run Tryz.prog w = .ok (.value (.iface 234 (.agg #[.pointer (some ⟨5,139,none⟩)]))) w := by kernel_rfl
theorem x_impl_p (w : World) : (callFunc 241 #[.agg #[.pointer (some ⟨5,139,none⟩)], .iface 234 (.agg #[.pointer (some ⟨5,33,none⟩)])]).run Tryz.prog w = .ok (.value (.bool true)) w := by kernel_rfl
theorem x_assign_p (w : World) : (callFunc 238 #[.agg #[.pointer (some ⟨5,139,none⟩)], .iface 234 (.agg #[.pointer (some ⟨5,139,none⟩)])]).run Tryz.prog w = .ok (.value (.bool true)) w := by kernel_rfl
theorem x_mKind (b : Nat) (w : World) : (method 389 234 (.agg #[.pointer (some ⟨5,b,none⟩)]) "Kind").run Tryz.prog w = .ok (227, .pointer (some ⟨5,b,none⟩)) w := by kernel_rfl
theorem x_mElem (b : Nat) (w : World) : (method 389 234 (.agg #[.pointer (some ⟨5,b,none⟩)]) "Elem").run Tryz.prog w = .ok (240, .agg #[.pointer (some ⟨5,b,none⟩)]) w := by kernel_rfl
theorem x_mImpl (b : Nat) (w : World) : (method 389 234 (.agg #[.pointer (some ⟨5,b,none⟩)]) "Implements").run Tryz.prog w = .ok (241, .agg #[.pointer (some ⟨5,b,none⟩)]) w := by kernel_rfl
theorem x_mAssign (b : Nat) (w : World) : (method 389 234 (.agg #[.pointer (some ⟨5,b,none⟩)]) "AssignableTo").run Tryz.prog w = .ok (238, .agg #[.pointer (some ⟨5,b,none⟩)]) w := by kernel_rfl

theorem x_isNil (b t : Nat) (w : World) (h : w.cell? ⟨b,0,none⟩ = some (.pointer (some ⟨t,0,none⟩))) : (callFunc 171 #[.agg #[.pointer (some ⟨5,178,none⟩), .pointer (some ⟨b,0,none⟩), .int .u64 150]]).run Tryz.prog w = .ok (.value (.bool false)) w :=
  run_of_trace _ [.pointer (some ⟨t,0,none⟩)] [] (es := [ld ⟨b,0,none⟩ (.pointer (some ⟨t,0,none⟩))]) (by kernel_rfl) ⟨h, rfl⟩
theorem x_elemOf (b t : Nat) (w : World) (h : w.cell? ⟨b,0,none⟩ = some (.pointer (some ⟨t,0,none⟩))) : (callFunc 193 #[.agg #[.pointer (some ⟨5,178,none⟩), .pointer (some ⟨b,0,none⟩), .int .u64 150]]).run Tryz.prog w = .ok (.value (.agg #[.pointer (some ⟨5,139,none⟩), .pointer (some ⟨t,0,none⟩), .int .u64 406])) w :=
  run_of_trace _ [.pointer (some ⟨t,0,none⟩)] [] (es := [ld ⟨b,0,none⟩ (.pointer (some ⟨t,0,none⟩))]) (by kernel_rfl) ⟨h, rfl⟩
theorem x_set (t b : Nat) (v : Value) (f o : Nat) (w : World) (h : w.cell? ⟨b,0,none⟩ = some (.pointer (some ⟨f,o,none⟩))) (ht : w.cell? ⟨t,0,none⟩ = some v) (hz : w.frozen? ⟨t,0,none⟩ = false) : (callFunc 194 #[.agg #[.pointer (some ⟨5,139,none⟩), .pointer (some ⟨t,0,none⟩), .int .u64 406], .agg #[.pointer (some ⟨5,139,none⟩), .pointer (some ⟨b,0,none⟩), .int .u64 150]]).run Tryz.prog w = .ok (.value (.tuple #[])) (w.setCell ⟨t,0,none⟩ (.pointer (some ⟨f,o,none⟩))) :=
  run_of_trace _ [.pointer (some ⟨f,o,none⟩)] [] (es := [ld ⟨b,0,none⟩ (.pointer (some ⟨f,o,none⟩)), st ⟨t,0,none⟩ (.pointer (some ⟨f,o,none⟩))]) (by kernel_rfl) ⟨h, rfl, ⟨_, ht⟩, hz, rfl⟩

end Go.Proofs.YteigfapjiekdnaaGreatDoor
end

section
/- errors.As on the program's faults; fault.New, fault.Code. -/
namespace Go.Proofs.YteigfapjiekdnaaGreatDoor
open Go.RowKit Go.Reg

/-- what errors.errorType holds -/
def ErrT (w : World) : Prop := w.cell? ⟨0, 0, none⟩ = some (.iface 234 (.agg #[.pointer (some ⟨5,33,none⟩)]))

set_option maxRecDepth 100000 in
set_option maxHeartbeats 1000000 in
theorem as2_any (f o t b : Nat) (v : Value) (w : World) (hb : w.cell? ⟨b, 0, none⟩ = some (.pointer (some ⟨t, 0, none⟩))) (hf : w.cell? ⟨t, 0, none⟩ = some v) (hz : w.frozen? ⟨t, 0, none⟩ = false) (ht : t < w.heap.size) (hbs : b < w.heap.size) :
    Calls Tryz.prog 172 #[.iface 139 (.pointer (some ⟨f, o, none⟩)), .iface 178 (.pointer (some ⟨t, 0, none⟩)), .agg #[.pointer (some ⟨5,178,none⟩), .pointer (some ⟨b,0,none⟩), .int .u64 150], .iface 234 (.agg #[.pointer (some ⟨5,139,none⟩)])] w
      fun e w' => e = .returned (.bool true) ∧ w'.cell? ⟨t, 0, none⟩ = some (.pointer (some ⟨f, o, none⟩)) ∧ Tch [t] w w' := by
  have e1 := x_typeOf_p
  have e2 := x_mAssign
  have e3 := x_assign_p
  have e4 := fun w' (h : w'.cell? ⟨b,0,none⟩ = some (.pointer (some ⟨t,0,none⟩))) => x_elemOf b t w' h
  have e5 := x_valueOf_p f o
  have hT : Tch [] w ((w.alloc (.cells #[.pointer (some ⟨5,178,none⟩), .pointer (some ⟨b,0,none⟩), .int .u64 150] 210)).alloc (.cells #[.pointer (some ⟨f,o,none⟩)] 139)) := ((Tch.refl [] w).andAlloc _).andAlloc _
  have hN : ((w.alloc (.cells #[.pointer (some ⟨5,178,none⟩), .pointer (some ⟨b,0,none⟩), .int .u64 150] 210)).alloc (.cells #[.pointer (some ⟨f,o,none⟩)] 139)).cell? ⟨w.heap.size + 1, 0, none⟩ = some (.pointer (some ⟨f,o,none⟩)) := by
    simp
  have hFz : ((w.alloc (.cells #[.pointer (some ⟨5,178,none⟩), .pointer (some ⟨b,0,none⟩), .int .u64 150] 210)).alloc (.cells #[.pointer (some ⟨f,o,none⟩)] 139)).frozen? ⟨t, 0, none⟩ = false := by rw [World.frozen?_of_block (w := w) (hT.blk t ht (by simp))]; exact hz
  have e6 := x_set t (w.heap.size + 1) v f o _ hN (hT.cell hf (by simp)) hFz
  have HC := hid hf
  clear hT hN hFz
  go_enter Tryz.func172, Tryz.ntmps172
  go_wp2_with fail
  refine wp_loop_once ?_
  go_wp2_with fail
  go_ret
  refine ⟨rfl, ?_, ((Tch.setCell w (.inl (by simp)) _).andAlloc _).andAlloc _⟩
  exact (((Tch.refl [] _).andAlloc _).andAlloc _).cell (World.cell?_setCell_same _ _ _ HC.out) (by simp)

set_option maxRecDepth 100000 in
set_option maxHeartbeats 1000000 in
theorem as_any (f o t : Nat) (v : Value) (w : World) (hf : w.cell? ⟨t, 0, none⟩ = some v) (hz : w.frozen? ⟨t, 0, none⟩ = false) (ht : t < w.heap.size) (h0 : ErrT w) :
    Calls Tryz.prog 140 #[.iface 139 (.pointer (some ⟨f, o, none⟩)), .iface 178 (.pointer (some ⟨t, 0, none⟩))] w
      fun e w' => e = .returned (.bool true) ∧ w'.cell? ⟨t, 0, none⟩ = some (.pointer (some ⟨f, o, none⟩)) ∧ Tch [t] w w' := by
  unfold ErrT at h0
  have hs0 : 0 < w.heap.size := by omega
  have e1 := x_valueOf_pp t
  have e2 := x_type_pp
  have e3 := x_mKind
  have e4 := x_kind_pp
  have e5 := x_mElem
  have e6 := x_elem_pp
  have e7 := fun w' (h : w'.cell? ⟨w.heap.size,0,none⟩ = some (.pointer (some ⟨t,0,none⟩))) => x_isNil w.heap.size t w' h
  have e8 := x_kind_p
  have e9 := x_mImpl
  have e10 := x_impl_p
  have hT : Tch [] w ((w.alloc (.cells #[.pointer (some ⟨t,0,none⟩)] 178)).alloc (.cells #[.pointer (some ⟨5,178,none⟩), .pointer (some ⟨w.heap.size,0,none⟩), .int .u64 150] 210)) := ((Tch.refl [] w).andAlloc _).andAlloc _
  have HT := hid hT
  have HF := hid (hT.cell hf (by simp))
  have HB := hid (((Tch.refl [] (w.alloc (.cells #[.pointer (some ⟨t,0,none⟩)] 178))).andAlloc (.cells #[.pointer (some ⟨5,178,none⟩), .pointer (some ⟨w.heap.size,0,none⟩), .int .u64 150] 210)).cell ((Blk.new w 178 [.pointer (some ⟨t,0,none⟩)]).cell (i := 0) rfl) (by simp))
  have HZ := hid (show ((w.alloc (.cells #[.pointer (some ⟨t,0,none⟩)] 178)).alloc (.cells #[.pointer (some ⟨5,178,none⟩), .pointer (some ⟨w.heap.size,0,none⟩), .int .u64 150] 210)).frozen? ⟨t, 0, none⟩ = false by rw [World.frozen?_of_block (w := w) (hT.blk t ht (by simp))]; exact hz)
  clear hT hf hz
  go_enter Tryz.func140, Tryz.ntmps140
  go_wp2_with fail
  refine (as2_any f o t w.heap.size v _ HB.out HF.out HZ.out (by simp; omega) (by simp; omega)).mono ?_
  rintro e w' ⟨rfl, hc, hT⟩
  go_wp2_with fail
  go_ret
  exact ⟨rfl, hc, (HT.out).ahead0 hT⟩

set_option maxRecDepth 100000 in
theorem ffault_any (f o : Nat) (w : World) (h0 : ErrT w) (_hs : 0 < w.heap.size) :
    Calls Tryz.prog 99 #[.iface 139 (.pointer (some ⟨f, o, none⟩))] w fun e w' => e = .returned (.pointer (some ⟨f, o, none⟩)) ∧ Tch [] w w' := by
  have HN := hid (Blk.new w 139 [.pointer none])
  have H0 := hid (show ErrT (w.alloc (.cells #[.pointer none] 139)) from (Tch.alloc w _ []).cell h0 (by simp))
  clear h0
  go_enter Tryz.func99, Tryz.ntmps99
  go_wp2_with fail
  refine (as_any f o w.heap.size (.pointer none) _ (HN.out.cell (i := 0) rfl) (HN.out.frozen 0) (by simp) H0.out).mono ?_
  rintro e w' ⟨rfl, hc, hT⟩
  have HT := hid ((Tch.alloc w (.cells #[.pointer none] 139) []).trans hT (T := []) (fun _ h => h) (fun x hx => .inr (by simp at hx; omega)))
  clear hT
  go_wp2_with fail
  go_ret
  exact ⟨rfl, HT.out⟩

end Go.Proofs.YteigfapjiekdnaaGreatDoor
end
