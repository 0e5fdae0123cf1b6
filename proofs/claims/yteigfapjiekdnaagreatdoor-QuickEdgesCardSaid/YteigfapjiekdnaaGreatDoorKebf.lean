/- Merged: Mps Mpo Own Cpe Alk Cag Lca Atm Lsc Srp Pid Lct Mna Qfp. -/
import Derived.Test.YteigfapjiekdnaaGreatDoorKebe
import Derived.Test.YteigfapjiekdnaaGreatDoorKeav
import Derived.Test.YteigfapjiekdnaaGreatDoorKeba
import Derived.Test.YteigfapjiekdnaaGreatDoorSxu
import Derived.Test.YteigfapjiekdnaaGreatDoorKeaj
import Derived.Test.YteigfapjiekdnaaGreatDoorKeam
import Derived.Shelf.SlicesG.CompactI
import Derived.Shelf.SlicesG.Delete
import Derived.Test.YteigfapjiekdnaaGreatDoorRows
import Derived.Test.YteigfapjiekdnaaGreatDoorKean
import Derived.Test.YteigfapjiekdnaaGreatDoorKear
import Derived.Test.YteigfapjiekdnaaGreatDoorKeaq
import Derived.Test.YteigfapjiekdnaaGreatDoorKebc
section
/- canon.Alike, Key, Is. -/
namespace Go.Proofs.YteigfapjiekdnaaGreatDoor
open Go.Sx Go.RowKit Go.Reg Go.Gr

set_option maxRecDepth 100000
theorem pt_of {p : Pt} (hp : pErr p = none) : PtOk p.labels.length p := ⟨rfl, (pErr_none hp).2.1, (pErr_none hp).2.2⟩
theorem form_len {p : Pt} (hp : pErr p = none) : (formP p).labels.length = p.labels.length ∧ (formP p).edges.length = p.edges.length := by
  obtain ⟨_, h1, h2, _⟩ := form_spec (pt_of hp)
  rw [h2]
  exact ⟨turnP_len _ _, turnP_edge_len h1 (pt_of hp)⟩
def pl_cak : List (Nat × Plan) := []
def G_cak : List FuncId := [20, 62]
theorem cok_cak : codeOk Tryz.prog G_cak pl_cak (Tryz.f42.body.getD .skip) = true := by kernel_rfl
theorem run_cak (vs : Array Value) (w : World) : (callFunc 42 vs).run C1.P w = .ok (.enter 42 vs) w := by kernel_rfl
theorem alike_pure {p q : Pt} (hp : pErr p = none) (hq : pErr q = none) (hE : p.edges.length ≤ 1000) (hE' : q.edges.length ≤ 1000) : Pure C1 42 [dPt p, dPt q] (fun y => y = .bool (decide (formP p = formP q))) := by
  have h1 := form_pure p hp hE
  have h2 := form_pure q hq hE'
  have l1 := (lErr_none (pErr_none hp).1).1
  have l2 := (lErr_none (pErr_none hq).1).1
  obtain ⟨f1, f2⟩ := form_len hp
  obtain ⟨f3, f4⟩ := form_len hq
  have hc := ptcompare_pure (formP p) (formP q) (by omega) (by omega) (by omega) (by omega)
  refine pure_of c1_ok (pl := pl_cak) (G := G_cak) Tryz.func42 rfl Tryz.ntmps42 run_cak cok_cak (by simp) ?_
  by_cases h : formP p = formP q
  · rw [show cmpP (formP p) (formP q) = 0 from (torP.eq0 _ _).2 h] at hc
    rw [decide_eq_true h]
    (conv => whnf)
    (repeat' ((first | refine ord_ok (by (conv => whnf); (repeat' ((first | refine call_eq rfl h1 ?_ | refine call_eq rfl h2 ?_ | refine call_eq rfl hc ?_ | refine ify ?_ | refine ifn ?_ | refine i6 ?_ | refine ati ?_ | refine mst ?_ | refine rmd ?_ | refine ibo (fun _ => ?_) (fun _ => ?_)) <;> conv => whnf)); (all_goals (repeat' (first | exact trivial | exact rfl | refine And.intro ?_ ?_)))) ?_ | refine call_eq rfl h1 ?_ | refine call_eq rfl h2 ?_ | refine call_eq rfl hc ?_ | refine ify ?_ | refine ifn ?_ | refine i6 ?_ | refine ati ?_ | refine mst ?_ | refine rmd ?_ | refine ibo (fun _ => ?_) (fun _ => ?_)) <;> conv => whnf))
    exact rfl
  · have h0 : cmpP (formP p) (formP q) ≠ 0 := fun e => h ((torP.eq0 _ _).1 e)
    generalize cmpP (formP p) (formP q) = z at hc h0
    rw [decide_eq_false h]
    (conv => whnf)
    (repeat' ((first | refine ord_ok (by (conv => whnf); (repeat' ((first | refine call_eq rfl h1 ?_ | refine call_eq rfl h2 ?_ | refine call_eq rfl hc ?_ | refine ify ?_ | refine ifn ?_ | refine i6 ?_ | refine ati ?_ | refine mst ?_ | refine rmd ?_ | refine ibo (fun _ => ?_) (fun _ => ?_)) <;> conv => whnf)); (all_goals (repeat' (first | exact trivial | exact rfl | refine And.intro ?_ ?_)))) ?_ | refine call_eq rfl h1 ?_ | refine call_eq rfl h2 ?_ | refine call_eq rfl hc ?_ | refine ify ?_ | refine ifn ?_ | refine i6 ?_ | refine ati ?_ | refine mst ?_ | refine rmd ?_ | refine ibo (fun _ => ?_) (fun _ => ?_)) <;> conv => whnf))
    exact congrArg Da.bool (decide_eq_false h0)
end Go.Proofs.YteigfapjiekdnaaGreatDoor
end

section
/- law09: alive, small. -/
namespace Go.Proofs.YteigfapjiekdnaaGreatDoor
open Go.Sx Go.RowKit Go.Reg Go.Gr

set_option maxRecDepth 100000
/-- few pairs are there -/
theorem edges_le {n : Nat} {p : Pt} (hp : PtOk n p) (h8 : n ≤ 8) : p.edges.length ≤ 64 := by
  have hd : DecidableEq Edg := fun x y => decidable_of_iff (cmpE x y = 0) (cmpE_eq x y)
  have h := nodup_len hp.strict.nodup (m := (List.range 8).flatMap fun a : Nat => (List.range 8).map fun b : Nat => (⟨(a : Int), (b : Int)⟩ : Edg)) (fun e he => by
    obtain ⟨i, j, hij, hj, rfl⟩ := edge_nat (hp.edge e he)
    exact List.mem_flatMap.2 ⟨i, List.mem_range.2 (by omega), List.mem_map.2 ⟨j, List.mem_range.2 (by omega), rfl⟩⟩)
  refine Nat.le_trans h ?_
  rw [flatMap_len (k := 8) (fun x _ => by simp)]
  simp
theorem pt_edges {p : Pt} (hp : pErr p = none) : p.edges.length ≤ 64 := edges_le (pt_of hp) (lErr_none (pErr_none hp).1).1
end Go.Proofs.YteigfapjiekdnaaGreatDoor
end

section
/- slices.Compact, slices.Delete at an owned slice of ints, told for the engine. · sets: Of. -/

namespace Go.Gr
open Go.Lib in
theorem compact_inv (d : Array Int) (hd : ∀ i j, i ≤ j → j < d.size → d[i]! ≤ d[j]!) : ∀ m, m ≤ d.size → (compactUpTo d m).Pairwise (· < ·) ∧ ∀ x, x ∈ compactUpTo d m ↔ ∃ j, j < m ∧ x = d[j]! := by
  intro m
  induction m with
  | zero => intro _; simp [compactUpTo]
  | succ m ih =>
    intro hm
    obtain ⟨h1, h2⟩ := ih (by omega)
    rw [compactUpTo_succ]
    cases hk : keeps d m with
    | true =>
      rw [if_pos rfl]
      refine ⟨List.pairwise_append.2 ⟨h1, by simp, fun a ha b hb => ?_⟩, fun x => ?_⟩
      · simp only [List.mem_singleton] at hb
        subst hb
        obtain ⟨j, hj, rfl⟩ := (h2 a).1 ha
        simp only [keeps, decide_eq_true_eq] at hk
        have g1 := hd j (m - 1) (by omega) (by omega)
        have g2 := hd (m - 1) m (by omega) (by omega)
        have : d[m]! ≠ d[m - 1]! := hk.resolve_left (by omega)
        omega
      · rw [List.mem_append, h2, List.mem_singleton]
        constructor
        · rintro (⟨j, hj, rfl⟩ | rfl)
          · exact ⟨j, by omega, rfl⟩
          · exact ⟨m, by omega, rfl⟩
        · rintro ⟨j, hj, rfl⟩
          by_cases e : j = m
          · subst e; exact .inr rfl
          · exact .inl ⟨j, by omega, rfl⟩
    | false =>
      simp only [Bool.false_eq_true, if_false, List.append_nil]
      refine ⟨h1, fun x => ?_⟩
      rw [h2]
      simp only [keeps, decide_eq_false_iff_not, not_or, Classical.not_not] at hk
      constructor
      · rintro ⟨j, hj, rfl⟩; exact ⟨j, by omega, rfl⟩
      · rintro ⟨j, hj, rfl⟩
        by_cases e : j = m
        · subst e; exact ⟨j - 1, by omega, hk.2⟩
        · exact ⟨j, by omega, rfl⟩
/-- a list's numbers, rising, each once -/
def setOf (l : List Int) : List Int := Lib.compact (l.mergeSort fun x y => decide (x ≤ y))
theorem setOf_spec (l : List Int) : (setOf l).Pairwise (· < ·) ∧ ∀ x, x ∈ setOf l ↔ x ∈ l := by
  have hp := List.mergeSort_perm l fun x y => decide (x ≤ y)
  have hs : (l.mergeSort fun x y => decide (x ≤ y)).Pairwise (fun x y => decide (x ≤ y) = true) := List.pairwise_mergeSort (by intro a b c; simp; omega) (by intro a b; simp; omega) l
  generalize hz : (l.mergeSort fun x y => decide (x ≤ y)) = z at hp hs
  have hd : ∀ i j, i ≤ j → j < z.toArray.size → z.toArray[i]! ≤ z.toArray[j]! := by
    intro i j hij hj
    have hj' : j < z.length := by simpa using hj
    rw [getElem!_pos z.toArray j hj, getElem!_pos z.toArray i (by omega)]
    by_cases e : i = j
    · subst e; exact Int.le_refl _
    · have := List.pairwise_iff_getElem.1 hs i j (by omega) hj' (by omega)
      simpa using this
  obtain ⟨h1, h2⟩ := compact_inv z.toArray hd z.length (by simp)
  unfold setOf Lib.compact
  rw [hz]
  refine ⟨h1, fun x => ?_⟩
  rw [h2, ← hp.mem_iff, List.mem_iff_getElem]
  constructor
  · rintro ⟨j, hj, rfl⟩
    refine ⟨j, hj, ?_⟩
    rw [getElem!_pos z.toArray j (by simpa using hj)]; simp
  · rintro ⟨j, hj, rfl⟩
    refine ⟨j, hj, ?_⟩
    rw [getElem!_pos z.toArray j (by simpa using hj)]; simp
end Go.Gr
end

section
/- perm: Id, times, Of. -/
namespace Go.Proofs.YteigfapjiekdnaaGreatDoor
open Go.Sx Go.RowKit Go.Reg Go.Gr

set_option maxRecDepth 100000
/-- what Of keeps: c to go, the list so far, what is left, the rank -/
structure OfI (n : Nat) (s : Nat × Int × List Int × List Int × Nat) : Prop where
  z : s.2.1 = (s.1 : Int) - 1
  len : s.2.2.2.1.length = s.1
  all : (s.2.2.1 ++ s.2.2.2.1).Perm (idL n)
  rank : s.2.2.2.2 < facN s.1
end Go.Proofs.YteigfapjiekdnaaGreatDoor
end

section
/- CanonTurns: the walk. -/
namespace Go.Gr
open Go.Proofs.YteigfapjiekdnaaGreatDoor
theorem pErr_of {n : Nat} {p : Pt} (hp : PtOk n p) (h8 : n ≤ 8) (hl : ∀ x ∈ p.labels, 0 ≤ x ∧ x ≤ 255) : pErr p = none := by
  unfold pErr
  have h1 : lErr p.labels = none := by
    refine lErr_no (by rw [hp.len]; omega) fun k y hk hy => ?_
    have := hl y (List.mem_of_getElem? hy)
    unfold badLabel
    simp; omega
  rw [h1]
  refine findSome_no fun i hi => ?_
  have hx := List.getElem?_eq_getElem hi
  have he := hp.edge _ (List.getElem_mem hi)
  generalize hE : p.edges[i] = e at hx he
  unfold eAt
  rw [hx]
  simp only
  rw [Option.map_eq_none_iff]
  unfold eBad
  rw [if_neg (by rw [hp.len]; simp; omega), if_neg (by omega)]
  by_cases h0 : i = 0
  · rw [if_pos h0]
  · rw [if_neg h0]
    have hj : i - 1 < p.edges.length := by omega
    rw [List.getElem?_eq_getElem hj]
    simp only
    rw [if_pos]
    have := List.pairwise_iff_getElem.1 hp.strict (i - 1) i hj hi (by omega)
    rwa [hE] at this
end Go.Gr
end

section
/- mini, plain: the sets of a pattern's vertices, the least of their sizes. -/
namespace Go.Gr
open Go.Proofs.YteigfapjiekdnaaGreatDoor
/-- vertices of a label -/
def labS (G : Gr) (x : Int) : List Int := ((List.range G.labels.length).filter fun v : Nat => decide (labelV G v = x)).map fun v : Nat => (v : Int)
end Go.Gr
end

section
/- quick, plain: a list is an image of its quick pattern; lists of one set have alike patterns. -/
namespace Go.Gr
open Go.Proofs.YteigfapjiekdnaaGreatDoor
theorem pt_ph {n : Nat} {p q : Pt} (hp : PtOk n p) (hq : PtOk n q) (h1 : ∀ i, i < n → p.labels[i]? = q.labels[i]?) (h2 : ∀ i j, i < j → j < n → phOf p i j = phOf q i j) : p = q := by
  have half : ∀ {p q : Pt}, PtOk n p → (∀ i j, i < j → j < n → phOf p i j = phOf q i j) → ∀ e, e ∈ p.edges → e ∈ q.edges := by
    intro p q hp h2 e he
    obtain ⟨i, j, hij, hj, rfl⟩ := edge_nat (hp.edge e he)
    have h3 : phOf p i j = true := by unfold phOf; rw [turn_lt (by omega)]; exact decide_eq_true he
    rw [h2 i j hij hj] at h3
    unfold phOf at h3
    rw [turn_lt (by omega)] at h3
    exact of_decide_eq_true h3
  exact pt_ext hp hq h1 fun e => ⟨half hp h2 e, half hq (fun i j hij hj => (h2 i j hij hj).symm) e⟩
section
variable {G : Gr} {l : List Int} {n : Nat}
/-- lists of one set: one comes of the other by an order -/
theorem perm_order {s : List Int} (hn : l.Nodup) (hp : s.Perm l) (hl : l.length = n) : ∃ o, IsOrd n o ∧ mvI o l = s := by
  have hs : s.Nodup := hp.nodup_iff.2 hn
  have hsl : s.length = n := hp.length_eq.trans hl
  have key : ∀ i, i < n → ∃ k, k < n ∧ s[k]? = l[i]? := fun i hi => by
    have hm : l[i]'(by omega) ∈ s := hp.mem_iff.2 (List.getElem_mem _)
    obtain ⟨k, hk⟩ := List.mem_iff_getElem?.1 hm
    exact ⟨k, by have := (List.getElem?_eq_some_iff.1 hk).1; omega, by rw [hk, List.getElem?_eq_getElem (by omega)]⟩
  let f : Nat → Nat := fun i => if h : i < n then Classical.choose (key i h) else 0
  have hf : ∀ i, i < n → f i < n ∧ s[f i]? = l[i]? := fun i hi => by
    have := Classical.choose_spec (key i hi)
    show (if h : i < n then Classical.choose (key i h) else 0) < n ∧ s[if h : i < n then Classical.choose (key i h) else 0]? = l[i]?
    rw [dif_pos hi]; exact this
  have ho : IsOrd n ((List.range n).map fun i => (f i : Int)) := ord_of (fun i hi => (hf i hi).1) fun i j hi hj e => by
    have h1 := (hf i hi).2
    have h2 := (hf j hj).2
    rw [e, h2] at h1
    exact nodup_at hn (List.getElem?_eq_getElem (l := l) (i := i) (by omega)) (h1.trans (List.getElem?_eq_getElem (by omega)))
  refine ⟨_, ho, list_ext (m := n) (by rw [mvI_len, hl]) hsl fun k hk => ?_⟩
  obtain ⟨i, hi, e⟩ := pl_surj ho hk
  rw [← e, mvI_at ho hl hi, pl_of hi, (hf i hi).2]
end
end Go.Gr
end
