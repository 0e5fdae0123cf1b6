/- fretworklaw12.QuickForms returns true and leaves its input as it was, whatever the input. Provided that the listed variables hold what the text lays in them (the row lists them). The walk: qforms_pure. -/
import Derived.Test.YteigfapjiekdnaaGreatDoorKfbg
import Derived.Test.YteigfapjiekdnaaGreatDoorKfax
import Derived.Test.YteigfapjiekdnaaGreatDoorKfaz
import Derived.Test.YteigfapjiekdnaaGreatDoorKfai
import Derived.Test.YteigfapjiekdnaaGreatDoorKfam
import Derived.Test.YteigfapjiekdnaaGreatDoorSxu
import Derived.Test.YteigfapjiekdnaaGreatDoorKfbf
import Derived.Test.YteigfapjiekdnaaGreatDoorKfbb
import Derived.Test.YteigfapjiekdnaaGreatDoorKfbe
import Derived.Test.YteigfapjiekdnaaGreatDoorKfba
import Derived.Test.YteigfapjiekdnaaGreatDoorArg
import Derived.Test.YteigfapjiekdnaaGreatDoorCards
import Derived.Test.YteigfapjiekdnaaGreatDoorTie
import Derived.WalkKit
import Derived.ProofKit
import Derived.OpenShut
import Derived.ChangeMaps5
import Derived.ChangeSame
import Derived.SizedLaws
import Derived.Deep.DeepHandedRow
import Derived.Lib.LaidTab
import Derived.LaidHandle
import Derived.Carry
import Derived.Stop.LaidErr
section
/- vert: List. · vert: fits, Canonical, May. · vert: Next. · vert: Bare. -/
namespace Go.Proofs.YteigfapjiekdnaaGreatDoor
open Go.Sx Go.RowKit Go.Reg Go.Gr

set_option maxRecDepth 100000
/-- may a vertex come next? -/
def nextP (E : List Edg) (l : List Int) (v : Int) : Bool := decide (l = []) || decide (0 ≤ besV E l v)
/-- the list of what is left behind some that were put -/
def listR (E : List Edg) : Nat → List Int → List Int → Option (List Int)
  | 0, l, _ => some l
  | n + 1, l, left => match left.findIdx? (nextP E l) with
    | some i => listR E n (l ++ [left[i]?.getD 0]) (left.eraseIdx i)
    | none => none
def listY : Option (List Int) → Da
  | some l => .tuple [dIs l, .bool true]
  | none => .tuple [.nils, .bool false]
/-- the list of a set -/
def listV (G : Gr) (s : List Int) : Option (List Int) := if (setOf s).any (fun v => !hasV G v) = true then none else listR G.edges (setOf s).length [] (setOf s)
def pl_vl1 : List (Nat × Plan) := []
def G_vl1 : List FuncId := [88]
theorem cok_vl1 : codeOk Tryz.prog G_vl1 pl_vl1 (Tryz.f87.body.getD .skip) = true := by kernel_rfl
theorem run_vl1 (vs : Array Value) (w : World) : (callFunc 87 vs).run C1.P w = .ok (.enter 87 vs) w := by kernel_rfl
theorem list1_pure (G : Gr) (v : Int) : Pure C1 87 [.int .i64 v, .ref (dG G)] (fun y => y = .bool (!hasV G v)) := by
  refine pure_of c1_ok (pl := pl_vl1) (G := G_vl1) Tryz.func87 rfl Tryz.ntmps87 run_vl1 cok_vl1 (by simp) ?_
  (conv => whnf)
  (repeat' ((first | refine ord_ok (by (conv => whnf); (repeat' ((first | refine call_eq rfl (vhas_pure G v) ?_ | refine ify ?_ | refine ifn ?_ | refine i6 ?_ | refine ati ?_ | refine mst ?_ | refine rmd ?_ | refine ibo (fun _ => ?_) (fun _ => ?_)) <;> conv => whnf)); (all_goals (repeat' (first | exact trivial | exact rfl | refine And.intro ?_ ?_)))) ?_ | refine call_eq rfl (vhas_pure G v) ?_ | refine ify ?_ | refine ifn ?_ | refine i6 ?_ | refine ati ?_ | refine mst ?_ | refine rmd ?_ | refine ibo (fun _ => ?_) (fun _ => ?_)) <;> conv => whnf))
  exact rfl
def pl_vl2 : List (Nat × Plan) := []
def G_vl2 : List FuncId := [91]
theorem cok_vl2 : codeOk Tryz.prog G_vl2 pl_vl2 (Tryz.f90.body.getD .skip) = true := by kernel_rfl
theorem run_vl2 (vs : Array Value) (w : World) : (callFunc 90 vs).run C1.P w = .ok (.enter 90 vs) w := by kernel_rfl
theorem list2_pure (G : Gr) (hG : G.Ok) (l : List Int) (v : Int) : Pure C1 90 [.int .i64 v, .ref (dIs l), .ref (dG G)] (fun y => y = .bool (nextP G.edges l v)) := by
  have hll : (l.map dI).length = l.length := List.length_map _
  refine pure_of c1_ok (pl := pl_vl2) (G := G_vl2) Tryz.func90 rfl Tryz.ntmps90 run_vl2 cok_vl2 (by simp) ?_
  by_cases h : l = []
  · subst h
    (conv => whnf)
    (repeat' ((first | refine ord_ok (by (conv => whnf); (repeat' ((first | refine call_eq rfl (bes_pure G hG [] v) ?_ | refine ify ?_ | refine ifn ?_ | refine i6 ?_ | refine ati ?_ | refine mst ?_ | refine rmd ?_ | refine ibo (fun _ => ?_) (fun _ => ?_)) <;> conv => whnf)); (all_goals (repeat' (first | exact trivial | exact rfl | refine And.intro ?_ ?_)))) ?_ | refine call_eq rfl (bes_pure G hG [] v) ?_ | refine ify ?_ | refine ifn ?_ | refine i6 ?_ | refine ati ?_ | refine mst ?_ | refine rmd ?_ | refine ibo (fun _ => ?_) (fun _ => ?_)) <;> conv => whnf))
    exact rfl
  · have hl0 : ¬ ((l.map dI).length : Int) = 0 := by rw [hll]; have := List.length_pos_iff.2 h; omega
    (conv => whnf)
    (repeat' ((first | refine ord_ok (by (conv => whnf); (repeat' ((first | refine call_eq rfl (bes_pure G hG l v) ?_ | refine ify ?_ | refine ifn ?_ | refine i6 ?_ | refine ati ?_ | refine mst ?_ | refine rmd ?_ | refine ibo (fun _ => ?_) (fun _ => ?_)) <;> conv => whnf)); (all_goals (repeat' (first | exact trivial | exact rfl | refine And.intro ?_ ?_)))) ?_ | refine call_eq rfl (bes_pure G hG l v) ?_ | refine ify ?_ | refine ifn ?_ | refine i6 ?_ | refine ati ?_ | refine mst ?_ | refine rmd ?_ | refine ibo (fun _ => ?_) (fun _ => ?_)) <;> conv => whnf))
    show Da.plain _ = _
    simp [Da.plain, nextP, h]
def pl_vls : List (Nat × Plan) := [(9, .leaf [1, 0, 0, 0, 1, 6, 3, 3] [1, 2, 3, 0, 4, 5, 6, 7] [0, 0, 0, 6, 14, 30, 63, 127])]
def G_vls : List FuncId := [66, 86, 89]
theorem cok_vls : codeOk Tryz.prog G_vls pl_vls (Tryz.f38.body.getD .skip) = true := by kernel_rfl
theorem run_vls (vs : Array Value) (w : World) : (callFunc 38 vs).run C1.P w = .ok (.enter 38 vs) w := by kernel_rfl
set_option maxHeartbeats 4000000 in
theorem list_pure (G : Gr) (hG : G.Ok) (s : List Int) (hs : s.length ≤ 4294967296) : Pure C1 38 [dG G, dIs s] (fun y => y = listY (listV G s)) := by
  have hsl := setOf_len s
  have hcf := containsF_pure (setOf s) 87 [.ref (dG G)] (fun v => !hasV G v) (fun v _ => list1_pure G v)
  have hof := of_mksl s hs
  unfold listV
  generalize setOf s = z at hsl hcf hof
  refine pure_of c1_ok (pl := pl_vls) (G := G_vls) Tryz.func38 rfl Tryz.ntmps38 run_vls cok_vls (by simp) ?_
  (conv => whnf)
  (repeat' ((first | refine ord_ok (by (conv => whnf); (repeat' ((first | refine call_eq rfl (len_pure G) ?_ | refine ify ?_ | refine ifn ?_ | refine i6 ?_ | refine ati ?_ | refine mst ?_ | refine rmd ?_ | refine ibo (fun _ => ?_) (fun _ => ?_)) <;> conv => whnf)); (all_goals (repeat' (first | exact trivial | exact rfl | refine And.intro ?_ ?_)))) ?_ | refine call_eq rfl (len_pure G) ?_ | refine ify ?_ | refine ifn ?_ | refine i6 ?_ | refine ati ?_ | refine mst ?_ | refine rmd ?_ | refine ibo (fun _ => ?_) (fun _ => ?_)) <;> conv => whnf))
  refine call_mksl 300 rfl rfl hof ?_; rintro ds rfl
  cases hz : z.any (fun v => !hasV G v) with
  | true =>
    rw [hz] at hcf
    rw [if_pos rfl]
    (conv => whnf)
    (repeat' ((first | refine ord_ok (by (conv => whnf); (repeat' ((first | refine call_eqb tab rfl hcf rfl ?_ | refine ify ?_ | refine ifn ?_ | refine i6 ?_ | refine ati ?_ | refine mst ?_ | refine rmd ?_ | refine ibo (fun _ => ?_) (fun _ => ?_)) <;> conv => whnf)); (all_goals (repeat' (first | exact trivial | exact rfl | refine And.intro ?_ ?_)))) ?_ | refine call_eqb tab rfl hcf rfl ?_ | refine ify ?_ | refine ifn ?_ | refine i6 ?_ | refine ati ?_ | refine mst ?_ | refine rmd ?_ | refine ibo (fun _ => ?_) (fun _ => ?_)) <;> conv => whnf))
    exact rfl
  | false =>
    rw [hz] at hcf
    simp only [Bool.false_eq_true, if_false]
    (conv => whnf)
    (repeat' ((first | refine ord_ok (by (conv => whnf); (repeat' ((first | refine call_eqb tab rfl hcf rfl ?_ | refine ify ?_ | refine ifn ?_ | refine i6 ?_ | refine ati ?_ | refine mst ?_ | refine rmd ?_ | refine ibo (fun _ => ?_) (fun _ => ?_)) <;> conv => whnf)); (all_goals (repeat' (first | exact trivial | exact rfl | refine And.intro ?_ ?_)))) ?_ | refine call_eqb tab rfl hcf rfl ?_ | refine ify ?_ | refine ifn ?_ | refine i6 ?_ | refine ati ?_ | refine mst ?_ | refine rmd ?_ | refine ibo (fun _ => ?_) (fun _ => ?_)) <;> conv => whnf))
    refine loop_lo (ι := List Int × List Int) (fun x => listR G.edges x.2.length x.1 x.2 = listR G.edges z.length [] z ∧ x.1.length + x.2.length = z.length)
      (fun x => [(7, .own 7), (6, .own 300), (2, .own 2)])
      (fun x => [(2, .cells 25 [.d (dG G)]), (7, .cells 22 [.own 301]), (300, .slice 3 1 (x.2.map dI)), (301, .slice 3 1 (x.1.map dI))])
      (fun x => x.2.length) ([], z) (fun _ => rfl) ⟨rfl, by simp⟩ (.ownc 7 301 3 1 rfl rfl (.here _) (.refl _ _)) ⟨rfl, rfl, rfl, trivial⟩ ⟨rfl, rfl, rfl, rfl, trivial⟩ ?_
    rintro ⟨l, left⟩ ⟨hR, hlen⟩
    dsimp only at hR hlen
    rw [← hR]
    have hll : (l.map dI).length = l.length := List.length_map _
    have hfl : (left.map dI).length = left.length := List.length_map _
    refine sxCode_sound c1_ok (G := G_vls) (pl := pl_vls) _ _ _ _ (by kernel_rfl) ?_
    cases left with
    | nil =>
      have h0 : ¬ (0 < ((List.map dI ((l, []) : List Int × List Int).snd).length : Int)) := by simp
      ((conv => whnf); repeat' ((first | refine odw ?_ | refine ify ?_ | refine ifn ?_ | refine i6 ?_ | refine ati ?_ | refine mst ?_ | refine rmd ?_ | refine ibo (fun _ => ?_) (fun _ => ?_)) <;> conv => whnf))
      exact rfl
    | cons x0 rest =>
      have hif := indexF_pure (x0 :: rest) 90 [.ref (dIs l), .ref (dG G)] (nextP G.edges l) (fun v _ => list2_pure G hG l v)
      have hpos : 0 < (x0 :: rest).length := by simp
      generalize x0 :: rest = left at *
      obtain ⟨n, hn⟩ : ∃ n, left.length = n + 1 := ⟨left.length - 1, by omega⟩
      rw [hn] at hR ⊢
      simp only [listR] at hR ⊢
      unfold idxF at hif
      cases hfi : left.findIdx? (nextP G.edges l) with
      | none =>
        rw [hfi] at hif
        simp only [optI] at hif
        (conv => whnf)
        (repeat' ((first | refine ord_ok (by (conv => whnf); (repeat' ((first | refine call_eqb tab rfl hif rfl ?_ | refine ify ?_ | refine ifn ?_ | refine i6 ?_ | refine ati ?_ | refine mst ?_ | refine rmd ?_ | refine ibo (fun _ => ?_) (fun _ => ?_)) <;> conv => whnf)); (all_goals (repeat' (first | exact trivial | exact rfl | refine And.intro ?_ ?_)))) ?_ | refine call_eqb tab rfl hif rfl ?_ | refine ify ?_ | refine ifn ?_ | refine i6 ?_ | refine ati ?_ | refine mst ?_ | refine rmd ?_ | refine ibo (fun _ => ?_) (fun _ => ?_)) <;> conv => whnf))
        exact rfl
      | some i =>
        rw [hfi] at hif hR
        simp only [optI] at hif hR
        have hil : i < left.length := by
          rw [List.findIdx?_eq_some_iff_getElem] at hfi
          exact hfi.1
        have hx := List.getElem?_eq_getElem hil
        generalize left[i] = x at hx
        have hxd : (left.map dI)[i]? = some (.int .i64 x) := by rw [List.getElem?_map, hx]; rfl
        rw [hx] at hR
        simp only [Option.getD_some] at hR
        have hel : (left.eraseIdx i).length = n := by rw [List.length_eraseIdx, if_pos hil]; omega
        have hde := delete_eat left i hil
        (conv => whnf)
        (repeat' ((first | refine ord_ok (by (conv => whnf); (repeat' ((first | refine call_eqb tab rfl hif rfl ?_ | refine el_at (i := i) rfl (by omega) ?_ | refine el_is hxd ?_ | refine ify ?_ | refine ifn ?_ | refine i6 ?_ | refine ati ?_ | refine mst ?_ | refine rmd ?_ | refine ibo (fun _ => ?_) (fun _ => ?_)) <;> conv => whnf)); (all_goals (repeat' (first | exact trivial | exact rfl | refine And.intro ?_ ?_)))) ?_ | refine call_eqb tab rfl hif rfl ?_ | refine el_at (i := i) rfl (by omega) ?_ | refine el_is hxd ?_ | refine ify ?_ | refine ifn ?_ | refine i6 ?_ | refine ati ?_ | refine mst ?_ | refine rmd ?_ | refine ibo (fun _ => ?_) (fun _ => ?_)) <;> conv => whnf))
        refine call_eat rfl rfl hde ?_; rintro ds rfl
        ((conv => whnf); repeat' ((first | refine odw ?_ | refine ify ?_ | refine ifn ?_ | refine i6 ?_ | refine ati ?_ | refine mst ?_ | refine rmd ?_ | refine ibo (fun _ => ?_) (fun _ => ?_)) <;> conv => whnf))
        have hfin : l.map dI ++ [.int .i64 x] = (l ++ [x]).map dI := by rw [List.map_append]; rfl
        refine ⟨(l ++ [x], left.eraseIdx i), _, _, ⟨?_, ?_⟩, .refl _ _, ⟨rfl, rfl, rfl, trivial⟩, ⟨rfl, rfl, rfl, slice_is hfin, trivial⟩, by dsimp only; omega⟩
        · dsimp only; rw [hel, hx]; rfl
        · dsimp only; rw [List.length_append, hel]; simp; omega
end Go.Proofs.YteigfapjiekdnaaGreatDoor

namespace Go.Proofs.YteigfapjiekdnaaGreatDoor
open Go.Sx Go.RowKit Go.Reg Go.Gr

set_option maxRecDepth 100000
/-- may a vertex come behind a canonical list? -/
def fitsV (G : Gr) (l : List Int) (v : Int) : Bool := match l[0]? with
  | none => hasV G v
  | some y => match l.findIdx? (besP G.edges v) with
    | none => false
    | some i => !decide (v ∈ l) && (!decide (v < y) && !(l.drop (i + 1)).any (fun u => decide (v < u)))
/-- is a list canonical? -/
def canonV (G : Gr) (l : List Int) : Bool := (List.range l.length).all fun i => match l[i]? with
  | some v => fitsV G (l.take i) v
  | none => true
theorem canonV_no {G : Gr} {l : List Int} {i : Nat} {v : Int} (h : l[i]? = some v) (h2 : fitsV G (l.take i) v = false) : canonV G l = false := by
  unfold canonV
  rw [List.all_eq_false]
  exact ⟨i, by simp [(List.getElem?_eq_some_iff.1 h).1], by simp [h, h2]⟩
theorem canonV_yes {G : Gr} {l : List Int} (h : ∀ (i : Nat) (v : Int), l[i]? = some v → fitsV G (l.take i) v = true) : canonV G l = true := by
  unfold canonV
  rw [List.all_eq_true]
  intro i _
  cases hx : l[i]? with
  | none => rfl
  | some v => exact h i v hx
end Go.Proofs.YteigfapjiekdnaaGreatDoor
end

section
/- vert: plain laws: the list of a set: its vertices, and that it is canonical. · vert: plain laws for VertGrowth: a graph with an edge less; what is beside. -/
namespace Go.Proofs.YteigfapjiekdnaaGreatDoor
open Go.Gr
theorem findIdx_erase {p : Int → Bool} {l : List Int} {i : Nat} (h : l.findIdx? p = some i) : ∃ (h2 : i < l.length), p l[i] = true ∧ ∀ j (hj : j < i), p (l[j]'(by omega)) = false := by
  rw [List.findIdx?_eq_some_iff_getElem] at h
  obtain ⟨h1, h2, h3⟩ := h
  exact ⟨h1, h2, fun j hj => by have := h3 j hj; simpa using this⟩
theorem nod_inj {l : List Int} (h : l.Nodup) {i j : Nat} (hi : i < l.length) (hj : j < l.length) (e : l[i] = l[j]) : i = j := by
  rcases Nat.lt_trichotomy i j with h1 | h1 | h1
  · exact absurd e (List.pairwise_iff_getElem.1 h i j hi hj h1)
  · exact h1
  · exact absurd e.symm (List.pairwise_iff_getElem.1 h j i hj hi h1)
theorem erase_perm {l : List Int} {i : Nat} (hi : i < l.length) : (l[i] :: l.eraseIdx i).Perm l := by
  rw [List.eraseIdx_eq_take_drop_succ]
  have h : l = l.take i ++ (l[i] :: l.drop (i + 1)) := by rw [List.getElem_cons_drop, List.take_append_drop]
  exact (List.perm_middle.symm).trans (List.Perm.of_eq h.symm)
theorem mem_erase_at {l : List Int} (hn : l.Nodup) {i : Nat} (hi : i < l.length) {x : Int} : x ∈ l.eraseIdx i ↔ x ∈ l ∧ x ≠ l[i] := by
  have e := List.eraseIdx_eq_take_drop_succ l i
  rw [e, List.mem_append, List.mem_take_iff_getElem, List.mem_drop_iff_getElem]
  constructor
  · rintro (⟨j, hj, rfl⟩ | ⟨j, hj, rfl⟩)
    · exact ⟨List.getElem_mem _, fun he => by have := nod_inj hn (by omega) (by omega) he; omega⟩
    · exact ⟨List.getElem_mem _, fun he => by have := nod_inj hn (by omega) (by omega) he; omega⟩
  · rintro ⟨hx, hne⟩
    obtain ⟨j, hj, rfl⟩ := List.mem_iff_getElem.1 hx
    rcases Nat.lt_trichotomy j i with h | h | h
    · exact .inl ⟨j, by omega, rfl⟩
    · subst h; exact absurd rfl hne
    · exact .inr ⟨j - (i + 1), by omega, by congr 1; omega⟩
/-- the state behind some that were put: what is left rises; those that are apart; what was put is of the set -/
theorem listR_perm {E : List Edg} : ∀ (n : Nat) (l left r : List Int), left.length = n → left.Nodup → listR E n l left = some r → r.Perm (l ++ left)
  | 0, l, left, r, hn, _, h => by
    simp only [listR, Option.some.injEq] at h
    subst h
    have : left = [] := List.eq_nil_of_length_eq_zero hn
    subst this; simp
  | n + 1, l, left, r, hn, hd, h => by
    simp only [listR] at h
    cases hf : left.findIdx? (nextP E l) with
    | none => rw [hf] at h; cases h
    | some i =>
      rw [hf] at h
      obtain ⟨hi, _, _⟩ := findIdx_erase hf
      have hx := List.getElem?_eq_getElem hi
      simp only [hx, Option.getD_some] at h
      have := listR_perm n (l ++ [left[i]]) (left.eraseIdx i) r (by rw [List.length_eraseIdx, if_pos hi]; omega) (hd.sublist (List.eraseIdx_sublist left i)) h
      refine this.trans ?_
      rw [List.append_assoc]
      exact List.Perm.append_left l (erase_perm hi)
theorem nextP_iff {E : List Edg} {l : List Int} {v : Int} : nextP E l v = true ↔ l = [] ∨ l.any (besP E v) = true := by
  unfold nextP besV
  rw [Bool.or_eq_true, decide_eq_true_eq, decide_eq_true_eq, idxF_nn]
/-- what was put stood ahead of all that might have come then and is left -/
def Ahead (E : List Edg) (l left : List Int) : Prop := ∀ (j : Nat) (u : Int), l[j]? = some u → ∀ x ∈ left, nextP E (l.take j) x = true → u < x
theorem fits_next {G : Gr} {l left : List Int} {x : Int} (hA : Ahead G.edges l left) (hx : x ∈ left) (hn : x ∉ l) (hv : hasV G x = true) (hp : nextP G.edges l x = true) : fitsV G l x = true := by
  unfold fitsV
  cases h0 : l[0]? with
  | none => exact hv
  | some y =>
    have hl : l ≠ [] := fun e => by subst e; simp at h0
    have hany := (nextP_iff.1 hp).resolve_left hl
    have hy := hA 0 y h0 x hx (nextP_iff.2 (.inl (by simp)))
    simp only
    cases hf : l.findIdx? (besP G.edges x) with
    | none =>
      rw [List.findIdx?_eq_none_iff] at hf
      rw [List.any_eq_true] at hany
      obtain ⟨u, hu, hb⟩ := hany
      have := hf u hu
      simp [hb] at this
    | some i =>
      obtain ⟨hi, hb, _⟩ := findIdx_erase hf
      simp only [Bool.and_eq_true, Bool.not_eq_true', decide_eq_false_iff_not, List.any_eq_false, decide_eq_true_eq]
      refine ⟨hn, by omega, fun u hu => ?_⟩
      obtain ⟨k, hk, rfl⟩ := List.mem_drop_iff_getElem.1 hu
      have := hA (i + 1 + k) _ (List.getElem?_eq_getElem (by omega)) x hx (nextP_iff.2 (.inr (List.any_eq_true.2 ⟨l[i], List.mem_take_iff_getElem.2 ⟨i, by omega, rfl⟩, hb⟩)))
      omega
theorem ahead_step {E : List Edg} {l left : List Int} (hA : Ahead E l left) (hr : left.Pairwise (· < ·)) {i : Nat} (hf : left.findIdx? (nextP E l) = some i) {x : Int} (hx : left[i]? = some x) : Ahead E (l ++ [x]) (left.eraseIdx i) := by
  obtain ⟨hi, _, hfirst⟩ := findIdx_erase hf
  have hnod : left.Nodup := hr.imp fun h => by omega
  have hxe : x = left[i] := by rw [List.getElem?_eq_getElem hi] at hx; exact (Option.some.inj hx).symm
  intro j u hu z hz hp
  obtain ⟨hz1, hz2⟩ := (mem_erase_at hnod hi).1 hz
  by_cases hj : j < l.length
  · rw [List.getElem?_append_left hj] at hu
    rw [List.take_append_of_le_length (by omega)] at hp
    exact hA j u hu z hz1 hp
  · have hjl := (List.getElem?_eq_some_iff.1 hu).1
    rw [List.length_append, List.length_singleton] at hjl
    have hje : j = l.length := by omega
    subst hje
    rw [List.take_left] at hp
    have hux : u = x := by simpa using hu.symm
    subst hux
    obtain ⟨k, hk, rfl⟩ := List.mem_iff_getElem.1 hz1
    have hki : ¬ k < i := fun h => by have := hfirst k h; rw [hp] at this; cases this
    have hne : k ≠ i := fun e => by subst e; exact hz2 rfl
    rw [hxe]
    exact List.pairwise_iff_getElem.1 hr i k hi hk (by omega)
theorem listR_canon {G : Gr} : ∀ (n : Nat) (l left r : List Int), left.length = n → left.Pairwise (· < ·) → (l ++ left).Nodup → (∀ x ∈ left, hasV G x = true) → Ahead G.edges l left →
    (∀ (j : Nat) (v : Int), l[j]? = some v → fitsV G (l.take j) v = true) → listR G.edges n l left = some r → canonV G r = true
  | 0, l, left, r, _, _, _, _, _, hC, h => by
    simp only [listR, Option.some.injEq] at h
    subst h
    exact canonV_yes hC
  | n + 1, l, left, r, hn, hr, hd, hv, hA, hC, h => by
    simp only [listR] at h
    cases hf : left.findIdx? (nextP G.edges l) with
    | none => rw [hf] at h; cases h
    | some i =>
      rw [hf] at h
      obtain ⟨hi, hp, _⟩ := findIdx_erase hf
      have hx := List.getElem?_eq_getElem hi
      simp only [hx, Option.getD_some] at h
      have hmem := List.getElem_mem hi
      have hnl : left[i] ∉ l := fun hm => (List.nodup_append.1 hd).2.2 _ hm _ hmem rfl
      refine listR_canon n (l ++ [left[i]]) (left.eraseIdx i) r (by rw [List.length_eraseIdx, if_pos hi]; omega) (hr.sublist (List.eraseIdx_sublist left i)) ?_ (fun x hx => hv x ((List.eraseIdx_sublist left i).subset hx)) (ahead_step hA hr hf hx) ?_ h
      · rw [List.append_assoc]
        exact (List.Perm.nodup_iff (List.Perm.append_left l (erase_perm hi))).2 hd
      · intro j v hj
        by_cases hjl : j < l.length
        · rw [List.getElem?_append_left hjl] at hj
          rw [List.take_append_of_le_length (by omega)]
          exact hC j v hj
        · have h1 := (List.getElem?_eq_some_iff.1 hj).1
          rw [List.length_append, List.length_singleton] at h1
          have hje : j = l.length := by omega
          subst hje
          have hvx : v = left[i] := by simpa using hj.symm
          subst hvx
          rw [List.take_left]
          exact fits_next hA hmem hnl (hv _ hmem) hp
/-- the list of a set: a permutation of it, and canonical -/
theorem listV_spec {G : Gr} {s r : List Int} (h : listV G s = some r) : r.Perm (setOf s) ∧ canonV G r = true := by
  unfold listV at h
  split at h
  · cases h
  · rename_i hv
    have hr := (setOf_spec s).1
    have hd : (setOf s).Nodup := hr.imp fun h => by omega
    refine ⟨by simpa using listR_perm _ _ _ _ rfl hd h, listR_canon _ _ _ _ rfl hr (by simpa using hd) (fun x hx => ?_) (fun j u hu => by simp at hu) (fun j u hu => by simp at hu) h⟩
    simp only [List.any_eq_true, not_exists, not_and, Bool.not_eq_true', Bool.not_eq_false] at hv
    exact hv x hx
end Go.Proofs.YteigfapjiekdnaaGreatDoor
end

section
/- The end of an owned slice of ints by itself: s[m:], clear of it, s[:m]. · vert: plain laws: a linked list's set has a list; a canonical list is the list of its set; what is beside, what may come behind. · slices.DeleteFunc at an owned slice of ints; vert: Grow. -/

namespace Go.Proofs.YteigfapjiekdnaaGreatDoor
open Go.Gr
theorem canonV_at {G : Gr} {l : List Int} (h : canonV G l = true) {i : Nat} {v : Int} (hx : l[i]? = some v) : fitsV G (l.take i) v = true := by
  cases hh : fitsV G (l.take i) v with
  | true => rfl
  | false => rw [canonV_no hx hh] at h; cases h
theorem linkAt_iff {G : Gr} {l : List Int} {i : Nat} {v : Int} : linkAt G l i v = true ↔ hasV G v = true ∧ v ∉ l.take i ∧ (i = 0 ∨ (l.take i).any (besP G.edges v) = true) := by
  simp only [linkAt, Bool.and_eq_true, Bool.not_eq_true', decide_eq_false_iff_not, Bool.or_eq_true, decide_eq_true_eq]
theorem any_bes {E : List Edg} {l : List Int} {v : Int} : l.any (besP E v) = true ↔ ∃ u ∈ l, turn ⟨u, v⟩ ∈ E := by
  rw [List.any_eq_true]
  constructor
  · rintro ⟨u, hu, h⟩; exact ⟨u, hu, by simpa [besP] using h⟩
  · rintro ⟨u, hu, h⟩; exact ⟨u, hu, by simpa [besP] using h⟩
theorem fits_first {G : Gr} {l : List Int} {v y : Int} (h : fitsV G l v = true) (h0 : l[0]? = some y) : ∃ i, l.findIdx? (besP G.edges v) = some i ∧ v ∉ l ∧ ¬ v < y ∧ ∀ u ∈ l.drop (i + 1), ¬ v < u := by
  unfold fitsV at h
  rw [h0] at h
  simp only at h
  cases hf : l.findIdx? (besP G.edges v) with
  | none => rw [hf] at h; cases h
  | some i =>
    rw [hf] at h
    simp only [Bool.and_eq_true, Bool.not_eq_true', decide_eq_false_iff_not, List.any_eq_false, decide_eq_true_eq] at h
    exact ⟨i, rfl, h.1, h.2.1, h.2.2⟩
theorem fits_any {G : Gr} {l : List Int} {v : Int} (h : fitsV G l v = true) (hl : l ≠ []) : v ∉ l ∧ ∃ u ∈ l, turn ⟨u, v⟩ ∈ G.edges := by
  obtain ⟨y, hy⟩ : ∃ y, l[0]? = some y := ⟨_, List.getElem?_eq_getElem (List.length_pos_iff.2 hl)⟩
  obtain ⟨i, h1, h2, _⟩ := fits_first h hy
  obtain ⟨h3, h4, _⟩ := findIdx_erase h1
  exact ⟨h2, _, List.getElem_mem h3, by simpa [besP] using h4⟩
theorem edge_has {G : Gr} (hG : G.Ok) {u v : Int} (h : turn ⟨u, v⟩ ∈ G.edges) : hasV G u = true ∧ hasV G v = true := by
  have hb := hG.edge _ h
  unfold hasV
  simp only [decide_eq_true_eq]
  unfold turn at hb
  simp only at hb
  omega
theorem fits_has {G : Gr} (hG : G.Ok) {l : List Int} {v : Int} (h : fitsV G l v = true) : hasV G v = true := by
  by_cases hl : l = []
  · subst hl; exact h
  · obtain ⟨u, _, hu⟩ := (fits_any h hl).2
    exact (edge_has hG hu).2
theorem canon_linked {G : Gr} (hG : G.Ok) {l : List Int} (h : canonV G l = true) : linkedV G l = true := by
  refine linkedV_yes fun i v hx => linkAt_iff.2 ?_
  have hf := canonV_at h hx
  refine ⟨fits_has hG hf, ?_⟩
  by_cases hi : i = 0
  · subst hi; exact ⟨by simp, .inl rfl⟩
  · have hil := (List.getElem?_eq_some_iff.1 hx).1
    have hne : l.take i ≠ [] := fun e => by
      have := congrArg List.length e
      simp only [List.length_take, List.length_nil] at this; omega
    have := fits_any hf hne
    exact ⟨this.1, .inr (any_bes.2 this.2)⟩
end Go.Proofs.YteigfapjiekdnaaGreatDoor
end

section
/- ref06: Add, Of. · vert: what no graph tells. -/
namespace Go.Proofs.YteigfapjiekdnaaGreatDoor
open Go.Sx Go.RowKit Go.Reg Go.Gr

set_option maxRecDepth 100000
theorem add_spec {s : List Int} {n : Int} {k : Nat} (hs : s.Pairwise (· < ·)) (h1 : ∀ y ∈ s.take k, y < n) (h2 : ∀ y ∈ s.drop k, n < y) :
    ((s.take k ++ [n]) ++ s.drop k).Pairwise (· < ·) ∧ (∀ x, x ∈ (s.take k ++ [n]) ++ s.drop k ↔ x = n ∨ x ∈ s) ∧ ((s.take k ++ [n]) ++ s.drop k).length ≤ s.length + 1 := by
  refine ⟨?_, fun x => ?_, ?_⟩
  · rw [List.pairwise_append, List.pairwise_append]
    refine ⟨⟨hs.sublist (List.take_sublist _ _), by simp, fun a ha b hb => ?_⟩, hs.sublist (List.drop_sublist _ _), fun a ha b hb => ?_⟩
    · rw [List.mem_singleton] at hb; subst hb; exact h1 a ha
    · have := h2 b hb
      rcases List.mem_append.1 ha with ha | ha
      · have := h1 a ha; omega
      · rw [List.mem_singleton] at ha; omega
  · have : x ∈ s ↔ x ∈ s.take k ∨ x ∈ s.drop k := by rw [← List.mem_append, List.take_append_drop]
    rw [this]
    simp only [List.mem_append, List.mem_singleton]
    constructor
    · rintro ((h | h) | h)
      · exact .inr (.inl h)
      · exact .inl h
      · exact .inr (.inr h)
    · rintro (h | h | h)
      · exact .inl (.inr h)
      · exact .inl (.inl h)
      · exact .inr h
  · simp only [List.length_append, List.length_take, List.length_drop, List.length_singleton]; omega
def pl_r6a : List (Nat × Plan) := []
def G_r6a : List FuncId := [17]
theorem cok_r6a : codeOk Tryz.prog G_r6a pl_r6a (Tryz.f98.body.getD .skip) = true := by kernel_rfl
theorem run_r6a (vs : Array Value) (w : World) : (callFunc 98 vs).run C1.P w = .ok (.enter 98 vs) w := by kernel_rfl
theorem add06_pure (s : List Int) (n : Int) (hs : s.Pairwise (· < ·)) (hl : s.length ≤ 4294967295) : Pure C1 98 [dIs s, .int .i64 n] (fun y => ∃ t : List Int, y = dIs t ∧ t.Pairwise (· < ·) ∧ (∀ x, x ∈ t ↔ x = n ∨ x ∈ s) ∧ t.length ≤ s.length + 1) := by
  have hsl : (s.map dI).length = s.length := List.length_map _
  have hh := has06_pure s n
  refine pure_of c1_ok (pl := pl_r6a) (G := G_r6a) Tryz.func98 rfl Tryz.ntmps98 run_r6a cok_r6a (by simp) ?_
  by_cases hn : n ∈ s
  · rw [decide_eq_true hn] at hh
    (conv => whnf)
    (repeat' ((first | refine ord_ok (by (conv => whnf); (repeat' ((first | refine call_eq rfl hh ?_ | refine ify ?_ | refine ifn ?_ | refine i6 ?_ | refine ati ?_ | refine mst ?_ | refine rmd ?_ | refine ibo (fun _ => ?_) (fun _ => ?_)) <;> conv => whnf)); (all_goals (repeat' (first | exact trivial | exact rfl | refine And.intro ?_ ?_)))) ?_ | refine call_eq rfl hh ?_ | refine ify ?_ | refine ifn ?_ | refine i6 ?_ | refine ati ?_ | refine mst ?_ | refine rmd ?_ | refine ibo (fun _ => ?_) (fun _ => ?_)) <;> conv => whnf))
    exact ⟨s, rfl, hs, fun x => ⟨.inr, fun h => h.elim (fun e => e ▸ hn) id⟩, by omega⟩
  · rw [decide_eq_false hn] at hh
    (conv => whnf)
    (repeat' ((first | refine ord_ok (by (conv => whnf); (repeat' ((first | refine call_eq rfl hh ?_ | refine ify ?_ | refine ifn ?_ | refine i6 ?_ | refine ati ?_ | refine mst ?_ | refine rmd ?_ | refine ibo (fun _ => ?_) (fun _ => ?_)) <;> conv => whnf)); (all_goals (repeat' (first | exact trivial | exact rfl | refine And.intro ?_ ?_)))) ?_ | refine call_eq rfl hh ?_ | refine ify ?_ | refine ifn ?_ | refine i6 ?_ | refine ati ?_ | refine mst ?_ | refine rmd ?_ | refine ibo (fun _ => ?_) (fun _ => ?_)) <;> conv => whnf))
    refine loop_lo (ι := Nat) (fun k => k ≤ s.length ∧ ∀ y ∈ s.take k, y < n) (fun k => [(5, .d (.int .i64 k)), (1, .d (.int .i64 n)), (0, .d (dIs s))]) (fun _ => []) (fun k => s.length - k) 0 (fun _ => rfl) ⟨Nat.zero_le _, by simp⟩ (.refl _ _) ⟨rfl, rfl, rfl, trivial⟩ trivial ?_
    rintro k ⟨hk, hlo⟩
    refine sxCode_sound c1_ok (G := G_r6a) (pl := pl_r6a) _ _ _ _ (by kernel_rfl) ?_
    have hfin : ((s.map dI).take k ++ [.int .i64 n]) ++ (s.map dI).drop k = ((s.take k ++ [n]) ++ s.drop k).map dI := by
      rw [List.map_append, List.map_append, List.map_take, List.map_drop]; rfl
    by_cases hlt : k < s.length
    · have hx := List.getElem?_eq_getElem hlt
      have hxm := List.getElem_mem hlt
      have hge : ∀ y ∈ s.drop k, s[k] ≤ y := by
        intro y hy
        obtain ⟨j, hj, rfl⟩ := List.mem_drop_iff_getElem.1 hy
        rcases Nat.eq_zero_or_pos j with e | e
        · subst e; simp
        · have := List.pairwise_iff_getElem.1 hs k (k + j) hlt (by omega) (by omega); omega
      generalize s[k] = x at hx hxm hge
      have hxd : (s.map dI)[k]? = some (.int .i64 x) := by rw [List.getElem?_map, hx]; rfl
      by_cases hxn : x < n
      · (conv => whnf)
        (repeat' ((first | refine ord_ok (by (conv => whnf); (repeat' ((first | refine at_da hxd rfl ?_ | refine ify ?_ | refine ifn ?_ | refine i6 ?_ | refine ati ?_ | refine mst ?_ | refine rmd ?_ | refine ibo (fun _ => ?_) (fun _ => ?_)) <;> conv => whnf)); (all_goals (repeat' (first | exact trivial | exact rfl | refine And.intro ?_ ?_)))) ?_ | refine at_da hxd rfl ?_ | refine ify ?_ | refine ifn ?_ | refine i6 ?_ | refine ati ?_ | refine mst ?_ | refine rmd ?_ | refine ibo (fun _ => ?_) (fun _ => ?_)) <;> conv => whnf))
        refine ⟨k + 1, _, _, ⟨hlt, ?_⟩, .refl _ _, ⟨rfl, rfl, rfl, trivial⟩, trivial, by omega⟩
        intro y hy
        rw [List.take_add_one, hx] at hy
        rcases List.mem_append.1 hy with hy | hy
        · exact hlo y hy
        · simp at hy; subst hy; exact hxn
      · have hne : x ≠ n := fun e => hn (e ▸ hxm)
        obtain ⟨g1, g2, g3⟩ := add_spec hs hlo (fun y hy => by have := hge y hy; omega)
        (conv => whnf)
        (repeat' ((first | refine ord_ok (by (conv => whnf); (repeat' ((first | refine at_da hxd rfl ?_ | refine sl_is k rfl (by omega) ?_ | refine hi_is rfl (show k ≤ (s.map dI).length by omega) ?_ | refine ify ?_ | refine ifn ?_ | refine i6 ?_ | refine ati ?_ | refine mst ?_ | refine rmd ?_ | refine ibo (fun _ => ?_) (fun _ => ?_)) <;> conv => whnf)); (all_goals (repeat' (first | exact trivial | exact rfl | refine And.intro ?_ ?_)))) ?_ | refine at_da hxd rfl ?_ | refine sl_is k rfl (by omega) ?_ | refine hi_is rfl (show k ≤ (s.map dI).length by omega) ?_ | refine ify ?_ | refine ifn ?_ | refine i6 ?_ | refine ati ?_ | refine mst ?_ | refine rmd ?_ | refine ibo (fun _ => ?_) (fun _ => ?_)) <;> conv => whnf))
        exact ⟨_, congrArg (Da.list 1) hfin, g1, g2, g3⟩
    · have hke : k = s.length := by omega
      obtain ⟨g1, g2, g3⟩ := add_spec hs hlo (fun y hy => by rw [hke, List.drop_length] at hy; cases hy)
      (conv => whnf)
      (repeat' ((first | refine ord_ok (by (conv => whnf); (repeat' ((first | refine sl_is k rfl (by omega) ?_ | refine hi_is rfl (show k ≤ (s.map dI).length by omega) ?_ | refine ify ?_ | refine ifn ?_ | refine i6 ?_ | refine ati ?_ | refine mst ?_ | refine rmd ?_ | refine ibo (fun _ => ?_) (fun _ => ?_)) <;> conv => whnf)); (all_goals (repeat' (first | exact trivial | exact rfl | refine And.intro ?_ ?_)))) ?_ | refine sl_is k rfl (by omega) ?_ | refine hi_is rfl (show k ≤ (s.map dI).length by omega) ?_ | refine ify ?_ | refine ifn ?_ | refine i6 ?_ | refine ati ?_ | refine mst ?_ | refine rmd ?_ | refine ibo (fun _ => ?_) (fun _ => ?_)) <;> conv => whnf))
      exact ⟨_, congrArg (Da.list 1) hfin, g1, g2, g3⟩
def pl_r6o : List (Nat × Plan) := []
def G_r6o : List FuncId := [98]
theorem cok_r6o : codeOk Tryz.prog G_r6o pl_r6o (Tryz.f44.body.getD .skip) = true := by kernel_rfl
theorem run_r6o (vs : Array Value) (w : World) : (callFunc 44 vs).run C1.P w = .ok (.enter 44 vs) w := by kernel_rfl
theorem of06_pure (l : List Int) (hl : l.length ≤ 1000000) : Pure C1 44 [dIs l] (fun y => y = dIs (setOf l)) := by
  have hll : (l.map dI).length = l.length := List.length_map _
  refine pure_of c1_ok (pl := pl_r6o) (G := G_r6o) Tryz.func44 rfl Tryz.ntmps44 run_r6o cok_r6o (by simp) ?_
  ((conv => whnf); repeat' ((first | refine odw ?_ | refine ify ?_ | refine ifn ?_ | refine i6 ?_ | refine ati ?_ | refine mst ?_ | refine rmd ?_ | refine ibo (fun _ => ?_) (fun _ => ?_)) <;> conv => whnf))
  refine loop_lo (ι := Nat × List Int) (fun x => (x.1 ≤ l.length ∧ x.2.length ≤ x.1) ∧ x.2.Pairwise (· < ·) ∧ ∀ y, y ∈ x.2 ↔ y ∈ l.take x.1) (fun x => [(4, .d (.int .i64 (x.1 : Nat))), (3, .d (dIs x.2)), (0, .d (dIs l))]) (fun _ => []) (fun x => l.length - x.1) (0, []) (fun _ => rfl)
    ⟨⟨Nat.zero_le _, Nat.le_refl _⟩, List.Pairwise.nil, by simp⟩ (.lax 3 rfl (.nils 1) (.refl _ _)) ⟨rfl, rfl, rfl, trivial⟩ trivial ?_
  rintro ⟨i, s⟩ ⟨⟨hi, hsl⟩, hr, hm⟩
  dsimp only at hi hsl hr hm
  refine sxCode_sound c1_ok (G := G_r6o) (pl := pl_r6o) _ _ _ _ (by kernel_rfl) ?_
  by_cases hlt : i < l.length
  · have hx := List.getElem?_eq_getElem hlt
    generalize l[i] = x at hx
    have hxd : (l.map dI)[i]? = some (.int .i64 x) := by rw [List.getElem?_map, hx]; rfl
    (conv => whnf)
    (repeat' ((first | refine ord_ok (by (conv => whnf); (repeat' ((first | refine at_da hxd rfl ?_ | refine ify ?_ | refine ifn ?_ | refine i6 ?_ | refine ati ?_ | refine mst ?_ | refine rmd ?_ | refine ibo (fun _ => ?_) (fun _ => ?_)) <;> conv => whnf)); (all_goals (repeat' (first | exact trivial | exact rfl | refine And.intro ?_ ?_)))) ?_ | refine at_da hxd rfl ?_ | refine ify ?_ | refine ifn ?_ | refine i6 ?_ | refine ati ?_ | refine mst ?_ | refine rmd ?_ | refine ibo (fun _ => ?_) (fun _ => ?_)) <;> conv => whnf))
    refine call_pure rfl (add06_pure s x hr (by omega)) ?_
    rintro y ⟨t, rfl, h1, h2, h3⟩
    ((conv => whnf); repeat' ((first | refine odw ?_ | refine ify ?_ | refine ifn ?_ | refine i6 ?_ | refine ati ?_ | refine mst ?_ | refine rmd ?_ | refine ibo (fun _ => ?_) (fun _ => ?_)) <;> conv => whnf))
    refine ⟨(i + 1, t), _, _, ⟨⟨hlt, by dsimp only; omega⟩, h1, fun y => ?_⟩, .refl _ _, ⟨rfl, rfl, rfl, trivial⟩, trivial, by dsimp only; omega⟩
    dsimp only
    rw [h2, hm, List.take_add_one, hx, Option.toList_some, List.mem_append, List.mem_singleton]
    exact or_comm
  · have hii : l.take i = l := List.take_of_length_le (by omega)
    rw [hii] at hm
    have he : s = setOf l := rise_eq hr (setOf_spec l).1 fun x => by rw [hm, (setOf_spec l).2]
    ((conv => whnf); repeat' ((first | refine odw ?_ | refine ify ?_ | refine ifn ?_ | refine i6 ?_ | refine ati ?_ | refine mst ?_ | refine rmd ?_ | refine ibo (fun _ => ?_) (fun _ => ?_)) <;> conv => whnf))
    rw [he]
    exact rfl
end Go.Proofs.YteigfapjiekdnaaGreatDoor
end

section
/- law12: QuickForms: the walk. -/
namespace Go.Proofs.YteigfapjiekdnaaGreatDoor
open Go.Sx Go.RowKit Go.Reg Go.Gr

set_option maxRecDepth 100000
theorem any_snoc {A : List (List Int)} {l : List Int} {i : Nat} {x : List Int} (h : A[i]? = some x) : ((A.take (i + 1)).any fun y => decide (y = l)) = (((A.take i).any fun y => decide (y = l)) || decide (x = l)) := by
  rw [List.take_add_one, h, List.any_append]; simp
theorem any_mem {A : List (List Int)} {l : List Int} (h : l ∈ A) : (A.any fun y => decide (y = l)) = true := List.any_eq_true.2 ⟨l, h, decide_eq_true rfl⟩
def pl_qft : List (Nat × Plan) := [(14, .leaf [0, 1, 2, 0, 1, 2, 0, 0] [0, 3, 1, 4, 2, 5, 6, 7] [0, 0, 3, 0, 0, 31, 63, 127]),
  (24, .split 0 3 (.split 1 4 (.split 1 11 (.split 4 11 (.split 4 3 (.split 11 3 (.leaf [1, 6, 0, 3, 6, 3, 2, 0, 0, 0, 0, 6, 3, 0, 0] [2, 0, 1, 4, 11, 3, 5, 6, 7, 8, 9, 10, 12, 13, 14] [0, 0, 0, 2071, 2, 2079, 2111, 2175, 2303, 2303, 2303, 18, 2559, 7167, 16383]) (.split 11 5 (.leaf [1, 6, 0, 3, 6, 3, 2, 0, 0, 0, 0, 6, 3, 0, 0] [2, 0, 1, 4, 3, 11, 5, 6, 7, 8, 9, 10, 12, 13, 14] [0, 0, 0, 23, 2, 2079, 2111, 2175, 2303, 2303, 2303, 31, 2559, 7167, 16383]) (.split 6 11 (.leaf [1, 6, 0, 3, 6, 3, 2, 0, 0, 0, 0, 6, 3, 0, 0] [2, 0, 1, 4, 3, 5, 6, 7, 8, 9, 10, 11, 12, 13, 14] [0, 0, 0, 23, 2, 31, 63, 127, 255, 255, 255, 127, 2559, 7167, 16383]) (.leaf [1, 6, 0, 3, 6, 3, 2, 0, 0, 0, 0, 6, 3, 0, 0] [2, 0, 1, 4, 3, 5, 11, 6, 7, 8, 9, 10, 12, 13, 14] [0, 0, 0, 23, 2, 31, 2111, 2175, 2303, 2303, 2303, 63, 2559, 7167, 16383])))) (.split 11 5 (.leaf [1, 6, 0, 3, 6, 3, 2, 0, 0, 0, 0, 6, 3, 0, 0] [2, 0, 1, 3, 4, 11, 5, 6, 7, 8, 9, 10, 12, 13, 14] [0, 0, 0, 7, 15, 2079, 2111, 2175, 2303, 2303, 2303, 31, 2559, 7167, 16383]) (.split 6 11 (.leaf [1, 6, 0, 3, 6, 3, 2, 0, 0, 0, 0, 6, 3, 0, 0] [2, 0, 1, 3, 4, 5, 6, 7, 8, 9, 10, 11, 12, 13, 14] [0, 0, 0, 7, 15, 31, 63, 127, 255, 255, 255, 127, 2559, 7167, 16383]) (.leaf [1, 6, 0, 3, 6, 3, 2, 0, 0, 0, 0, 6, 3, 0, 0] [2, 0, 1, 3, 4, 5, 11, 6, 7, 8, 9, 10, 12, 13, 14] [0, 0, 0, 7, 15, 31, 2111, 2175, 2303, 2303, 2303, 63, 2559, 7167, 16383])))) (.split 11 3 (.split 4 3 (.leaf [1, 6, 0, 3, 6, 3, 2, 0, 0, 0, 0, 6, 3, 0, 0] [2, 0, 1, 11, 4, 3, 5, 6, 7, 8, 9, 10, 12, 13, 14] [0, 0, 0, 2071, 2050, 2079, 2111, 2175, 2303, 2303, 2303, 2, 2559, 7167, 16383]) (.leaf [1, 6, 0, 3, 6, 3, 2, 0, 0, 0, 0, 6, 3, 0, 0] [2, 0, 1, 11, 3, 4, 5, 6, 7, 8, 9, 10, 12, 13, 14] [0, 0, 0, 2055, 2063, 2079, 2111, 2175, 2303, 2303, 2303, 2, 2559, 7167, 16383])) (.leaf [1, 6, 0, 3, 6, 3, 2, 0, 0, 0, 0, 6, 3, 0, 0] [2, 0, 1, 3, 11, 4, 5, 6, 7, 8, 9, 10, 12, 13, 14] [0, 0, 0, 7, 2063, 2079, 2111, 2175, 2303, 2303, 2303, 15, 2559, 7167, 16383]))) (.split 4 3 (.leaf [1, 6, 0, 3, 6, 3, 2, 0, 0, 0, 0, 6, 3, 0, 0] [2, 0, 11, 1, 4, 3, 5, 6, 7, 8, 9, 10, 12, 13, 14] [0, 2048, 0, 2071, 2050, 2079, 2111, 2175, 2303, 2303, 2303, 0, 2559, 7167, 16383]) (.leaf [1, 6, 0, 3, 6, 3, 2, 0, 0, 0, 0, 6, 3, 0, 0] [2, 0, 11, 1, 3, 4, 5, 6, 7, 8, 9, 10, 12, 13, 14] [0, 2048, 0, 2055, 2063, 2079, 2111, 2175, 2303, 2303, 2303, 0, 2559, 7167, 16383]))) (.split 4 11 (.split 1 11 (.split 11 3 (.leaf [1, 6, 0, 3, 6, 3, 2, 0, 0, 0, 0, 6, 3, 0, 0] [2, 0, 4, 1, 11, 3, 5, 6, 7, 8, 9, 10, 12, 13, 14] [0, 16, 0, 2071, 0, 2079, 2111, 2175, 2303, 2303, 2303, 18, 2559, 7167, 16383]) (.split 11 5 (.leaf [1, 6, 0, 3, 6, 3, 2, 0, 0, 0, 0, 6, 3, 0, 0] [2, 0, 4, 1, 3, 11, 5, 6, 7, 8, 9, 10, 12, 13, 14] [0, 16, 0, 23, 0, 2079, 2111, 2175, 2303, 2303, 2303, 31, 2559, 7167, 16383]) (.split 6 11 (.leaf [1, 6, 0, 3, 6, 3, 2, 0, 0, 0, 0, 6, 3, 0, 0] [2, 0, 4, 1, 3, 5, 6, 7, 8, 9, 10, 11, 12, 13, 14] [0, 16, 0, 23, 0, 31, 63, 127, 255, 255, 255, 127, 2559, 7167, 16383]) (.leaf [1, 6, 0, 3, 6, 3, 2, 0, 0, 0, 0, 6, 3, 0, 0] [2, 0, 4, 1, 3, 5, 11, 6, 7, 8, 9, 10, 12, 13, 14] [0, 16, 0, 23, 0, 31, 2111, 2175, 2303, 2303, 2303, 63, 2559, 7167, 16383])))) (.leaf [1, 6, 0, 3, 6, 3, 2, 0, 0, 0, 0, 6, 3, 0, 0] [2, 0, 4, 11, 1, 3, 5, 6, 7, 8, 9, 10, 12, 13, 14] [0, 2064, 0, 2071, 0, 2079, 2111, 2175, 2303, 2303, 2303, 16, 2559, 7167, 16383])) (.leaf [1, 6, 0, 3, 6, 3, 2, 0, 0, 0, 0, 6, 3, 0, 0] [2, 0, 11, 4, 1, 3, 5, 6, 7, 8, 9, 10, 12, 13, 14] [0, 2064, 0, 2071, 2048, 2079, 2111, 2175, 2303, 2303, 2303, 0, 2559, 7167, 16383]))) (.split 1 4 (.split 1 11 (.split 4 11 (.split 4 3 (.split 11 3 (.split 0 5 (.leaf [1, 6, 0, 3, 6, 3, 2, 0, 0, 0, 0, 6, 3, 0, 0] [2, 1, 4, 11, 3, 0, 5, 6, 7, 8, 9, 10, 12, 13, 14] [2078, 0, 0, 2070, 2, 2079, 2111, 2175, 2303, 2303, 2303, 18, 2559, 7167, 16383]) (.leaf [1, 6, 0, 3, 6, 3, 2, 0, 0, 0, 0, 6, 3, 0, 0] [2, 1, 4, 11, 3, 5, 0, 6, 7, 8, 9, 10, 12, 13, 14] [2110, 0, 0, 2070, 2, 2078, 2111, 2175, 2303, 2303, 2303, 18, 2559, 7167, 16383])) (.split 0 5 (.split 11 5 (.leaf [1, 6, 0, 3, 6, 3, 2, 0, 0, 0, 0, 6, 3, 0, 0] [2, 1, 4, 3, 0, 11, 5, 6, 7, 8, 9, 10, 12, 13, 14] [30, 0, 0, 22, 2, 2079, 2111, 2175, 2303, 2303, 2303, 30, 2559, 7167, 16383]) (.split 6 11 (.leaf [1, 6, 0, 3, 6, 3, 2, 0, 0, 0, 0, 6, 3, 0, 0] [2, 1, 4, 3, 0, 5, 6, 7, 8, 9, 10, 11, 12, 13, 14] [30, 0, 0, 22, 2, 31, 63, 127, 255, 255, 255, 127, 2559, 7167, 16383]) (.leaf [1, 6, 0, 3, 6, 3, 2, 0, 0, 0, 0, 6, 3, 0, 0] [2, 1, 4, 3, 0, 5, 11, 6, 7, 8, 9, 10, 12, 13, 14] [30, 0, 0, 22, 2, 31, 2111, 2175, 2303, 2303, 2303, 63, 2559, 7167, 16383]))) (.split 11 5 (.leaf [1, 6, 0, 3, 6, 3, 2, 0, 0, 0, 0, 6, 3, 0, 0] [2, 1, 4, 3, 11, 5, 0, 6, 7, 8, 9, 10, 12, 13, 14] [2110, 0, 0, 22, 2, 2078, 2111, 2175, 2303, 2303, 2303, 30, 2559, 7167, 16383]) (.split 6 11 (.leaf [1, 6, 0, 3, 6, 3, 2, 0, 0, 0, 0, 6, 3, 0, 0] [2, 1, 4, 3, 5, 0, 6, 7, 8, 9, 10, 11, 12, 13, 14] [62, 0, 0, 22, 2, 30, 63, 127, 255, 255, 255, 127, 2559, 7167, 16383]) (.leaf [1, 6, 0, 3, 6, 3, 2, 0, 0, 0, 0, 6, 3, 0, 0] [2, 1, 4, 3, 5, 0, 11, 6, 7, 8, 9, 10, 12, 13, 14] [62, 0, 0, 22, 2, 30, 2111, 2175, 2303, 2303, 2303, 62, 2559, 7167, 16383]))))) (.split 0 5 (.split 11 5 (.leaf [1, 6, 0, 3, 6, 3, 2, 0, 0, 0, 0, 6, 3, 0, 0] [2, 1, 3, 0, 4, 11, 5, 6, 7, 8, 9, 10, 12, 13, 14] [14, 0, 0, 6, 14, 2079, 2111, 2175, 2303, 2303, 2303, 30, 2559, 7167, 16383]) (.split 6 11 (.leaf [1, 6, 0, 3, 6, 3, 2, 0, 0, 0, 0, 6, 3, 0, 0] [2, 1, 3, 0, 4, 5, 6, 7, 8, 9, 10, 11, 12, 13, 14] [14, 0, 0, 6, 14, 31, 63, 127, 255, 255, 255, 127, 2559, 7167, 16383]) (.leaf [1, 6, 0, 3, 6, 3, 2, 0, 0, 0, 0, 6, 3, 0, 0] [2, 1, 3, 0, 4, 5, 11, 6, 7, 8, 9, 10, 12, 13, 14] [14, 0, 0, 6, 14, 31, 2111, 2175, 2303, 2303, 2303, 63, 2559, 7167, 16383]))) (.split 11 5 (.leaf [1, 6, 0, 3, 6, 3, 2, 0, 0, 0, 0, 6, 3, 0, 0] [2, 1, 3, 4, 11, 5, 0, 6, 7, 8, 9, 10, 12, 13, 14] [2110, 0, 0, 6, 14, 2078, 2111, 2175, 2303, 2303, 2303, 30, 2559, 7167, 16383]) (.split 6 11 (.leaf [1, 6, 0, 3, 6, 3, 2, 0, 0, 0, 0, 6, 3, 0, 0] [2, 1, 3, 4, 5, 0, 6, 7, 8, 9, 10, 11, 12, 13, 14] [62, 0, 0, 6, 14, 30, 63, 127, 255, 255, 255, 127, 2559, 7167, 16383]) (.leaf [1, 6, 0, 3, 6, 3, 2, 0, 0, 0, 0, 6, 3, 0, 0] [2, 1, 3, 4, 5, 0, 11, 6, 7, 8, 9, 10, 12, 13, 14] [62, 0, 0, 6, 14, 30, 2111, 2175, 2303, 2303, 2303, 62, 2559, 7167, 16383]))))) (.split 11 3 (.split 4 3 (.split 0 5 (.leaf [1, 6, 0, 3, 6, 3, 2, 0, 0, 0, 0, 6, 3, 0, 0] [2, 1, 11, 4, 3, 0, 5, 6, 7, 8, 9, 10, 12, 13, 14] [2078, 0, 0, 2070, 2050, 2079, 2111, 2175, 2303, 2303, 2303, 2, 2559, 7167, 16383]) (.leaf [1, 6, 0, 3, 6, 3, 2, 0, 0, 0, 0, 6, 3, 0, 0] [2, 1, 11, 4, 3, 5, 0, 6, 7, 8, 9, 10, 12, 13, 14] [2110, 0, 0, 2070, 2050, 2078, 2111, 2175, 2303, 2303, 2303, 2, 2559, 7167, 16383])) (.split 0 5 (.leaf [1, 6, 0, 3, 6, 3, 2, 0, 0, 0, 0, 6, 3, 0, 0] [2, 1, 11, 3, 0, 4, 5, 6, 7, 8, 9, 10, 12, 13, 14] [2062, 0, 0, 2054, 2062, 2079, 2111, 2175, 2303, 2303, 2303, 2, 2559, 7167, 16383]) (.leaf [1, 6, 0, 3, 6, 3, 2, 0, 0, 0, 0, 6, 3, 0, 0] [2, 1, 11, 3, 4, 5, 0, 6, 7, 8, 9, 10, 12, 13, 14] [2110, 0, 0, 2054, 2062, 2078, 2111, 2175, 2303, 2303, 2303, 2, 2559, 7167, 16383]))) (.split 0 5 (.leaf [1, 6, 0, 3, 6, 3, 2, 0, 0, 0, 0, 6, 3, 0, 0] [2, 1, 3, 0, 11, 4, 5, 6, 7, 8, 9, 10, 12, 13, 14] [14, 0, 0, 6, 2062, 2079, 2111, 2175, 2303, 2303, 2303, 14, 2559, 7167, 16383]) (.leaf [1, 6, 0, 3, 6, 3, 2, 0, 0, 0, 0, 6, 3, 0, 0] [2, 1, 3, 11, 4, 5, 0, 6, 7, 8, 9, 10, 12, 13, 14] [2110, 0, 0, 6, 2062, 2078, 2111, 2175, 2303, 2303, 2303, 14, 2559, 7167, 16383])))) (.split 4 3 (.split 0 5 (.leaf [1, 6, 0, 3, 6, 3, 2, 0, 0, 0, 0, 6, 3, 0, 0] [2, 11, 1, 4, 3, 0, 5, 6, 7, 8, 9, 10, 12, 13, 14] [2078, 2048, 0, 2070, 2050, 2079, 2111, 2175, 2303, 2303, 2303, 0, 2559, 7167, 16383]) (.leaf [1, 6, 0, 3, 6, 3, 2, 0, 0, 0, 0, 6, 3, 0, 0] [2, 11, 1, 4, 3, 5, 0, 6, 7, 8, 9, 10, 12, 13, 14] [2110, 2048, 0, 2070, 2050, 2078, 2111, 2175, 2303, 2303, 2303, 0, 2559, 7167, 16383])) (.split 0 5 (.leaf [1, 6, 0, 3, 6, 3, 2, 0, 0, 0, 0, 6, 3, 0, 0] [2, 11, 1, 3, 0, 4, 5, 6, 7, 8, 9, 10, 12, 13, 14] [2062, 2048, 0, 2054, 2062, 2079, 2111, 2175, 2303, 2303, 2303, 0, 2559, 7167, 16383]) (.leaf [1, 6, 0, 3, 6, 3, 2, 0, 0, 0, 0, 6, 3, 0, 0] [2, 11, 1, 3, 4, 5, 0, 6, 7, 8, 9, 10, 12, 13, 14] [2110, 2048, 0, 2054, 2062, 2078, 2111, 2175, 2303, 2303, 2303, 0, 2559, 7167, 16383])))) (.split 4 11 (.split 1 11 (.split 11 3 (.split 0 5 (.leaf [1, 6, 0, 3, 6, 3, 2, 0, 0, 0, 0, 6, 3, 0, 0] [2, 4, 1, 11, 3, 0, 5, 6, 7, 8, 9, 10, 12, 13, 14] [2078, 16, 0, 2070, 0, 2079, 2111, 2175, 2303, 2303, 2303, 18, 2559, 7167, 16383]) (.leaf [1, 6, 0, 3, 6, 3, 2, 0, 0, 0, 0, 6, 3, 0, 0] [2, 4, 1, 11, 3, 5, 0, 6, 7, 8, 9, 10, 12, 13, 14] [2110, 16, 0, 2070, 0, 2078, 2111, 2175, 2303, 2303, 2303, 18, 2559, 7167, 16383])) (.split 0 5 (.split 11 5 (.leaf [1, 6, 0, 3, 6, 3, 2, 0, 0, 0, 0, 6, 3, 0, 0] [2, 4, 1, 3, 0, 11, 5, 6, 7, 8, 9, 10, 12, 13, 14] [30, 16, 0, 22, 0, 2079, 2111, 2175, 2303, 2303, 2303, 30, 2559, 7167, 16383]) (.split 6 11 (.leaf [1, 6, 0, 3, 6, 3, 2, 0, 0, 0, 0, 6, 3, 0, 0] [2, 4, 1, 3, 0, 5, 6, 7, 8, 9, 10, 11, 12, 13, 14] [30, 16, 0, 22, 0, 31, 63, 127, 255, 255, 255, 127, 2559, 7167, 16383]) (.leaf [1, 6, 0, 3, 6, 3, 2, 0, 0, 0, 0, 6, 3, 0, 0] [2, 4, 1, 3, 0, 5, 11, 6, 7, 8, 9, 10, 12, 13, 14] [30, 16, 0, 22, 0, 31, 2111, 2175, 2303, 2303, 2303, 63, 2559, 7167, 16383]))) (.split 11 5 (.leaf [1, 6, 0, 3, 6, 3, 2, 0, 0, 0, 0, 6, 3, 0, 0] [2, 4, 1, 3, 11, 5, 0, 6, 7, 8, 9, 10, 12, 13, 14] [2110, 16, 0, 22, 0, 2078, 2111, 2175, 2303, 2303, 2303, 30, 2559, 7167, 16383]) (.split 6 11 (.leaf [1, 6, 0, 3, 6, 3, 2, 0, 0, 0, 0, 6, 3, 0, 0] [2, 4, 1, 3, 5, 0, 6, 7, 8, 9, 10, 11, 12, 13, 14] [62, 16, 0, 22, 0, 30, 63, 127, 255, 255, 255, 127, 2559, 7167, 16383]) (.leaf [1, 6, 0, 3, 6, 3, 2, 0, 0, 0, 0, 6, 3, 0, 0] [2, 4, 1, 3, 5, 0, 11, 6, 7, 8, 9, 10, 12, 13, 14] [62, 16, 0, 22, 0, 30, 2111, 2175, 2303, 2303, 2303, 62, 2559, 7167, 16383]))))) (.split 0 5 (.leaf [1, 6, 0, 3, 6, 3, 2, 0, 0, 0, 0, 6, 3, 0, 0] [2, 4, 11, 1, 3, 0, 5, 6, 7, 8, 9, 10, 12, 13, 14] [2078, 2064, 0, 2070, 0, 2079, 2111, 2175, 2303, 2303, 2303, 16, 2559, 7167, 16383]) (.leaf [1, 6, 0, 3, 6, 3, 2, 0, 0, 0, 0, 6, 3, 0, 0] [2, 4, 11, 1, 3, 5, 0, 6, 7, 8, 9, 10, 12, 13, 14] [2110, 2064, 0, 2070, 0, 2078, 2111, 2175, 2303, 2303, 2303, 16, 2559, 7167, 16383]))) (.split 0 5 (.leaf [1, 6, 0, 3, 6, 3, 2, 0, 0, 0, 0, 6, 3, 0, 0] [2, 11, 4, 1, 3, 0, 5, 6, 7, 8, 9, 10, 12, 13, 14] [2078, 2064, 0, 2070, 2048, 2079, 2111, 2175, 2303, 2303, 2303, 0, 2559, 7167, 16383]) (.leaf [1, 6, 0, 3, 6, 3, 2, 0, 0, 0, 0, 6, 3, 0, 0] [2, 11, 4, 1, 3, 5, 0, 6, 7, 8, 9, 10, 12, 13, 14] [2110, 2064, 0, 2070, 2048, 2078, 2111, 2175, 2303, 2303, 2303, 0, 2559, 7167, 16383])))))]
def G_qft : List FuncId := [30, 10, 38, 39, 40, 41, 42, 43, 44, 36, 28, 45]
theorem cok_qft : codeOk Tryz.prog G_qft pl_qft (Tryz.f7.body.getD .skip) = true := by kernel_rfl
theorem run_qft (vs : Array Value) (w : World) : (callFunc 7 vs).run C1.P w = .ok (.enter 7 vs) w := by kernel_rfl
set_option maxHeartbeats 16000000 in
theorem qforms_pure (labels : List Int) (edges : List Edg) (l : List Int) : Sx.Pure C3 7 [dIs labels, dEs edges, dIs l] (fun y => y = .bool true) := by
  have hdl : (labels.map dI).length = labels.length := List.length_map _
  have hdL : (l.map dI).length = l.length := List.length_map _
  have hal := qalive_pure
  have hmd := Pure.up3 (made_pure labels edges)
  refine pure_of c3_ok (pl := pl_qft) (G := G_qft) Tryz.func7 rfl Tryz.ntmps7 run_qft cok_qft (by simp) ?_
  rcases made_case labels edges with e | ⟨G, e, hG, hn, hm, hGe, _, hlen⟩
  · rw [e] at hmd
    (conv => whnf)
    (repeat' ((first | refine ord_ok (by (conv => whnf); (repeat' ((first | refine call_eq rfl hal ?_ | refine call_eq rfl hmd ?_ | refine ify ?_ | refine ifn ?_ | refine i6 ?_ | refine ati ?_ | refine mst ?_ | refine rmd ?_ | refine ibo (fun _ => ?_) (fun _ => ?_)) <;> conv => whnf)); (all_goals (repeat' (first | exact trivial | exact rfl | refine And.intro ?_ ?_)))) ?_ | refine call_eq rfl hal ?_ | refine call_eq rfl hmd ?_ | refine ify ?_ | refine ifn ?_ | refine i6 ?_ | refine ati ?_ | refine mst ?_ | refine rmd ?_ | refine ibo (fun _ => ?_) (fun _ => ?_)) <;> conv => whnf))
    exact rfl
  rw [e] at hmd
  by_cases h7 : 7 < labels.length
  · (conv => whnf)
    (repeat' ((first | refine ord_ok (by (conv => whnf); (repeat' ((first | refine call_eq rfl hal ?_ | refine call_eq rfl hmd ?_ | refine ify ?_ | refine ifn ?_ | refine i6 ?_ | refine ati ?_ | refine mst ?_ | refine rmd ?_ | refine ibo (fun _ => ?_) (fun _ => ?_)) <;> conv => whnf)); (all_goals (repeat' (first | exact trivial | exact rfl | refine And.intro ?_ ?_)))) ?_ | refine call_eq rfl hal ?_ | refine call_eq rfl hmd ?_ | refine ify ?_ | refine ifn ?_ | refine i6 ?_ | refine ati ?_ | refine mst ?_ | refine rmd ?_ | refine ibo (fun _ => ?_) (fun _ => ?_)) <;> conv => whnf))
    exact rfl
  by_cases h0 : l.length = 0
  · (conv => whnf)
    (repeat' ((first | refine ord_ok (by (conv => whnf); (repeat' ((first | refine call_eq rfl hal ?_ | refine call_eq rfl hmd ?_ | refine ify ?_ | refine ifn ?_ | refine i6 ?_ | refine ati ?_ | refine mst ?_ | refine rmd ?_ | refine ibo (fun _ => ?_) (fun _ => ?_)) <;> conv => whnf)); (all_goals (repeat' (first | exact trivial | exact rfl | refine And.intro ?_ ?_)))) ?_ | refine call_eq rfl hal ?_ | refine call_eq rfl hmd ?_ | refine ify ?_ | refine ifn ?_ | refine i6 ?_ | refine ati ?_ | refine mst ?_ | refine rmd ?_ | refine ibo (fun _ => ?_) (fun _ => ?_)) <;> conv => whnf))
    exact rfl
  by_cases h4 : 4 < l.length
  · (conv => whnf)
    (repeat' ((first | refine ord_ok (by (conv => whnf); (repeat' ((first | refine call_eq rfl hal ?_ | refine call_eq rfl hmd ?_ | refine ify ?_ | refine ifn ?_ | refine i6 ?_ | refine ati ?_ | refine mst ?_ | refine rmd ?_ | refine ibo (fun _ => ?_) (fun _ => ?_)) <;> conv => whnf)); (all_goals (repeat' (first | exact trivial | exact rfl | refine And.intro ?_ ?_)))) ?_ | refine call_eq rfl hal ?_ | refine call_eq rfl hmd ?_ | refine ify ?_ | refine ifn ?_ | refine i6 ?_ | refine ati ?_ | refine mst ?_ | refine rmd ?_ | refine ibo (fun _ => ?_) (fun _ => ?_)) <;> conv => whnf))
    exact rfl
  have hvl := Pure.up3 (list_pure G hG l (by omega))
  cases hls : listV G l with
  | none =>
    rw [hls] at hvl
    (conv => whnf)
    (repeat' ((first | refine ord_ok (by (conv => whnf); (repeat' ((first | refine call_eq rfl hal ?_ | refine call_eq rfl hmd ?_ | refine call_eq rfl hvl ?_ | refine ify ?_ | refine ifn ?_ | refine i6 ?_ | refine ati ?_ | refine mst ?_ | refine rmd ?_ | refine ibo (fun _ => ?_) (fun _ => ?_)) <;> conv => whnf)); (all_goals (repeat' (first | exact trivial | exact rfl | refine And.intro ?_ ?_)))) ?_ | refine call_eq rfl hal ?_ | refine call_eq rfl hmd ?_ | refine call_eq rfl hvl ?_ | refine ify ?_ | refine ifn ?_ | refine i6 ?_ | refine ati ?_ | refine mst ?_ | refine rmd ?_ | refine ibo (fun _ => ?_) (fun _ => ?_)) <;> conv => whnf))
    exact rfl
  | some s =>
  rw [hls] at hvl
  have hds : (s.map dI).length = s.length := List.length_map _
  by_cases hsl : s.length ≠ l.length
  · (conv => whnf)
    (repeat' ((first | refine ord_ok (by (conv => whnf); (repeat' ((first | refine call_eq rfl hal ?_ | refine call_eq rfl hmd ?_ | refine call_eq rfl hvl ?_ | refine ify ?_ | refine ifn ?_ | refine i6 ?_ | refine ati ?_ | refine mst ?_ | refine rmd ?_ | refine ibo (fun _ => ?_) (fun _ => ?_)) <;> conv => whnf)); (all_goals (repeat' (first | exact trivial | exact rfl | refine And.intro ?_ ?_)))) ?_ | refine call_eq rfl hal ?_ | refine call_eq rfl hmd ?_ | refine call_eq rfl hvl ?_ | refine ify ?_ | refine ifn ?_ | refine i6 ?_ | refine ati ?_ | refine mst ?_ | refine rmd ?_ | refine ibo (fun _ => ?_) (fun _ => ?_)) <;> conv => whnf))
    exact rfl
  have hsl := Decidable.not_not.1 hsl
  have hlk := Pure.up3 (r10linked_pure G l)
  cases hl : linkedV G l with
  | false =>
    rw [hl] at hlk
    (conv => whnf)
    (repeat' ((first | refine ord_ok (by (conv => whnf); (repeat' ((first | refine call_eq rfl hal ?_ | refine call_eq rfl hmd ?_ | refine call_eq rfl hvl ?_ | refine call_eq rfl hlk ?_ | refine ify ?_ | refine ifn ?_ | refine i6 ?_ | refine ati ?_ | refine mst ?_ | refine rmd ?_ | refine ibo (fun _ => ?_) (fun _ => ?_)) <;> conv => whnf)); (all_goals (repeat' (first | exact trivial | exact rfl | refine And.intro ?_ ?_)))) ?_ | refine call_eq rfl hal ?_ | refine call_eq rfl hmd ?_ | refine call_eq rfl hvl ?_ | refine call_eq rfl hlk ?_ | refine ify ?_ | refine ifn ?_ | refine i6 ?_ | refine ati ?_ | refine mst ?_ | refine rmd ?_ | refine ibo (fun _ => ?_) (fun _ => ?_)) <;> conv => whnf))
    exact rfl
  | true =>
  rw [hl] at hlk
  obtain ⟨hsp, hsc⟩ := listV_spec hls
  have hnd := link_nodup hl
  have hrg := link_range hl
  have hsL := canon_linked hG hsc
  obtain ⟨n, hnn⟩ : ∃ n, l.length = n := ⟨_, rfl⟩
  obtain ⟨o, ho, hos⟩ := perm_order hnd (hsp.trans (set_perm hnd)) hnn
  have v1 := Pure.up3 (qvertG_pure G hG l (by omega))
  rw [if_neg (by omega), if_neg (by rw [hl]; decide)] at v1
  have v2 := Pure.up3 (qvertG_pure G hG s (by omega))
  rw [if_neg (by omega), if_neg (by rw [hsL]; decide)] at v2
  have hq : vertP G s = turnP (vertP G l) o := by rw [← hos]; exact vertP_turn hG ho hnn
  have hp := vertP_err hG (l := l) (by omega) hrg
  have hpo := vertP_ok G hnn
  have hpl : (vertP G l).labels.length = l.length := by unfold vertP; rw [List.length_map]
  have hI := vertP_img hG hnd hrg
  have hqe : pErr (vertP G s) = none := vertP_err hG (l := s) (by omega) (link_range hsL)
  have hE := pt_edges hp
  have hEq := pt_edges hqe
  have f1 := Pure.up3 (qform_pure hp l hpl.symm)
  have f2 := Pure.up3 (qform_long hp (l ++ [0]) (by rw [List.length_append, hpl]; simp))
  obtain ⟨_, hB, eF, _⟩ := form_spec hpo
  have hF : pErr (formP (vertP G l)) = none := by rw [eF]; exact pErr_turn hp (by rw [hpl, hnn]; exact hB)
  have hFF : formP (formP (vertP G l)) = formP (vertP G l) := by
    have := form_turn hpo hB
    rwa [← eF] at this
  have hEF := pt_edges hF
  have hFl : (formP (vertP G l)).labels.length = l.length := by rw [eF, turnP_len, hpl]
  have a1 := Pure.up3 (alike_pure hp hqe (by omega) (by omega))
  rw [decide_eq_true (by rw [hq, form_turn hpo ho])] at a1
  have a2 := Pure.up3 (is_pure hF (by omega))
  rw [decide_eq_true hFF] at a2
  have o1 := Pure.up3 (of06_pure (mvI (byP (vertP G l)) l) (by rw [mvI_len]; omega))
  have o2 := Pure.up3 (of06_pure l (by omega))
  rw [mvI_set hB hnn] at o1
  have sm := Pure.up3 (same_pure (setOf l) (setOf l))
  rw [decide_eq_true rfl] at sm
  have images_at : ∀ {p : Pt} (whole : Bool), pErr p = none → p.labels.length = l.length → Sx.Pure C3 28 [dG G, dPt p, .bool whole] (fun y => y = dLL (imgP G p whole)) := by
    intro p whole hp hpl
    have hEp := pt_edges hp
    have him := Pure.up3 (qimages_pure G hG p whole hn (by omega) (by omega))
    have ei : imagesY G p whole = dLL (imgP G p whole) := by
      unfold imagesY
      rw [if_pos ⟨hp, fun e => by rw [e] at hpl; simp at hpl; omega⟩]; rfl
    rwa [ei] at him
  have i1 := images_at true hp hpl
  have i2 := images_at true hF hFl
  have i3 := images_at false hp hpl
  have m1 : (imgP G (vertP G l) true).length ≤ 100000000 := Nat.le_trans (imgs_len _ _) (pow_le8 hn (by omega))
  have m3 : (imgP G (vertP G l) false).length ≤ 100000000 := Nat.le_trans (imgs_len _ _) (pow_le8 hn (by omega))
  have k1 := mem_imgP.2 hI
  have k2 : mvI (byP (vertP G l)) l ∈ imgP G (formP (vertP G l)) true := by rw [eF]; exact mem_imgP.2 (img_turn hB hpo hI)
  have k3 : (imgP G (formP (vertP G l)) true).length = (imgP G (vertP G l) true).length := by rw [eF]; exact imgP_turn hB hpo
  have k4 := imgP_le (G := G) (p := vertP G l) (q := vertP G l) (w := true) (v := false) fun L h => img_loose h
  obtain ⟨sb, hbad⟩ := qform_bad
  have hbad := Pure.up3 hbad
  have hbad : Sx.Pure C3 41 [.agg [dIs [-1], .nils], dIs [0]] (fun y => y = .tuple [dP0, .nils, dF 3 0 sb]) := Sx.Pure.lax (.cons (.agg (.cons (.refl _) (.cons (.nils 2) .nil))) (.cons (.refl _) .nil)) hbad
  have c1 := Pure.up3 (code_pure 1 0 vertsS)
  have c3 := Pure.up3 (code_pure 3 0 sb)
  generalize imgP G (vertP G l) true = A at i1 m1 k1 k3 k4
  generalize imgP G (formP (vertP G l)) true = B at i2 k2 k3
  generalize imgP G (vertP G l) false = D at i3 m3 k4
  generalize mvI (byP (vertP G l)) l = v at f1 o1 k2
  generalize formP (vertP G l) = F at f1 i2 a2
  generalize vertP G s = q at v2 a1
  generalize vertP G l = p at v1 f1 f2 i1 i3 a1
  have lA : (A.map dIs).length = A.length := List.length_map _
  have lB : (B.map dIs).length = B.length := List.length_map _
  have lD : (D.map dIs).length = D.length := List.length_map _
  (conv => whnf)
  (repeat' ((first | refine ord_ok (by (conv => whnf); (repeat' ((first | refine call_eq rfl hal ?_ | refine call_eq rfl hmd ?_ | refine call_eq rfl hvl ?_ | refine call_eq rfl hlk ?_ | refine call_eq rfl v1 ?_ | refine call_eq rfl v2 ?_ | refine call_eq rfl f1 ?_ | refine call_eq rfl a1 ?_ | refine call_eq rfl a2 ?_ | refine call_eq rfl o1 ?_ | refine call_eq rfl o2 ?_ | refine call_eq rfl sm ?_ | refine call_eq rfl i1 ?_ | refine call_eq rfl i2 ?_ | refine ify ?_ | refine ifn ?_ | refine i6 ?_ | refine ati ?_ | refine mst ?_ | refine rmd ?_ | refine ibo (fun _ => ?_) (fun _ => ?_)) <;> conv => whnf)); (all_goals (repeat' (first | exact trivial | exact rfl | refine And.intro ?_ ?_)))) ?_ | refine call_eq rfl hal ?_ | refine call_eq rfl hmd ?_ | refine call_eq rfl hvl ?_ | refine call_eq rfl hlk ?_ | refine call_eq rfl v1 ?_ | refine call_eq rfl v2 ?_ | refine call_eq rfl f1 ?_ | refine call_eq rfl a1 ?_ | refine call_eq rfl a2 ?_ | refine call_eq rfl o1 ?_ | refine call_eq rfl o2 ?_ | refine call_eq rfl sm ?_ | refine call_eq rfl i1 ?_ | refine call_eq rfl i2 ?_ | refine ify ?_ | refine ifn ?_ | refine i6 ?_ | refine ati ?_ | refine mst ?_ | refine rmd ?_ | refine ibo (fun _ => ?_) (fun _ => ?_)) <;> conv => whnf))
  refine loop_lo (ι := Nat) (fun i => i ≤ A.length) (fun i => [(23, .d (.int .i64 i)), (21, .d (.bool ((A.take i).any fun y => decide (y = l)))), (22, .d (.bool false)), (20, .d (dLL B)), (19, .d (dLL A)), (17, .d (dIs v)), (12, .own 12), (7, .d (dG G)), (2, .d (dIs l))]) (fun _ => [(12, .cells 38 [.d (dIs p.labels), .d (dEs p.edges)])]) (fun i => A.length - i) 0 (fun _ => rfl) (Nat.zero_le _) (.refl _ _) ⟨rfl, rfl, rfl, rfl, rfl, rfl, rfl, rfl, rfl, trivial⟩ ⟨rfl, trivial⟩ ?_
  intro i hi
  refine sxCode_sound c3_ok (G := G_qft) (pl := pl_qft) _ _ _ _ (by kernel_rfl) ?_
  by_cases hil : i < A.length
  · have hx := List.getElem?_eq_getElem hil
    generalize A[i] = x at hx
    have hxd : (A.map dIs)[i]? = some (dIs x) := by rw [List.getElem?_map, hx]; rfl
    have hsx := Pure.up3 (same_pure x l)
    have hst := any_snoc (l := l) hx
    cases hw : (A.take i).any fun y => decide (y = l) with
    | true =>
      rw [hw, Bool.true_or] at hst
      (conv => whnf)
      (repeat' ((first | refine ord_ok (by (conv => whnf); (repeat' ((first | refine at_da hxd rfl ?_ | refine call_eq rfl hsx ?_ | refine ify ?_ | refine ifn ?_ | refine i6 ?_ | refine ati ?_ | refine mst ?_ | refine rmd ?_ | refine ibo (fun _ => ?_) (fun _ => ?_)) <;> conv => whnf)); (all_goals (repeat' (first | exact trivial | exact rfl | refine And.intro ?_ ?_)))) ?_ | refine at_da hxd rfl ?_ | refine call_eq rfl hsx ?_ | refine ify ?_ | refine ifn ?_ | refine i6 ?_ | refine ati ?_ | refine mst ?_ | refine rmd ?_ | refine ibo (fun _ => ?_) (fun _ => ?_)) <;> conv => whnf))
      exact ⟨i + 1, _, _, hil, .refl _ _, ⟨rfl, by rw [hst]; rfl, rfl, rfl, rfl, rfl, rfl, rfl, rfl, trivial⟩, ⟨rfl, trivial⟩, by omega⟩
    | false =>
      rw [hw, Bool.false_or] at hst
      (conv => whnf)
      (repeat' ((first | refine ord_ok (by (conv => whnf); (repeat' ((first | refine at_da hxd rfl ?_ | refine call_eq rfl hsx ?_ | refine ify ?_ | refine ifn ?_ | refine i6 ?_ | refine ati ?_ | refine mst ?_ | refine rmd ?_ | refine ibo (fun _ => ?_) (fun _ => ?_)) <;> conv => whnf)); (all_goals (repeat' (first | exact trivial | exact rfl | refine And.intro ?_ ?_)))) ?_ | refine at_da hxd rfl ?_ | refine call_eq rfl hsx ?_ | refine ify ?_ | refine ifn ?_ | refine i6 ?_ | refine ati ?_ | refine mst ?_ | refine rmd ?_ | refine ibo (fun _ => ?_) (fun _ => ?_)) <;> conv => whnf))
      exact ⟨i + 1, _, _, hil, .refl _ _, ⟨rfl, by rw [hst]; rfl, rfl, rfl, rfl, rfl, rfl, rfl, rfl, trivial⟩, ⟨rfl, trivial⟩, by omega⟩
  · rw [List.take_of_length_le (show A.length ≤ i by omega), any_mem k1]
    ((conv => whnf); repeat' ((first | refine odw ?_ | refine ify ?_ | refine ifn ?_ | refine i6 ?_ | refine ati ?_ | refine mst ?_ | refine rmd ?_ | refine ibo (fun _ => ?_) (fun _ => ?_)) <;> conv => whnf))
    refine loop_lo (ι := Nat) (fun i => i ≤ B.length) (fun i => [(24, .d (.int .i64 i)), (22, .d (.bool ((B.take i).any fun y => decide (y = v)))), (21, .d (.bool true)), (20, .d (dLL B)), (19, .d (dLL A)), (17, .d (dIs v)), (12, .own 12), (7, .d (dG G)), (2, .d (dIs l))]) (fun _ => [(12, .cells 38 [.d (dIs p.labels), .d (dEs p.edges)])]) (fun i => B.length - i) 0 (fun _ => rfl) (Nat.zero_le _) (.refl _ _) ⟨rfl, rfl, rfl, rfl, rfl, rfl, rfl, rfl, rfl, trivial⟩ ⟨rfl, trivial⟩ ?_
    intro j hj
    refine sxCode_sound c3_ok (G := G_qft) (pl := pl_qft) _ _ _ _ (by kernel_rfl) ?_
    by_cases hjl : j < B.length
    · have hx := List.getElem?_eq_getElem hjl
      generalize B[j] = x at hx
      have hxd : (B.map dIs)[j]? = some (dIs x) := by rw [List.getElem?_map, hx]; rfl
      have hsx := Pure.up3 (same_pure x v)
      have hst := any_snoc (l := v) hx
      cases hw : (B.take j).any fun y => decide (y = v) with
      | true =>
        rw [hw, Bool.true_or] at hst
        (conv => whnf)
        (repeat' ((first | refine ord_ok (by (conv => whnf); (repeat' ((first | refine at_da hxd rfl ?_ | refine call_eq rfl hsx ?_ | refine ify ?_ | refine ifn ?_ | refine i6 ?_ | refine ati ?_ | refine mst ?_ | refine rmd ?_ | refine ibo (fun _ => ?_) (fun _ => ?_)) <;> conv => whnf)); (all_goals (repeat' (first | exact trivial | exact rfl | refine And.intro ?_ ?_)))) ?_ | refine at_da hxd rfl ?_ | refine call_eq rfl hsx ?_ | refine ify ?_ | refine ifn ?_ | refine i6 ?_ | refine ati ?_ | refine mst ?_ | refine rmd ?_ | refine ibo (fun _ => ?_) (fun _ => ?_)) <;> conv => whnf))
        exact ⟨j + 1, _, _, hjl, .refl _ _, ⟨rfl, by rw [hst]; rfl, rfl, rfl, rfl, rfl, rfl, rfl, rfl, trivial⟩, ⟨rfl, trivial⟩, by omega⟩
      | false =>
        rw [hw, Bool.false_or] at hst
        (conv => whnf)
        (repeat' ((first | refine ord_ok (by (conv => whnf); (repeat' ((first | refine at_da hxd rfl ?_ | refine call_eq rfl hsx ?_ | refine ify ?_ | refine ifn ?_ | refine i6 ?_ | refine ati ?_ | refine mst ?_ | refine rmd ?_ | refine ibo (fun _ => ?_) (fun _ => ?_)) <;> conv => whnf)); (all_goals (repeat' (first | exact trivial | exact rfl | refine And.intro ?_ ?_)))) ?_ | refine at_da hxd rfl ?_ | refine call_eq rfl hsx ?_ | refine ify ?_ | refine ifn ?_ | refine i6 ?_ | refine ati ?_ | refine mst ?_ | refine rmd ?_ | refine ibo (fun _ => ?_) (fun _ => ?_)) <;> conv => whnf))
        exact ⟨j + 1, _, _, hjl, .refl _ _, ⟨rfl, by rw [hst]; rfl, rfl, rfl, rfl, rfl, rfl, rfl, rfl, trivial⟩, ⟨rfl, trivial⟩, by omega⟩
    · rw [List.take_of_length_le (show B.length ≤ j by omega), any_mem k2]
      have f2 : Sx.Pure C3 41 [dPt p, .list 1 (([] ++ l.map dI) ++ [.int .i64 0])] (fun y => y = .tuple [dP0, .nils, dF 1 0 vertsS]) := by
        have : dIs (l ++ [0]) = .list 1 (([] ++ l.map dI) ++ [.int .i64 0]) := by simp [dIs, dI]
        rw [← this]; exact f2
      (conv => whnf)
      (repeat' ((first | refine ord_ok (by (conv => whnf); (repeat' ((first | refine call_frz 164 rfl ?_ | refine call_eq rfl f2 ?_ | refine call_frz 174 rfl ?_ | refine call_frz 176 rfl ?_ | refine call_agg rfl ?_ | refine call_eq (xs := [.agg [dIs [-1], .nils], dIs [0]]) rfl hbad ?_ | refine call_eq rfl i3 ?_ | refine call_eq rfl c1 ?_ | refine call_eq rfl c3 ?_ | refine ify ?_ | refine ifn ?_ | refine i6 ?_ | refine ati ?_ | refine mst ?_ | refine rmd ?_ | refine ibo (fun _ => ?_) (fun _ => ?_)) <;> conv => whnf)); (all_goals (repeat' (first | exact trivial | exact rfl | refine And.intro ?_ ?_)))) ?_ | refine call_frz 164 rfl ?_ | refine call_eq rfl f2 ?_ | refine call_frz 174 rfl ?_ | refine call_frz 176 rfl ?_ | refine call_agg rfl ?_ | refine call_eq (xs := [.agg [dIs [-1], .nils], dIs [0]]) rfl hbad ?_ | refine call_eq rfl i3 ?_ | refine call_eq rfl c1 ?_ | refine call_eq rfl c3 ?_ | refine ify ?_ | refine ifn ?_ | refine i6 ?_ | refine ati ?_ | refine mst ?_ | refine rmd ?_ | refine ibo (fun _ => ?_) (fun _ => ?_)) <;> conv => whnf))
      exact rfl
end Go.Proofs.YteigfapjiekdnaaGreatDoor
end

section
/- What the rows give (quick): the variables, the arguments' elements, a world for the witness. -/
namespace Go.Proofs.YteigfapjiekdnaaGreatDoor
open Go.ChangeShapes Go.WideShapes Go.ChangeAt Go.RowKit Go.Reg Go.Gr Go.Sx Go.ChangeMaps

theorem own : ownKnob Tryz.prog.godebug = none := by kernel_rfl
theorem laidOut : laidOutB Tryz.prog = true := by kernel_rfl
theorem gEt : Tryz.prog.globalNamed "errors.errorType" = some 0 := by kernel_rfl
theorem gRt : (Tryz.prog.cutTypes.find? (·.1 == "internal/reflectlite.rtype")).map (·.2) = some 234 := by kernel_rfl
theorem oneRow : ((List.range Tryz.prog.types.size).filter fun t => Tryz.prog.rowNamed t [101, 114, 114, 111, 114]) = [33] := by kernel_rfl
/-- all that is laid -/
abbrev laidAll : List (String × DataW Unit) := Rows.quickCountsRow.laid
abbrev laidThree : List (String × DataW Unit) := [("math/bits.deBruijn32tab", Rows.laid_math_bits_deBruijn32tab), ("math/bits.deBruijn64tab", Rows.laid_math_bits_deBruijn64tab), ("internal/strconv.uint64pow10", Rows.laid_internal_strconv_uint64pow10)]
theorem laid_parts {W : World} (h : laidMetH Tryz.prog laidAll W) : laidMet Tryz.prog laidThree W ∧ handlesMet Tryz.prog [("errors.errorType", Rows.laid_errors_errorType)] W := h

theorem var_exact {P : Program} {w : World} {name : String} {g : Nat} {cs : Array Value} (h : w.var? P name = some cs) (hg : P.globalNamed name = some g) : ∃ t fr, w.heap[g]? = some (.cells cs t fr) := by
  unfold World.var? at h
  rw [hg, Option.bind_some] at h
  cases hh : w.heap[g]? with
  | none => rw [hh] at h; cases h
  | some o =>
    rw [hh] at h
    cases o with
    | cells cs' t fr => simp only [Option.some.injEq] at h; subst h; exact ⟨t, fr, rfl⟩
    | _ => cases h
theorem errV_of_laid {W : World} (h : laidMetH Tryz.prog laidAll W) : ∃ t fr, W.heap[0]? = some (.cells #[.iface 234 (.agg #[.pointer (some ⟨5, 33, none⟩)])] t fr) := by
  obtain ⟨name, u, ty, e1, e2, e3, e4, e5⟩ := (laid_parts h).2 _ (List.mem_singleton.2 rfl)
  have en : name = [101, 114, 114, 111, 114] := (Option.some.inj e1).symm
  subst en
  obtain rfl := Option.some.inj (gRt.symm.trans e2)
  have hm : ty ∈ (List.range Tryz.prog.types.size).filter fun t => Tryz.prog.rowNamed t [101, 114, 114, 111, 114] := List.mem_filter.2 ⟨List.mem_range.2 e3, e4⟩
  rw [oneRow] at hm
  obtain rfl := List.mem_singleton.1 hm
  have hh : typeHandle Tryz.prog 33 = .pointer (some ⟨5, 33, none⟩) := by kernel_rfl
  rw [hh] at e5
  exact var_exact e5 gEt
theorem grep_of {W : World} {g : Nat} {cs : Array Value} {t : TypeId} {fr : Nat × Nat} {d : Da} (h : W.heap[g]? = some (.cells cs t fr)) (hr : Sx.RepC [] W d cs.toList) (hs : cs.size = Sx.gsz d) : Sx.GRep [] W (g, d) := by
  refine ⟨⟨[_], ?_, rfl⟩, by simp, cs, t, fr, h, hs⟩
  simp only [Sx.RepC]
  refine ⟨g, 0, cs.toList, rfl, by simp, (Array.getElem?_eq_some_iff.1 h).1, hr, fun j u hj => ?_⟩
  rw [Lib.cell_of_heap h, Nat.zero_add]
  simpa using hj
theorem tabV_of_laid {W : World} (h : laidMetH Tryz.prog laidAll W) : ∃ t fr, W.heap[1]? = some (.cells (Lib.pow10Tab.map fun z => Value.int .u64 z).toArray t fr) := by
  have h1 := laidMet.tail (laidMet.tail (laid_parts h).1)
  have h2 : laidMet Tryz.prog (("internal/strconv.uint64pow10", Lib.tabData .u64 Lib.pow10Tab) :: []) W := h1
  have h3 := Lib.tabIs_of_head (g := 1) (by kernel_rfl) (t := 260) (e := 204) (n := 20) (by kernel_rfl) Tryz.underlying260 Tryz.underlying204 (by kernel_rfl) (by kernel_rfl) h2
  exact var_exact h3 (by kernel_rfl)
theorem ints_rep (O : List Nat) (W : World) (k : IntKind) : ∀ l : List Int, Sx.RepCs O W (l.map (Da.int k)) (l.map fun z => Value.int k z)
  | [] => by simp [Sx.RepCs]
  | x :: l => by
    simp only [List.map_cons, Sx.RepCs, Sx.RepC]
    exact ⟨[_], _, rfl, rfl, ints_rep O W k l⟩
/-- the variables, as the walk knows them -/
theorem globs_of {W : World} (h : laidMetH Tryz.prog laidAll W) : Sx.Glob C3 [] W := by
  obtain ⟨t1, f1, e1⟩ := errV_of_laid h
  obtain ⟨t5, f5, e5⟩ := tabV_of_laid h
  intro g hg
  rcases List.mem_append.1 hg with hg | hg
  · rw [List.mem_singleton.1 hg]
    exact grep_of e1 (by simp only [Sx.RepC]) rfl
  · rw [List.mem_singleton.1 hg]
    exact grep_of e5 (by simp only [Sx.RepC]; exact ints_rep _ _ _ _) (by simp [Sx.gsz])

def eI : Sx.Enc Int := ⟨fun n => [.int .i64 n], dI, 1, fun _ => rfl, fun n u hu => by simp at hu; rw [hu]; rfl, fun O w n => by simp [dI, Sx.RepC]⟩
def eE : Sx.Enc Edg := ⟨fun e => [.int .i64 e.a, .int .i64 e.b], dE, 2, fun _ => rfl, fun n u hu => by simp at hu; rcases hu with rfl | rfl <;> rfl, fun O w n => by simp [dE, Sx.RepC, Sx.RepCs]⟩
set_option maxRecDepth 100000 in
theorem int_el {H : Type} {e' : TypeId × Value → H} {w : World} {base : Nat} {spare : Nat → Bool} {held : Bool} (n : Nat) (cs : List Value) (y : DataW H × List MemPlace)
    (h : DataW.trod e' Tryz.prog w base spare held n 3 cs = some y) : ∃ x : Int, cs = eI.enc x ∧ True := by
  obtain ⟨m, h0, _⟩ := DataW.trod_int Tryz.underlying3 h
  exact ⟨m, h0, trivial⟩
set_option maxRecDepth 100000 in
theorem edge_el {H : Type} {e' : TypeId × Value → H} {w : World} {base : Nat} {spare : Nat → Bool} {held : Bool} (n : Nat) (cs : List Value) (y : DataW H × List MemPlace)
    (h : DataW.trod e' Tryz.prog w base spare held n 86 cs = some y) : ∃ x : Edg, cs = eE.enc x ∧ True := by
  obtain ⟨xs, k, _, _, hcl, hxl, hf⟩ := DataW.trod_struct Tryz.underlying86 h
  have cl : cs.length = 2 := hcl.trans (by kernel_rfl)
  match cs, cl with
  | [c0, c1], _ =>
    have hx4 : xs.length = 2 := hxl
    match xs, hx4 with
    | [y0, y1], _ =>
      have k3 : Tryz.prog.cellsOf 3 = 1 := by kernel_rfl
      have g0 := hf 0 _ rfl
      have g1 := hf 1 _ rfl
      simp [k3] at g0 g1
      obtain ⟨n0, h0, _⟩ := DataW.trod_int Tryz.underlying3 g0
      obtain ⟨n1, h1, _⟩ := DataW.trod_int Tryz.underlying3 g1
      simp at h0 h1
      subst h0; subst h1
      exact ⟨⟨n0, n1⟩, rfl, trivial⟩
theorem rep_bool {O : List Nat} {w : World} {v : Value} {b : Bool} (h : Sx.Rep O w (.bool b) v) : v = .bool b := by obtain ⟨cs, r, rfl⟩ := h; simp only [Sx.RepC] at r; subst r; rfl
/-- what a laid table's cells are -/
def valsOf : DataW Unit → Array Value
  | .agg ds => (ds.map fun | .lit (.int k n) => Value.int k n | _ => undef).toArray
  | _ => #[]
def setCells (cs : Array Value) : Obj → Obj
  | .cells _ t frozen => .cells cs t frozen
  | o => o
/-- A WORLD FOR THE WITNESS: the settled one, the variables' cells laid. -/
noncomputable def laidWorld (os : Os) : World :=
  let w0 := World.holding Tryz.prog os ⟨#[], #[], []⟩
  { w0 with heap := (((w0.heap.modify 0 (setCells #[.iface 234 (.agg #[.pointer (some ⟨5, 33, none⟩)])])).modify 1 (setCells (valsOf Rows.laid_internal_strconv_uint64pow10))).modify 3 (setCells (valsOf Rows.laid_math_bits_deBruijn32tab))).modify 4 (setCells (valsOf Rows.laid_math_bits_deBruijn64tab)) }
theorem laidWorld_met (os : Os) (args : Array Value) : laidMetH Tryz.prog laidAll ((laidWorld os).forCall (fun _ _ => 0) ⟨#[], args, []⟩).memory :=
  laidMetH_of_parts (laidMet_of_run' 8 (by kernel_rfl) (by kernel_rfl)) (by kernel_rfl)
end Go.Proofs.YteigfapjiekdnaaGreatDoor
end

section

namespace Go.Proofs.YteigfapjiekdnaaGreatDoor
open Go.ChangeShapes Go.WideShapes Go.ChangeAt Go.RowKit Go.Reg Go.Gr Go.ChangeMaps

set_option maxRecDepth 100000 in
theorem contractQuickForms (H : Type) (enc : TypeId × Value → H) (W : World) (base : Nat) (args : Array Value) (ds gs : List (DataW H)) (before : List MemPlace)
    (hval : ∀ (j : Nat) t v, Tryz.f7.params[j]? = some t → args[j]? = some v → Value.okWide Tryz.prog W .any base t v)
    (hW : DataW.Whole enc Tryz.prog Tryz.f7.params.toList Rows.quickFormsSpec.vars false W args.toList ds gs before) (hsz0 : (DataW.weightsEach Tryz.prog (Tryz.f7.params.toList ++ (OpenSpec.ofChange Rows.quickFormsSpec).bare.plain.varTypes Tryz.prog) (ds ++ gs)).all (· ≤ reachBytes) = true) (hL : laidMetH Tryz.prog Rows.quickFormsRow.laid W) (_hsh : W.ShapedOpen Tryz.prog) :
    Calls Tryz.prog 7 args W fun e W' => ∃ v, e = .returned v ∧ Rows.quickFormsSpec.post enc Tryz.prog Tryz.f7 false true false false W args v W' := by
  have hsz := hsz0
  clear hsz0
  have hW' := hW
  obtain ⟨p, q, hA0, hV, rfl, hfz, hnd⟩ := hW
  have hA : DataW.TrodAll enc Tryz.prog W 0 (fun _ => true) true Tryz.f7.params.toList args.toList ds p := hA0
  rw [Tryz.params7] at hA hval hsz
  obtain ⟨v0, v1, v2, d0, d1, d2, p0, p1, p2, rfl, rfl, rfl, h0, h1, h2⟩ := trodAll_three hA
  obtain ⟨rfl, rfl⟩ := trodVars_none hV
  have c0 := Sx.cap_of Tryz.underlying22 (hval 0 _ _ rfl rfl) h0
  obtain ⟨x0, a0, _⟩ := argSl_of (enc := eI.enc) (fun _ => True) Tryz.underlying22 (k := 1) (by kernel_rfl) (by decide) (fun _ => rfl) int_el (hval 0 _ _ rfl rfl) h0
  have c1 := Sx.cap_of Tryz.underlying23 (hval 1 _ _ rfl rfl) h1
  obtain ⟨x1, a1, _⟩ := argSl_of (enc := eE.enc) (fun _ => True) Tryz.underlying23 (k := 2) (by kernel_rfl) (by decide) (fun _ => rfl) edge_el (hval 1 _ _ rfl rfl) h1
  have c2 := Sx.cap_of Tryz.underlying22 (hval 2 _ _ rfl rfl) h2
  obtain ⟨x2, a2, _⟩ := argSl_of (enc := eI.enc) (fun _ => True) Tryz.underlying22 (k := 1) (by kernel_rfl) (by decide) (fun _ => rfl) int_el (hval 2 _ _ rfl rfl) h2
  have hg := globs_of (show laidMetH Tryz.prog laidAll W from hL)
  have l0 : ∀ x ∈ p0, x.block < W.heap.size := fun x hx => by have := hW'.lt x (by simp [hx]); simpa using this
  have l1 : ∀ x ∈ p1, x.block < W.heap.size := fun x hx => by have := hW'.lt x (by simp [hx]); simpa using this
  have l2 : ∀ x ∈ p2, x.block < W.heap.size := fun x hx => by have := hW'.lt x (by simp [hx]); simpa using this
  refine ((qforms_pure x0 x1 x2).calls hg (Sx.reps_cons (eI.rep_arg (by decide) a0 c0) (Sx.reps_cons (eE.rep_arg (by decide) a1 c1) (Sx.reps_cons (eI.rep_arg (by decide) a2 c2) Sx.reps_nil)))).mono fun e W' ⟨u, y, he, hy, hr, ht⟩ => ?_
  subst hy
  obtain rfl := rep_bool hr
  subst he
  refine ⟨_, rfl, _, _, _, [], p0 ++ (p1 ++ p2), [], hW', ?_, ?_, ?_, ?_, fun h => by cases h⟩
  · exact trodAll_mk1 (shut_bool Tryz.underlying4 true)
  · exact trodAll_mk3 (Below.trod laidOut (by kernel_rfl) (of_decide_eq_true (by kernel_rfl)) h0 ht.below l0) (Below.trod laidOut (by kernel_rfl) (of_decide_eq_true (by kernel_rfl)) h1 ht.below l1) (Below.trod laidOut (by kernel_rfl) (of_decide_eq_true (by kernel_rfl)) h2 ht.below l2)
  · rfl
  · refine ⟨ht.os, ht.output, fun i hi => ?_⟩
    rw [ht.blk i hi (by simp)]
    have hsome : ∃ o, W.heap[i]? = some o := ⟨_, Array.getElem?_eq_getElem hi⟩
    obtain ⟨o, ho⟩ := hsome
    rw [ho]
    cases o <;> simp

theorem readsQuickForms (os : Os) {H : Type} (enc : TypeId × Value → H) : ∃ places, DataW.whole enc Tryz.prog ((laidWorld os).forCall (fun _ _ => 0) ⟨#[], #[.slice none 0 0, .slice none 0 0, .slice none 0 0], []⟩).memory Tryz.f7.params.toList Rows.quickFormsSpec.vars false #[.slice none 0 0, .slice none 0 0, .slice none 0 0].toList 8 = some ([.nil, .nil, .nil], [], places) :=
  ⟨[], by kernel_rfl⟩

set_option maxRecDepth 100000 in
theorem liftedQuickForms (os : Os) (started : os.Started) (H : Type) (enc : TypeId × Value → H) (F : Stop.Interp) :
    ReturnsInHanded {} Tryz.checked os 7 .any ((OpenSpec.ofChange Rows.quickFormsSpec).preRow enc Tryz.prog Tryz.f7 Rows.quickFormsRow.domain false Rows.quickFormsRow.laid) (((OpenSpec.ofChange Rows.quickFormsSpec).at F).post enc Tryz.prog Tryz.f7 false true false false) := by
  obtain ⟨places, hx⟩ := readsQuickForms os enc
  refine returnsInHanded_of_row (C := Tryz.checked) (s := OpenSpec.ofChange Rows.quickFormsSpec) own started (by kernel_rfl) Tryz.func7
    (witness_row_at (enc := enc) (C := Tryz.checked) false (laidWorld os) #[.slice none 0 0, .slice none 0 0, .slice none 0 0] rfl (by kernel_rfl) (by kernel_rfl) (by kernel_rfl)
      (OpenSpec.preRow_of_cond 8 hx (by kernel_rfl) (fun k hk => by cases hk) (by kernel_rfl) (laidWorld_met os _))) ?_
  intro W base args ds gs before hval hW _ _ hsz hL hsh _
  exact contractQuickForms H enc W base args ds gs before hval hW hsz hL hsh

theorem saidQuickForms : Rows.QuickFormsSaid :=
  OpenClaim.holds_of_cond 7 Tryz.f7 rfl rfl rfl rfl rfl rfl rfl ⟨rfl, rfl, rfl, rfl, rfl⟩ rfl rfl rfl rfl rfl (by kernel_rfl) Tryz.func7 (by kernel_rfl)
    (of_decide_eq_true (by kernel_rfl)) (by unfold Func.isWrapper; first | (rw [if_pos (by decide +kernel)]; kernel_rfl) | (rw [if_neg (by decide +kernel)]; exact ⟨rfl, rfl⟩))
    (fun os started H enc _ F => by rw [OpenClaim.pre_eq_preRow]; exact liftedQuickForms os started H enc F)

theorem plainQuickForms (f : FuncId) (fn : Func) (hf : Tryz.pinned.checked.prog.funcNamed "fretwork/fretworklaw12.QuickForms" = some f) (hfn : Tryz.pinned.checked.prog.funcs[f]? = some fn) :
    true = Tryz.pinned.checked.prog.looks [] ∧ ∀ (j : Nat) t, fn.params[j]? = some t → Tryz.pinned.checked.prog.wantsStandIn t = false := by
  obtain rfl : f = 7 := Option.some.inj ((show Tryz.prog.funcNamed "fretwork/fretworklaw12.QuickForms" = some 7 by kernel_rfl).symm.trans hf) |>.symm
  obtain rfl : fn = Tryz.f7 := (Option.some.inj (Tryz.func7.symm.trans hfn)).symm
  refine ⟨by kernel_rfl, fun j t ht => ?_⟩
  rw [Tryz.params7] at ht
  have hm := Array.mem_of_getElem? ht
  simp at hm
  rcases hm with rfl | rfl | rfl
  · exact (show Tryz.prog.wantsStandIn 22 = false by kernel_rfl)
  · exact (show Tryz.prog.wantsStandIn 23 = false by kernel_rfl)
  · exact (show Tryz.prog.wantsStandIn 22 = false by kernel_rfl)

theorem cardQuickForms : Rows.QuickFormsCardSaid :=
  Claim7.holds_tied_plain_at .later [] _ _ _ _ saidQuickForms (fun _ h => by cases h) (by kernel_rfl) (fun _ h => by cases h) quickForms_row_tie rfl ⟨rfl, rfl⟩ (by kernel_rfl) rfl plainQuickForms (by kernel_rfl)
#print axioms cardQuickForms
end Go.Proofs.YteigfapjiekdnaaGreatDoor
end
