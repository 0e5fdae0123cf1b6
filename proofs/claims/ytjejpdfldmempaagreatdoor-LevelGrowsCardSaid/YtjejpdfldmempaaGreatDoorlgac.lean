/- Merged: Gre Pta Grp Gri. -/
import Derived.Test.YtjejpdfldmempaaGreatDoorlgaa
import Derived.Test.YtjejpdfldmempaaGreatDoorlgab
section
namespace Go.Proofs.YtjejpdfldmempaaGreatDoor
open Go.Sx Go.RowKit Go.Reg Go.Gr
def encE (e : Edg) : List Value := [.int .i64 e.a, .int .i64 e.b]
def valE (e : Edg) : Value := .agg #[.int .i64 e.a, .int .i64 e.b]
theorem encE_len (e : Edg) : (encE e).length = 2 := rfl
theorem encE_one (e : Edg) : ∀ u ∈ encE e, u.oneCell' = true := by intro u hu; simp [encE] at hu; rcases hu with rfl | rfl <;> rfl
def orI (a b : Int) : Int := if a = 0 then b else a
set_option maxRecDepth 100000 in
theorem isNaN_ok (a : Int) (w : World) : Calls Tryz.prog 143 #[.int .i64 a] w fun e w' => e = .returned (.bool false) ∧ w = w' := by
 have h : (a != a) = false := by simp
 go_enter Tryz.func143, Tryz.ntmps143
 go_wp2_with fail
 go_ret
 exact ⟨rfl, rfl⟩
set_option maxRecDepth 100000 in
theorem compare_ok (a b : Int) (w : World) : Calls Tryz.prog 101 #[.int .i64 a, .int .i64 b] w fun e w' => e = .returned (.int .i64 (cmpI a b)) ∧ w = w' := by
 by_cases h1 : a < b
 ·have e1 : cmpI a b = -1 := by simp [cmpI, h1]
  rw [e1]
  clear e1
  go_enter Tryz.func101, Tryz.ntmps101
  go_wp2_with (go_at_call 143; refine (isNaN_ok _ _).mono ?_; rintro e w' ⟨rfl, rfl⟩)
  go_ret
  exact ⟨rfl, rfl⟩
 ·by_cases h2 : b < a
  ·have e1 : cmpI a b = 1 := by simp [cmpI, h1, h2]
   rw [e1]
   clear e1
   go_enter Tryz.func101, Tryz.ntmps101
   go_wp2_with (go_at_call 143; refine (isNaN_ok _ _).mono ?_; rintro e w' ⟨rfl, rfl⟩)
   go_ret
   exact ⟨rfl, rfl⟩
  ·have e1 : cmpI a b = 0 := by simp [cmpI, h1, h2]
   rw [e1]
   clear e1
   go_enter Tryz.func101, Tryz.ntmps101
   go_wp2_with (go_at_call 143; refine (isNaN_ok _ _).mono ?_; rintro e w' ⟨rfl, rfl⟩)
   go_ret
   exact ⟨rfl, rfl⟩
set_option maxRecDepth 100000 in
theorem or_ok (s : Nat) (a b : Int) (w : World) (c0 : w.cell? ⟨s, 0, none⟩ = some (.int .i64 a)) (c1 : w.cell? ⟨s, 1, none⟩ = some (.int .i64 b)) :
  Calls Tryz.prog 100 #[.slice (some ⟨s, 0, none⟩) 2 2] w fun e w' => e = .returned (.int .i64 (orI a b)) ∧ w = w' := by
 by_cases ha : a = 0
 ·subst ha
  have e1 : orI 0 b = b := by simp [orI]
  rw [e1]
  clear e1
  have b0 : ((0 : Int) != 0) = false := by simp
  by_cases hb : b = 0
  ·subst hb
   go_enter Tryz.func100, Tryz.ntmps100
   go_wp2_with fail
   refine wp_loop_rounds 3 ?_
   rw [rounds_succ]
   go_wp2_with fail
   rw [rounds_succ]
   go_wp2_with fail
   rw [rounds_succ]
   go_wp2_with fail
   go_ret
   exact ⟨rfl, rfl⟩
  ·have hb' : (b != 0) = true := by simpa using hb
   clear hb
   go_enter Tryz.func100, Tryz.ntmps100
   go_wp2_with fail
   refine wp_loop_rounds 2 ?_
   rw [rounds_succ]
   go_wp2_with fail
   rw [rounds_succ]
   go_wp2_with fail
   go_ret
   exact ⟨rfl, rfl⟩
 ·have e1 : orI a b = a := by simp [orI, ha]
  rw [e1]
  have ha' : (a != 0) = true := by simpa using ha
  clear e1 ha
  go_enter Tryz.func100, Tryz.ntmps100
  go_wp2_with fail
  refine wp_loop_rounds 1 ?_
  rw [rounds_succ]
  go_wp2_with fail
  go_ret
  exact ⟨rfl, rfl⟩
theorem cell_new (w : World) (cs : Array Value) (T : TypeId) {s i : Nat} {v : Value} (hs : s = w.heap.size) (h : cs[i]? = some v) : (w.alloc (.cells cs T)).drew.cell? ⟨s, i, none⟩ = some v := by
 subst hs
 simp [h]
open Go.Sort Go.Proofs in
set_option maxRecDepth 100000 in
set_option maxHeartbeats 1000000 in
theorem order_ok (x y : Edg) (W : World) : Calls Tryz.prog 166 #[valE x, valE y] W fun e w' => e = .returned (.int .i64 (cmpE x y)) ∧ ∃ q os', w' = grow (W.drewN q) os' := by
 unfold valE
 go_enter Tryz.func166, Tryz.ntmps166
 go_wp2_with fail
 refine wp_region_t [101] [0, 1, 0, 1, 2, 0, 1, 0, 1, 2, 6, 3, 0] [0, 2, 5, 7, 1, 3, 6, 8, 4, 9, 10, 11, 12] [0, 1, 0, 4, 15, 0, 32, 0, 128, 511, 1023, 2047, 4095] (by kernel_rfl) (by kernel_rfl) ?_
 go_wp2_with (first | (refine wpT_pure rfl rfl rfl rfl (fun _ _ => ?_)) | (refine wpT_look rfl rfl rfl (fun _ _ => ?_)))
 refine wpT_call rfl rfl rfl (fun K1 hK1 => ?_)
 go_wp2_with (go_at_call 101; refine (compare_ok _ _ _).mono ?_; rintro e w' ⟨rfl, rfl⟩)
 refine hK1 _ _ (Ext.refl _) ?_
 go_wp2_with (first | (refine wpT_pure rfl rfl rfl rfl (fun _ _ => ?_)) | (refine wpT_look rfl rfl rfl (fun _ _ => ?_)))
 refine wpT_call rfl rfl rfl (fun K2 hK2 => ?_)
 go_wp2_with (go_at_call 101; refine (compare_ok _ _ _).mono ?_; rintro e w' ⟨rfl, rfl⟩)
 refine hK2 _ _ (Ext.refl _) ?_
 go_wp2_with (first | (refine wpT_pure rfl rfl rfl rfl (fun _ _ => ?_)) | (refine wpT_look rfl rfl rfl (fun _ _ => ?_)))
 refine wpT_one rfl rfl rfl (fun K3 hK3 => ?_)
 go_wp2_with fail
 refine (or_ok _ _ _ _ (cell_new _ _ _ (by simp) rfl) (cell_new _ _ _ (by simp) rfl)).mono ?_
 rintro e w' ⟨rfl, rfl⟩
 refine hK3 _ _ ?_
 go_wp2_with (first | (refine wpT_pure rfl rfl rfl rfl (fun _ _ => ?_)) | (refine wpT_look rfl rfl rfl (fun _ _ => ?_)) | refine wpT_nil ?_)
 go_ret
 have e : orI (cmpI x.a y.a) (cmpI x.b y.b) = cmpE x y := by
  unfold orI cmpE
  by_cases h : cmpI x.a y.a = 0 <;> simp [h]
 exact ⟨by rw [← e]; rfl, 1, _, by rw [alloc_eq_grow, alloc_eq_grow, alloc_eq_grow, grow_grow, grow_grow]; rfl⟩
instance : Inhabited Edg := ⟨⟨0, 0⟩⟩
open Go.Sort in
theorem cmpE_swo : SWO (ltOf cmpE) where
 irrefl x := by simp [ltOf, cmpE_lt]
 trans x y z h1 h2 := by simp only [ltOf, decide_eq_true_eq, cmpE_lt] at *; omega
 ntrans x y z h1 h2 := by simp only [ltOf, decide_eq_false_iff_not, cmpE_lt] at *; omega
open Go.Sort in
theorem sort_ok (v : Value) (l : List Edg) (w : World) (h : Sl 103 2 encE w v l) (hl : l.length ≤ 4294967296) :
  Calls Tryz.prog 58 #[v, .func (.func 166) #[] #[]] w fun e w' => e = .returned (.tuple #[]) ∧ ∃ out, Sl 103 2 encE w' v out ∧ out.Perm l ∧
   out.Pairwise (fun a b => ¬ cmpE b a < 0) ∧ Tch v.ownBlock.toList w w' := by
 rcases h.shape with ⟨rfl, rfl⟩ | ⟨g, cap, rfl, hc⟩
 ·refine (AnyF.slices_SortFunc_none Tryz.sortE none 0 _ w).mono ?_
  rintro e w' ⟨rfl, rfl⟩
  exact ⟨rfl, [], h, List.Perm.refl _, List.Pairwise.nil, Tch.refl _ _⟩
 ·refine (AnyQ.slices_SortFunc Tryz.sortE 2 Tryz.isAgg103 Tryz.sizeOf103 encE (fun _ => rfl) encE_one cmpE cmpE_swo 166 #[] g 0 cap l.toArray w
   (enters_of Tryz.func166 (by kernel_rfl) rfl) (fun m os dk hs x y => order_ok x y _) (h.holdsK encE_len (by decide)) (h.lt rfl) (by simp; omega)).mono ?_
  rintro e w' ⟨rfl, d, n, os, hp, hs, rfl⟩
  obtain ⟨hp1, hp2, hp3⟩ := hp
  have hd : d.size = l.length := by simpa using hp1
  obtain ⟨hS, hT⟩ := h.sorted encE_len (by decide) d hd n os
  refine ⟨rfl, d.toList, hS, ?_, ?_, hT⟩
  ·have e1 : d.extract 0 l.toArray.size = d := by rw [← hp1]; exact Array.extract_size
   have e2 : l.toArray.extract 0 l.toArray.size = l.toArray := Array.extract_size
   rw [e1, e2] at hp3
   exact hp3
  ·rw [List.pairwise_iff_getElem]
   intro i j hi hj hij
   have hj' : j < l.length := by rw [← hd]; simpa using hj
   have hi' : i < l.length := by omega
   have := hs i j (Nat.zero_le _) hij (by simpa using hj')
   rw [getElem!_pos d j (by omega), getElem!_pos d i (by omega)] at this
   simpa [ltOf] using this
theorem edges_cs {O : List Nat} {w : World} : ∀ {l : List Edg} {css : List (List Value)}, RepCss O w (l.map dE) css → css = l.map encE
 | [], css, h => by simpa only [List.map_nil, RepCss] using h
 | e :: l, css, h => by
   simp only [List.map_cons, RepCss, dE, RepC, RepCs] at h
   obtain ⟨c1, c2, rfl, ⟨_, _, rfl, rfl, _, _, rfl, rfl, rfl⟩, h⟩ := h
   rw [edges_cs h]; rfl
theorem edges_rep (O : List Nat) (w : World) : ∀ l : List Edg, RepCss O w (l.map dE) (l.map encE)
 | [] => by simp [RepCss]
 | e :: l => by
   simp only [List.map_cons, RepCss]
   exact ⟨_, _, rfl, by simp [dE, RepC, RepCs, encE], edges_rep O w l⟩
theorem edges_sl {E : Nat} {w : World} {v : Value} {l : List Edg} : Sl E 2 id w v (l.map encE) ↔ Sl E 2 encE w v l := by
 unfold Sl
 rw [List.length_map, List.flatMap_map]
 exact Iff.rfl
theorem sort_tsl (l : List Edg) (hl : l.length ≤ 4294967296) : TurnSl C1 58 103 2 (l.map dE) [.func (.func 166) [] []] (fun _ ds => ∃ out : List Edg, ds = out.map dE ∧ out.Perm l ∧ out.Pairwise (fun a b => ¬ cmpE b a < 0)) := by
 intro O w v css us hs hb hO hr hk hg hus
 obtain ⟨u, us', rfl, h1, h2⟩ := reps_inv hus
 obtain rfl := reps_inv0 h2
 obtain ⟨cs, r, rfl⟩ := h1
 simp only [RepC, RepCss] at r
 obtain ⟨_, _, rfl, rfl, rfl⟩ := r
 obtain rfl := edges_cs hr
 refine ⟨by kernel_rfl, (sort_ok v l w (edges_sl.1 hs) hl).mono ?_⟩
 rintro e w' ⟨rfl, out, hs', hp, ho, ht⟩
 refine ⟨.tuple #[], .tuple [], _, out.map encE, rfl, ⟨out, rfl, hp, ho⟩, edges_sl.2 hs', edges_rep _ _ _, ?_, ⟨[.tuple #[]], by simp only [RepC, RepCss]; exact ⟨[], rfl, rfl⟩, rfl⟩, ht⟩
 intro x hx
 obtain ⟨e, _, rfl⟩ := List.mem_map.1 hx
 exact ⟨rfl, encE_one e⟩
end Go.Proofs.YtjejpdfldmempaaGreatDoor
end
section
namespace Go.Gr
structure Pt where
 labels : List Int
 edges : List Edg
theorem findSome_at {α : Type} {f : Nat → Option α} {n i : Nat} {y : α} (h : ∀ k, k < i → f k = none) (hi : f i = some y) (hn : i < n) : (List.range n).findSome? f = some y := by
 rw [List.findSome?_eq_some_iff]
 refine ⟨List.range i, i, (List.range (n - i - 1)).map (fun k => i + 1 + k), ?_, hi, fun k hk => h k (List.mem_range.1 hk)⟩
 apply List.ext_getElem?
 intro k
 by_cases h1 : k < n
 ·rw [List.getElem?_range h1]
  rcases Nat.lt_trichotomy k i with h2 | h2 | h2
  ·rw [List.getElem?_append_left (by simpa using h2), List.getElem?_range h2]
  ·subst h2
   rw [List.getElem?_append_right (by simp), List.length_range, Nat.sub_self]; rfl
  ·rw [List.getElem?_append_right (by simp; omega), List.length_range]
   obtain ⟨d, hd⟩ : ∃ d, k - i = d + 1 := ⟨k - i - 1, by omega⟩
   rw [hd, List.getElem?_cons_succ, List.getElem?_map, List.getElem?_range (by omega)]
   simp; omega
 ·rw [List.getElem?_eq_none (by simp; omega), List.getElem?_eq_none (by simp; omega)]
theorem findSome_no {α : Type} {f : Nat → Option α} {n : Nat} (h : ∀ k, k < n → f k = none) : (List.range n).findSome? f = none := by
 rw [List.findSome?_eq_none_iff]
 exact fun k hk => h k (List.mem_range.1 hk)
def lErr (l : List Int) : Option (Int × Nat) := if 8 < l.length then some (6, 0) else (List.range l.length).findSome? fun i => if badLabel ((l[i]?).getD 0) then some (3, i) else none
def eBad (n : Nat) (p : Option Edg) (e : Edg) : Option Int :=
 if ¬ (0 ≤ min e.a e.b ∧ max e.a e.b < n) then some 3 else if e.b ≤ e.a then some 2 else match p with
  | none => none
  | some q => if cmpE q e < 0 then none else some 2
def eAt (n : Nat) (E : List Edg) (i : Nat) : Option (Int × Nat) := match E[i]? with
 | none => none
 | some e => (eBad n (if i = 0 then none else E[i - 1]?) e).map fun c => (c, i)
def eErr (n : Nat) (E : List Edg) : Option (Int × Nat) := (List.range E.length).findSome? (eAt n E)
def pErr (p : Pt) : Option (Int × Nat) := match lErr p.labels with
 | some x => some x
 | none => eErr p.labels.length p.edges
theorem lErr_none {l : List Int} (h : lErr l = none) : l.length ≤ 8 ∧ ∀ x ∈ l, 0 ≤ x ∧ x ≤ 255 := by
 unfold lErr at h
 split at h
 ·cases h
 ·refine ⟨by omega, fun x hx => ?_⟩
  obtain ⟨i, hi, rfl⟩ := List.mem_iff_getElem.1 hx
  have := (List.findSome?_eq_none_iff.1 h) i (List.mem_range.2 hi)
  rw [List.getElem?_eq_getElem hi] at this
  simp [badLabel] at this
  omega
theorem eErr_none {n : Nat} {E : List Edg} (h : eErr n E = none) : (∀ e ∈ E, 0 ≤ e.a ∧ e.a < e.b ∧ e.b < n) ∧ ∀ i x y, E[i]? = some x → E[i + 1]? = some y → cmpE x y < 0 := by
 have key : ∀ i e, E[i]? = some e → eBad n (if i = 0 then none else E[i - 1]?) e = none := by
  intro i e hx
  have := (List.findSome?_eq_none_iff.1 h) i (List.mem_range.2 (List.getElem?_eq_some_iff.1 hx).1)
  unfold eAt at this
  rw [hx] at this
  simpa using this
 refine ⟨fun e he => ?_, fun i x y hx hy => ?_⟩
 ·obtain ⟨i, hi, rfl⟩ := List.mem_iff_getElem.1 he
  have := key i _ (List.getElem?_eq_getElem hi)
  unfold eBad at this
  split at this
  ·cases this
  ·split at this
   ·cases this
   ·omega
 ·have := key (i + 1) y hy
  rw [if_neg (by omega), Nat.add_sub_cancel, hx] at this
  unfold eBad at this
  split at this
  ·cases this
  ·split at this
   ·cases this
   ·simp only at this
    split at this
    ·assumption
    ·cases this
end Go.Gr
end
section
namespace Go.Gr
theorem lessOf_le (E : List Edg) (i v : Nat) : (lessOf (E.take i) v).length ≤ (lessOf E v).length := by
 unfold lessOf
 rw [List.length_map, List.length_map]
 exact ((List.take_sublist i E).filter _).length_le
theorem moreOf_le (E : List Edg) (i v : Nat) : (moreOf (E.take i) v).length ≤ (moreOf E v).length := by
 unfold moreOf
 rw [List.length_map, List.length_map]
 exact ((List.take_sublist i E).filter _).length_le
theorem deg_le (E : List Edg) (v : Nat) : deg E v ≤ E.length * 2 := by
 unfold deg nearOf lessOf moreOf
 rw [List.length_append, List.length_map, List.length_map]
 have h1 := List.length_filter_le (fun e : Edg => decide (e.b = (v : Int))) E
 have h2 := List.length_filter_le (fun e : Edg => decide (e.a = (v : Int))) E
 omega
def degAt (E : List Edg) : Nat → Int
 | 0 => 0
 | v + 1 => (deg E v : Int)
theorem degAt_le (E : List Edg) (v : Nat) : 0 ≤ degAt E v ∧ degAt E v ≤ E.length * 2 := by
 cases v with
 | zero => simp only [degAt]; omega
 | succ v => have := deg_le E v; simp only [degAt]; omega
theorem take_snoc {E : List Edg} {i : Nat} {e : Edg} (h : E[i]? = some e) : E.take (i + 1) = E.take i ++ [e] := by
 rw [List.take_add_one, h]; rfl
theorem degAt_step {E : List Edg} {i : Nat} {a b : Nat} (h : E[i]? = some ⟨(a : Int), (b : Int)⟩) (hab : a < b) (v : Nat) :
  degAt (E.take (i + 1)) v = if v = b + 1 then degAt (E.take i) (b + 1) + 1 else if v = a + 1 then degAt (E.take i) (a + 1) + 1 else degAt (E.take i) v := by
 rw [take_snoc h]
 cases v with
 | zero => simp [degAt]
 | succ v =>
   simp only [degAt, deg_snoc, Nat.add_right_cancel_iff]
   by_cases h1 : v = b
   ·subst h1
    rw [if_pos rfl, if_pos rfl, if_neg (by omega)]; omega
   ·rw [if_neg (by omega), if_neg h1]
    by_cases h2 : v = a
    ·subst h2; rw [if_pos rfl, if_pos rfl]; omega
    ·rw [if_neg (by omega), if_neg h2]; omega
def sumAt (E : List Edg) (j v : Nat) : Int := if v ≤ j then (off (deg E) v : Int) else degAt E v
theorem sumAt_zero (E : List Edg) (v : Nat) : sumAt E 0 v = degAt E v := by
 cases v with
 | zero => rfl
 | succ v => simp [sumAt]
theorem sumAt_step (E : List Edg) (j v : Nat) : sumAt E (j + 1) v = if v = j + 1 then sumAt E j (j + 1) + sumAt E j j else sumAt E j v := by
 simp only [sumAt]
 by_cases h : v = j + 1
 ·subst h
  rw [if_pos (Nat.le_refl _), if_pos rfl, if_neg (by omega), if_pos (Nat.le_refl _)]
  simp only [off, degAt]; omega
 ·rw [if_neg h]
  by_cases h2 : v ≤ j
  ·rw [if_pos (by omega), if_pos h2]
  ·rw [if_neg (by omega), if_neg h2]
theorem off_le (E : List Edg) (n : Nat) (h : ∀ e ∈ E, 0 ≤ e.a ∧ e.a < n ∧ 0 ≤ e.b ∧ e.b < n) {v : Nat} (hv : v ≤ n) : off (deg E) v ≤ 2 * E.length := by
 have := off_mono (deg E) hv
 rw [off_deg E n h] at this
 exact this
def rowR (E : List Edg) (i j : Nat) (v : Nat) : List Int := lessOf (E.take i) v ++ moreOf (E.take j) v
def rowI (E : List Edg) (i j : Nat) (v : Nat) : List Int := lessIds (E.take i) v ++ moreIds (E.take j) v
theorem rowR_le (E : List Edg) (i j v : Nat) : (rowR E i j v).length ≤ deg E v := by
 unfold rowR deg nearOf
 rw [List.length_append, List.length_append]
 have := lessOf_le E i v
 have := moreOf_le E j v
 omega
theorem rowI_len (E : List Edg) (i j v : Nat) : (rowI E i j v).length = (rowR E i j v).length := by
 unfold rowR rowI
 rw [List.length_append, List.length_append, (ids_len _ v).1, (ids_len _ v).2]
theorem rowI_le (E : List Edg) (i j v : Nat) : (rowI E i j v).length ≤ deg E v := by rw [rowI_len]; exact rowR_le E i j v
theorem rowR_zero (E : List Edg) (v : Nat) : rowR E 0 0 v = [] := by simp [rowR, lessOf, moreOf]
theorem rowI_zero (E : List Edg) (v : Nat) : rowI E 0 0 v = [] := by simp [rowI, lessIds, moreIds]
theorem rowR_less {E : List Edg} {i : Nat} {a b : Nat} (h : E[i]? = some ⟨(a : Int), (b : Int)⟩) : rowR E (i + 1) 0 = more (rowR E i 0) b a := by
 funext v
 unfold rowR more
 rw [take_snoc h, (near_snoc _ _ _).1]
 simp only [List.take_zero, Int.natCast_inj]
 by_cases hv : v = b
 ·subst hv; simp [moreOf]
 ·have : ¬ b = v := fun e => hv e.symm
  simp [moreOf, hv, this]
theorem rowI_less {E : List Edg} {i : Nat} {a b : Nat} (h : E[i]? = some ⟨(a : Int), (b : Int)⟩) : rowI E (i + 1) 0 = more (rowI E i 0) b i := by
 funext v
 have hi : i < E.length := (List.getElem?_eq_some_iff.1 h).1
 unfold rowI more
 rw [take_snoc h, (ids_snoc _ _ _).1]
 simp only [List.take_zero, Int.natCast_inj, List.length_take, Nat.min_eq_left (Nat.le_of_lt hi)]
 by_cases hv : v = b
 ·subst hv; simp [moreIds]
 ·have : ¬ b = v := fun e => hv e.symm
  simp [moreIds, hv, this]
theorem rowR_more {E : List Edg} {k j : Nat} {a b : Nat} (h : E[j]? = some ⟨(a : Int), (b : Int)⟩) : rowR E k (j + 1) = more (rowR E k j) a b := by
 funext v
 unfold rowR more
 rw [take_snoc h, (near_snoc _ _ _).2]
 simp only [Int.natCast_inj]
 by_cases hv : v = a
 ·subst hv; simp
 ·have : ¬ a = v := fun e => hv e.symm
  simp [hv, this]
theorem rowI_more {E : List Edg} {k j : Nat} {a b : Nat} (h : E[j]? = some ⟨(a : Int), (b : Int)⟩) : rowI E k (j + 1) = more (rowI E k j) a j := by
 funext v
 have hj : j < E.length := (List.getElem?_eq_some_iff.1 h).1
 unfold rowI more
 rw [take_snoc h, (ids_snoc _ _ _).2]
 simp only [Int.natCast_inj, List.length_take, Nat.min_eq_left (Nat.le_of_lt hj)]
 by_cases hv : v = a
 ·subst hv; simp
 ·have : ¬ a = v := fun e => hv e.symm
  simp [hv, this]
theorem rowR_all (E : List Edg) : rowR E E.length E.length = nearOf E := by funext v; simp [rowR, nearOf]
theorem rowI_all (E : List Edg) : rowI E E.length E.length = idsOf E := by funext v; simp [rowI, idsOf]
theorem more_len (R : Nat → List Int) (v : Nat) (u : Int) (w : Nat) : ((more R v u w).length : Int) = if w = v then ((R v).length : Int) + 1 else (R w).length := by
 unfold more; split <;> simp
theorem row_room {E : List Edg} {i j i' j' v : Nat} {u : Int} (h : rowR E i' j' = more (rowR E i j) v u) : (rowR E i j v).length < deg E v := by
 have := rowR_le E i' j' v
 rw [h] at this
 simp only [more, if_true, List.length_append, List.length_singleton] at this
 omega
theorem arr_none (n : Nat) (D : Nat → Nat) (R : Nat → List Int) (h : ∀ v, R v = []) : arr n R D = List.replicate (off D n) 0 := by
 induction n with
 | zero => rfl
 | succ n ih => rw [arr_succ, ih, h n]; simp [off, List.replicate_append_replicate]
end Go.Gr
end
section
namespace Go.Gr
def leE (x y : Edg) : Bool := decide (¬ cmpE y x < 0)
def canon (edges : List Edg) : List Edg := (edges.map turn).mergeSort leE
theorem canon_perm (edges : List Edg) : (canon edges).Perm (edges.map turn) := List.mergeSort_perm _ _
theorem canon_sorted (edges : List Edg) : (canon edges).Pairwise (fun x y => ¬ cmpE y x < 0) := by
 have h := List.pairwise_mergeSort (le := leE) (fun a b c h1 h2 => by
  simp only [leE, decide_eq_true_eq] at *
  intro h3
  rcases cmpE_tri a b with h | h | h
  ·exact h2 (cmpE_trans h3 h)
  ·subst h; exact h2 h3
  ·exact h1 h) (fun a b => by
  simp only [leE, Bool.or_eq_true, decide_eq_true_eq]
  by_cases h : cmpE b a < 0
  ·exact .inr (cmpE_asym h)
  ·exact .inl h) (edges.map turn)
 exact h.imp (fun h => by simpa [leE] using h)
theorem canon_eq {edges E : List Edg} (hn : (edges.map turn).Nodup) (hp : E.Perm (edges.map turn)) (hs : E.Pairwise (fun x y => ¬ cmpE y x < 0)) : E = canon edges :=
 strict_eq (hp.trans (canon_perm edges).symm) (strict_of (hp.nodup_iff.2 hn) hs) (strict_of ((canon_perm edges).nodup_iff.2 hn) (canon_sorted edges))
theorem Strict.le {E : List Edg} (h : Strict E) : E.Pairwise (fun x y => ¬ cmpE y x < 0) := h.imp fun h => cmpE_asym h
theorem canon_ok {labels : List Int} {edges : List Edg} (h : newErr labels edges = none) : Gr.Ok ⟨labels, canon edges⟩ := graph_of h (canon_perm edges) (canon_sorted edges)
theorem canon_len (edges : List Edg) : (canon edges).length = edges.length := by rw [(canon_perm edges).length_eq, List.length_map]
def insAt (S : List Edg) (k : Nat) (e : Edg) : List Edg := S.take k ++ [e] ++ S.drop k
theorem insAt_perm (S : List Edg) (k : Nat) (e : Edg) : (insAt S k e).Perm (e :: S) := by
 unfold insAt
 rw [List.append_assoc, List.singleton_append]
 refine List.perm_middle.trans ?_
 rw [List.take_append_drop]
theorem insAt_strict {S : List Edg} {k : Nat} {e : Edg} (hS : Strict S) (h1 : ∀ x ∈ S.take k, cmpE x e < 0) (h2 : ∀ x, S[k]? = some x → ¬ cmpE x e < 0) (hn : e ∉ S) : Strict (insAt S k e) := by
 unfold insAt Strict
 rw [List.append_assoc, List.singleton_append, List.pairwise_append, List.pairwise_cons]
 have hS' := hS
 unfold Strict at hS'
 rw [← List.take_append_drop k S, List.pairwise_append] at hS'
 obtain ⟨g1, g2, g3⟩ := hS'
 have hhead : ∀ y ∈ S.drop k, cmpE e y < 0 := by
  intro y hy
  rcases hd : S.drop k with _ | ⟨x, l⟩
  ·rw [hd] at hy; cases hy
  ·have hx : S[k]? = some x := by
    have := congrArg List.head? hd
    simpa using this
   have hxs : x ∈ S := List.mem_of_getElem? hx
   have hex : cmpE e x < 0 := by
    rcases cmpE_tri e x with h | h | h
    ·exact h
    ·exact absurd (h ▸ hxs) hn
    ·exact absurd h (h2 x hx)
   rw [hd] at hy g2
   rcases List.mem_cons.1 hy with h | h
   ·exact h ▸ hex
   ·exact cmpE_trans hex ((List.pairwise_cons.1 g2).1 y h)
 refine ⟨g1, ⟨hhead, g2⟩, ?_⟩
 intro a ha b hb
 rcases List.mem_cons.1 hb with h | h
 ·exact h ▸ h1 a ha
 ·exact g3 a ha b h
def idE (E : List Edg) (e : Edg) : Int := match E.findIdx? (fun x => decide (x = e)) with
 | some i => (i : Int)
 | none => -1
theorem idE_at {E : List Edg} {e : Edg} {i : Nat} (h : E[i]? = some e) (hn : ∀ x ∈ E.take i, x ≠ e) : idE E e = i := by
 unfold idE
 have : E.findIdx? (fun x => decide (x = e)) = some i := by
  rw [List.findIdx?_eq_some_iff_getElem]
  obtain ⟨h1, h2⟩ := List.getElem?_eq_some_iff.1 h
  refine ⟨h1, by simp [h2], fun j hj => ?_⟩
  have := hn E[j] (List.mem_take_iff_getElem.2 ⟨j, by omega, rfl⟩)
  simp [this]
 rw [this]
theorem idE_none {E : List Edg} {e : Edg} (h : e ∉ E) : idE E e = -1 := by
 unfold idE
 have : E.findIdx? (fun x => decide (x = e)) = none := by
  rw [List.findIdx?_eq_none_iff]
  intro x hx
  have : x ≠ e := fun h' => h (h' ▸ hx)
  simp [this]
 rw [this]
theorem idE_nonneg {E : List Edg} {e : Edg} : 0 ≤ idE E e ↔ e ∈ E := by
 constructor
 ·intro h
  refine Classical.byContradiction fun hn => ?_
  rw [idE_none hn] at h; omega
 ·intro h
  unfold idE
  split
  ·omega
  ·rename_i hn
   rw [List.findIdx?_eq_none_iff] at hn
   have := hn e h
   simp at this
structure Part (edges : List Edg) (i : Nat) (S : List Edg) : Prop where
 strict : Strict S
 perm : S.Perm ((edges.take i).map turn)
theorem Part.zero (edges : List Edg) : Part edges 0 [] := ⟨List.Pairwise.nil, by simp⟩
theorem Part.next {edges S : List Edg} {i k : Nat} {e : Edg} (h : Part edges i S) (he : edges[i]? = some e) (hn : turn e ∉ S) (h1 : ∀ x ∈ S.take k, cmpE x (turn e) < 0) (h2 : ∀ x, S[k]? = some x → ¬ cmpE x (turn e) < 0) : Part edges (i + 1) (insAt S k (turn e)) := by
 refine ⟨insAt_strict h.strict h1 h2 hn, (insAt_perm _ _ _).trans ?_⟩
 rw [take_snoc he, List.map_append]
 simp only [List.map_cons, List.map_nil]
 exact (List.Perm.cons _ h.perm).trans (List.perm_append_comm (l₁ := [turn e]))
theorem Part.mem {edges S : List Edg} {i : Nat} (h : Part edges i S) (e : Edg) : e ∈ S ↔ e ∈ (edges.take i).map turn := h.perm.mem_iff
theorem Part.all {edges S : List Edg} {i : Nat} (h : Part edges i S) (hi : edges.length ≤ i) : S = canon edges := by
 have hp := h.perm
 rw [List.take_of_length_le hi] at hp
 exact canon_eq (hp.nodup_iff.1 h.strict.nodup) hp h.strict.le
theorem rise_eq : ∀ {l1 l2 : List Int}, l1.Pairwise (· < ·) → l2.Pairwise (· < ·) → (∀ x, x ∈ l1 ↔ x ∈ l2) → l1 = l2
 | [], [], _, _, _ => rfl
 | [], y :: l2, _, _, h => absurd ((h y).2 (by simp)) (by simp)
 | x :: l1, [], _, _, h => absurd ((h x).1 (by simp)) (by simp)
 | x :: l1, y :: l2, h1, h2, h => by
   have g1 := List.pairwise_cons.1 h1
   have g2 := List.pairwise_cons.1 h2
   have hxy : x = y := by
    rcases List.mem_cons.1 ((h x).1 (by simp)) with e | e
    ·exact e
    ·rcases List.mem_cons.1 ((h y).2 (by simp)) with e' | e'
     ·exact e'.symm
     ·have := g2.1 x e; have := g1.1 y e'; omega
   subst hxy
   rw [rise_eq g1.2 g2.2 fun z => ?_]
   constructor
   ·intro hz
    rcases List.mem_cons.1 ((h z).1 (by simp [hz])) with e | e
    ·have := g1.1 z hz; omega
    ·exact e
   ·intro hz
    rcases List.mem_cons.1 ((h z).2 (by simp [hz])) with e | e
    ·have := g2.1 z hz; omega
    ·exact e
theorem mem_lessOf {E : List Edg} {v : Nat} {u : Int} : u ∈ lessOf E v ↔ ⟨u, v⟩ ∈ E := by
 simp only [lessOf, List.mem_map, List.mem_filter, decide_eq_true_eq]
 constructor
 ·rintro ⟨e, ⟨he, hb⟩, rfl⟩; rw [← hb]; exact he
 ·intro h; exact ⟨_, ⟨h, rfl⟩, rfl⟩
theorem mem_moreOf {E : List Edg} {v : Nat} {u : Int} : u ∈ moreOf E v ↔ ⟨v, u⟩ ∈ E := by
 simp only [moreOf, List.mem_map, List.mem_filter, decide_eq_true_eq]
 constructor
 ·rintro ⟨e, ⟨he, hb⟩, rfl⟩; rw [← hb]; exact he
 ·intro h; exact ⟨_, ⟨h, rfl⟩, rfl⟩
theorem mem_near {G : Gr} (h : G.Ok) {v : Nat} {u : Int} : u ∈ nearOf G.edges v ↔ 0 ≤ u ∧ u < G.labels.length ∧ turn ⟨u, v⟩ ∈ G.edges := by
 unfold nearOf
 rw [List.mem_append, mem_lessOf, mem_moreOf]
 constructor
 ·rintro (h1 | h1)
  ·have := h.edge _ h1
   simp only at this
   refine ⟨by omega, by omega, ?_⟩
   rw [turn_le (by simp only; omega)]; exact h1
  ·have := h.edge _ h1
   simp only at this
   refine ⟨by omega, by omega, ?_⟩
   rw [turn_sym, turn_le (by simp only; omega)]; exact h1
 ·rintro ⟨h0, h1, h2⟩
  by_cases hl : u ≤ (v : Int)
  ·rw [turn_le (by simpa using hl)] at h2; exact .inl h2
  ·rw [turn_sym, turn_le (by simp only; omega)] at h2; exact .inr h2
def atD (E : List Edg) (v : Nat) : List Int := (E.zipIdx.filter fun p => decide (p.1.a = (v : Int) ∨ p.1.b = (v : Int))).map fun p => (p.2 : Int)
theorem zipIdx_rise (E : List Edg) (p : Edg × Nat → Bool) : ((E.zipIdx.filter p).map fun q => (q.2 : Int)).Pairwise (· < ·) := by
 have key : ∀ (E : List Edg) (k : Nat), ((E.zipIdx k).filter p).Pairwise (fun x y => x.2 < y.2) ∧ ∀ x ∈ E.zipIdx k, k ≤ x.2 := by
  intro E
  induction E with
  | nil => intro k; simp
  | cons e E ih =>
    intro k
    have := ih (k + 1)
    rw [List.zipIdx_cons]
    refine ⟨?_, ?_⟩
    ·rw [List.filter_cons]
     split
     ·rw [List.pairwise_cons]
      refine ⟨fun x hx => ?_, this.1⟩
      have := this.2 x (List.mem_filter.1 hx).1
      omega
     ·exact this.1
    ·intro x hx
     rcases List.mem_cons.1 hx with rfl | hx
     ·simp
     ·have := this.2 x hx; omega
 rw [List.pairwise_map]
 exact (key E 0).1.imp fun h => by omega
theorem ids_perm {G : Gr} (_h : G.Ok) (v : Nat) : ∀ x, x ∈ idsOf G.edges v ↔ x ∈ atD G.edges v := by
 intro x
 simp only [idsOf, lessIds, moreIds, atD, List.mem_append, List.mem_map, List.mem_filter, decide_eq_true_eq]
 constructor
 ·rintro (⟨p, ⟨h1, h2⟩, rfl⟩ | ⟨p, ⟨h1, h2⟩, rfl⟩)
  ·exact ⟨p, ⟨h1, .inr h2⟩, rfl⟩
  ·exact ⟨p, ⟨h1, .inl h2⟩, rfl⟩
 ·rintro ⟨p, ⟨h1, h2 | h2⟩, rfl⟩
  ·exact .inr ⟨p, ⟨h1, h2⟩, rfl⟩
  ·exact .inl ⟨p, ⟨h1, h2⟩, rfl⟩
theorem ids_rise {G : Gr} (h : G.Ok) (v : Nat) : (idsOf G.edges v).Pairwise (· < ·) := by
 unfold idsOf
 rw [List.pairwise_append]
 refine ⟨zipIdx_rise _ _, zipIdx_rise _ _, ?_⟩
 intro a ha b hb
 simp only [lessIds, moreIds, List.mem_map, List.mem_filter, decide_eq_true_eq] at ha hb
 obtain ⟨⟨x, i⟩, ⟨h1, h2⟩, rfl⟩ := ha
 obtain ⟨⟨y, j⟩, ⟨h3, h4⟩, rfl⟩ := hb
 simp only at h2 h4 ⊢
 have hx := List.mem_zipIdx_iff_getElem?.1 h1
 have hy := List.mem_zipIdx_iff_getElem?.1 h3
 simp only at hx hy
 have ex := h.edge x (List.mem_of_getElem? hx)
 have ey := h.edge y (List.mem_of_getElem? hy)
 rcases Nat.lt_trichotomy i j with hij | hij | hij
 ·omega
 ·subst hij; rw [hx] at hy; cases hy; omega
 ·obtain ⟨hi, ei⟩ := List.getElem?_eq_some_iff.1 hx
  obtain ⟨hj, ej⟩ := List.getElem?_eq_some_iff.1 hy
  have := List.pairwise_iff_getElem.1 h.sorted j i hj hi hij
  rw [ei, ej, cmpE_lt] at this
  omega
theorem ids_doc {G : Gr} (h : G.Ok) (v : Nat) : idsOf G.edges v = atD G.edges v := rise_eq (ids_rise h v) (zipIdx_rise _ _) (ids_perm h v)
end Go.Gr
end
