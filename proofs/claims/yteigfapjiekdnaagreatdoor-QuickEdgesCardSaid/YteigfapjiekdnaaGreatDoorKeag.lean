/- Merged: Srt Gre. -/
import Derived.Test.YteigfapjiekdnaaGreatDoorSli
import Derived.Shelf.SlSortCmp.WholeK
import Derived.Shelf.SlSortCmp.NoneTotal
import Derived.Test.YteigfapjiekdnaaGreatDoorKeaf
import Derived.Test.YteigfapjiekdnaaGreatDoorKeab
section
/- slices.SortFunc at an owned slice: between the shelf's words and 'Sl'. -/
namespace Go.Reg
open Go Go.RowKit Go.Sort Go.Proofs

section
variable {α : Type} [Inhabited α] {enc : α → List Value} {E k : Nat} {w : World} {l : List α} {g cap : Nat}

theorem flatK_at (he : ∀ x, (enc x).length = k) (hk : 0 < k) (d : Array α) (t : Nat) (ht : t < d.size * k) : (d.toList.flatMap enc)[t]? = some (flatK enc k d)[t]! := by
  have h1 : t / k < d.size := Nat.div_lt_of_lt_mul (by rwa [Nat.mul_comm] at ht)
  have h2 : t % k < k := Nat.mod_lt _ hk
  have e := flat_at he d.toList (t / k) d[t / k] (t % k) (by simp [h1]) h2
  rw [show t / k * k + t % k = t from Nat.div_add_mod' t k] at e
  rw [e, get_flatK _ _ _ _ ht, getElem!_pos d (t / k) h1]
  have h3 : t % k < (enc d[t / k]).length := by rw [he]; exact h2
  rw [List.getElem?_eq_getElem h3, getElem!_pos (enc d[t / k]) (t % k) h3]

theorem Sl.holdsK (he : ∀ x, (enc x).length = k) (hk : 0 < k) (h : Sl E k enc w (.slice (some ⟨g, 0, none⟩) l.length cap) l) : HoldsK enc k w g 0 l.toArray := by
  intro j hj
  have hj' : j < l.length * k := by simpa using hj
  have hc := World.ownsRow.cells h (g := g) rfl j (flatK enc k l.toArray)[j]! (by have := flatK_at he hk l.toArray j hj'; simpa using this)
  refine ⟨by simpa [Addr.add_lit] using hc, ?_⟩
  rcases h.2 with ⟨h1, _⟩ | ⟨g', cap', cur, h1, _, hg, _⟩
  · cases h1
  · cases h1
    simp [World.frozen?, hg]

theorem Sl.sorted (he : ∀ x, (enc x).length = k) (hk : 0 < k) (h : Sl E k enc w (.slice (some ⟨g, 0, none⟩) l.length cap) l) (d : Array α) (hd : d.size = l.length) (n : Nat) (os : Array Obj) :
    Sl E k enc (sortWorldK enc k w g 0 n d os) (.slice (some ⟨g, 0, none⟩) l.length cap) d.toList ∧ Tch [g] w (sortWorldK enc k w g 0 n d os) := by
  have hlt := h.lt (b := g) rfl
  constructor
  · have hlen : (d.toList.flatMap enc).length = d.toList.length * k := by
      generalize d.toList = xs
      induction xs with
      | nil => simp
      | cons x xs ih => simp [ih, he, Nat.add_mul]; omega
    refine ⟨hlen, ?_⟩
    rcases h.2 with ⟨h1, _⟩ | ⟨g', cap', cur, h1, h0, hg, hc, hm, hs, ht⟩
    · cases h1
    · cases h1
      refine .inr ⟨g, cap, putCells id 0 (flatK enc k d) cur, by simp [hd], Nat.zero_le _, ?_, by simp [hd]; exact hc, hm, by simp [putCells, hs], ?_⟩
      · simp only [sortWorldK, grow, putRowK, putRow, mapBlock, Sort.ahead]
        rw [Array.getElem?_append_left (by simpa using hlt)]
        simp [Array.getElem?_modify, hg, onCells]
      · apply List.ext_getElem?
        intro t
        rw [List.getElem?_take]
        split
        · rename_i hlt'
          have hlt2 : t < d.size * k := by simpa using hlt'
          rw [flatK_at he hk d t hlt2]
          have hcs : t < cur.size := by rw [hs]; rw [hd] at hlt2; exact Nat.lt_of_lt_of_le hlt2 (Nat.mul_le_mul_right k hc)
          simp [putCells, hcs, hlt2]
        · rename_i hge
          rw [List.getElem?_eq_none (by rw [hlen]; omega)]
  · refine ⟨rfl, rfl, rfl, ?_, ?_⟩
    · simp [sortWorldK, grow, putRowK, putRow, mapBlock, Sort.ahead]
    · intro j hj hn
      have hne : g ≠ j := fun e => hn (by simp [e])
      simp only [sortWorldK, grow, putRowK, putRow, mapBlock, Sort.ahead]
      rw [Array.getElem?_append_left (by simpa using hj)]
      simp [Array.getElem?_modify, hne]
end
end Go.Reg
end

section
/- Graphs: edges put in order in their place, by slices.SortFunc. -/
namespace Go.Proofs.YteigfapjiekdnaaGreatDoor
open Go.Sx Go.RowKit Go.Reg Go.Gr

def encE (e : Edg) : List Value := [.int .i64 e.a, .int .i64 e.b]
def valE (e : Edg) : Value := .agg #[.int .i64 e.a, .int .i64 e.b]
theorem encE_len (e : Edg) : (encE e).length = 2 := rfl
theorem encE_one (e : Edg) : ∀ u ∈ encE e, u.oneCell' = true := by intro u hu; simp [encE] at hu; rcases hu with rfl | rfl <;> rfl
def orI (a b : Int) : Int := if a = 0 then b else a
set_option maxRecDepth 100000 in
theorem isNaN_ok (a : Int) (w : World) : Calls Tryz.prog 150 #[.int .i64 a] w fun e w' => e = .returned (.bool false) ∧ w = w' := by
  have h : (a != a) = false := by simp
  go_enter Tryz.func150, Tryz.ntmps150
  go_wp2_with fail
  go_ret
  exact ⟨rfl, rfl⟩

set_option maxRecDepth 100000 in
theorem compare_ok (a b : Int) (w : World) : Calls Tryz.prog 121 #[.int .i64 a, .int .i64 b] w fun e w' => e = .returned (.int .i64 (cmpI a b)) ∧ w = w' := by
  by_cases h1 : a < b
  · have e1 : cmpI a b = -1 := by simp [cmpI, h1]
    rw [e1]
    clear e1
    go_enter Tryz.func121, Tryz.ntmps121
    go_wp2_with (go_at_call 150; refine (isNaN_ok _ _).mono ?_; rintro e w' ⟨rfl, rfl⟩)
    go_ret
    exact ⟨rfl, rfl⟩
  · by_cases h2 : b < a
    · have e1 : cmpI a b = 1 := by simp [cmpI, h1, h2]
      rw [e1]
      clear e1
      go_enter Tryz.func121, Tryz.ntmps121
      go_wp2_with (go_at_call 150; refine (isNaN_ok _ _).mono ?_; rintro e w' ⟨rfl, rfl⟩)
      go_ret
      exact ⟨rfl, rfl⟩
    · have e1 : cmpI a b = 0 := by simp [cmpI, h1, h2]
      rw [e1]
      clear e1
      go_enter Tryz.func121, Tryz.ntmps121
      go_wp2_with (go_at_call 150; refine (isNaN_ok _ _).mono ?_; rintro e w' ⟨rfl, rfl⟩)
      go_ret
      exact ⟨rfl, rfl⟩

set_option maxRecDepth 100000 in
theorem or_ok (s : Nat) (a b : Int) (w : World) (c0 : w.cell? ⟨s, 0, none⟩ = some (.int .i64 a)) (c1 : w.cell? ⟨s, 1, none⟩ = some (.int .i64 b)) :
    Calls Tryz.prog 120 #[.slice (some ⟨s, 0, none⟩) 2 2] w fun e w' => e = .returned (.int .i64 (orI a b)) ∧ w = w' := by
  by_cases ha : a = 0
  · subst ha
    have e1 : orI 0 b = b := by simp [orI]
    rw [e1]
    clear e1
    have b0 : ((0 : Int) != 0) = false := by simp
    by_cases hb : b = 0
    · subst hb
      go_enter Tryz.func120, Tryz.ntmps120
      go_wp2_with fail
      refine wp_loop_rounds 3 ?_
      rw [rounds_succ]
      go_wp2_with fail
      rw [rounds_succ]
      go_wp2_with fail
      rw [rounds_succ]
      go_wp2_with fail
      go_ret
      exact ⟨rfl, rfl⟩
    · have hb' : (b != 0) = true := by simpa using hb
      clear hb
      go_enter Tryz.func120, Tryz.ntmps120
      go_wp2_with fail
      refine wp_loop_rounds 2 ?_
      rw [rounds_succ]
      go_wp2_with fail
      rw [rounds_succ]
      go_wp2_with fail
      go_ret
      exact ⟨rfl, rfl⟩
  · have e1 : orI a b = a := by simp [orI, ha]
    rw [e1]
    have ha' : (a != 0) = true := by simpa using ha
    clear e1 ha
    go_enter Tryz.func120, Tryz.ntmps120
    go_wp2_with fail
    refine wp_loop_rounds 1 ?_
    rw [rounds_succ]
    go_wp2_with fail
    go_ret
    exact ⟨rfl, rfl⟩

theorem cell_new (w : World) (cs : Array Value) (T : TypeId) {s i : Nat} {v : Value} (hs : s = w.heap.size) (h : cs[i]? = some v) : (w.alloc (.cells cs T)).drew.cell? ⟨s, i, none⟩ = some v := by
  subst hs
  simp [h]

open Go.Sort Go.Proofs in
set_option maxRecDepth 100000 in
set_option maxHeartbeats 1000000 in
theorem order_ok (x y : Edg) (W : World) : Calls Tryz.prog 109 #[valE x, valE y] W fun e w' => e = .returned (.int .i64 (cmpE x y)) ∧ ∃ q os', w' = grow (W.drewN q) os' := by
  unfold valE
  go_enter Tryz.func109, Tryz.ntmps109
  go_wp2_with fail
  refine wp_region_t [121] [0, 1, 0, 1, 2, 0, 1, 0, 1, 2, 6, 3, 0] [0, 2, 5, 7, 1, 3, 6, 8, 4, 9, 10, 11, 12] [0, 1, 0, 4, 15, 0, 32, 0, 128, 511, 1023, 2047, 4095] (by kernel_rfl) (by kernel_rfl) ?_
  go_wp2_with (first | (refine wpT_pure rfl rfl rfl rfl (fun _ _ => ?_)) | (refine wpT_look rfl rfl rfl (fun _ _ => ?_)))
  refine wpT_call rfl rfl rfl (fun K1 hK1 => ?_)
  go_wp2_with (go_at_call 121; refine (compare_ok _ _ _).mono ?_; rintro e w' ⟨rfl, rfl⟩)
  refine hK1 _ _ (Ext.refl _) ?_
  go_wp2_with (first | (refine wpT_pure rfl rfl rfl rfl (fun _ _ => ?_)) | (refine wpT_look rfl rfl rfl (fun _ _ => ?_)))
  refine wpT_call rfl rfl rfl (fun K2 hK2 => ?_)
  go_wp2_with (go_at_call 121; refine (compare_ok _ _ _).mono ?_; rintro e w' ⟨rfl, rfl⟩)
  refine hK2 _ _ (Ext.refl _) ?_
  go_wp2_with (first | (refine wpT_pure rfl rfl rfl rfl (fun _ _ => ?_)) | (refine wpT_look rfl rfl rfl (fun _ _ => ?_)))
  refine wpT_one rfl rfl rfl (fun K3 hK3 => ?_)
  go_wp2_with fail
  refine (or_ok _ _ _ _ (cell_new _ _ _ (by simp) rfl) (cell_new _ _ _ (by simp) rfl)).mono ?_
  rintro e w' ⟨rfl, rfl⟩
  refine hK3 _ _ ?_
  go_wp2_with (first | (refine wpT_pure rfl rfl rfl rfl (fun _ _ => ?_)) | (refine wpT_look rfl rfl rfl (fun _ _ => ?_)) | refine wpT_nil ?_)
  go_ret
  have e : orI (cmpI x.a y.a) (cmpI x.b y.b) = cmpE x y := by
    unfold orI cmpE
    by_cases h : cmpI x.a y.a = 0 <;> simp [h]
  exact ⟨by rw [← e]; rfl, 1, _, by rw [alloc_eq_grow, alloc_eq_grow, alloc_eq_grow, grow_grow, grow_grow]; rfl⟩

instance : Inhabited Edg := ⟨⟨0, 0⟩⟩
open Go.Sort in
theorem cmpE_swo : SWO (ltOf cmpE) where
  irrefl x := by simp [ltOf, cmpE_lt]
  trans x y z h1 h2 := by simp only [ltOf, decide_eq_true_eq, cmpE_lt] at *; omega
  ntrans x y z h1 h2 := by simp only [ltOf, decide_eq_false_iff_not, cmpE_lt] at *; omega
open Go.Sort in
theorem sort_ok (v : Value) (l : List Edg) (w : World) (h : Sl 40 2 encE w v l) (hl : l.length ≤ 4294967296) :
    Calls Tryz.prog 81 #[v, .func (.func 109) #[] #[]] w fun e w' => e = .returned (.tuple #[]) ∧ ∃ out, Sl 40 2 encE w' v out ∧ out.Perm l ∧
      out.Pairwise (fun a b => ¬ cmpE b a < 0) ∧ Tch v.ownBlock.toList w w' := by
  rcases h.shape with ⟨rfl, rfl⟩ | ⟨g, cap, rfl, hc⟩
  · refine (AnyF.slices_SortFunc_none Tryz.sortE none 0 _ w).mono ?_
    rintro e w' ⟨rfl, rfl⟩
    exact ⟨rfl, [], h, List.Perm.refl _, List.Pairwise.nil, Tch.refl _ _⟩
  · refine (AnyQ.slices_SortFunc Tryz.sortE 2 Tryz.isAgg40 Tryz.sizeOf40 encE (fun _ => rfl) encE_one cmpE cmpE_swo 109 #[] g 0 cap l.toArray w
      (enters_of Tryz.func109 (by kernel_rfl) rfl) (fun m os dk hs x y => order_ok x y _) (h.holdsK encE_len (by decide)) (h.lt rfl) (by simp; omega)).mono ?_
    rintro e w' ⟨rfl, d, n, os, hp, hs, rfl⟩
    obtain ⟨hp1, hp2, hp3⟩ := hp
    have hd : d.size = l.length := by simpa using hp1
    obtain ⟨hS, hT⟩ := h.sorted encE_len (by decide) d hd n os
    refine ⟨rfl, d.toList, hS, ?_, ?_, hT⟩
    · have e1 : d.extract 0 l.toArray.size = d := by rw [← hp1]; exact Array.extract_size
      have e2 : l.toArray.extract 0 l.toArray.size = l.toArray := Array.extract_size
      rw [e1, e2] at hp3
      exact hp3
    · rw [List.pairwise_iff_getElem]
      intro i j hi hj hij
      have hj' : j < l.length := by rw [← hd]; simpa using hj
      have hi' : i < l.length := by omega
      have := hs i j (Nat.zero_le _) hij (by simpa using hj')
      rw [getElem!_pos d j (by omega), getElem!_pos d i (by omega)] at this
      simpa [ltOf] using this


theorem edges_cs {O : List Nat} {w : World} : ∀ {l : List Edg} {css : List (List Value)}, RepCss O w (l.map dE) css → css = l.map encE
  | [], css, h => by simpa only [List.map_nil, RepCss] using h
  | e :: l, css, h => by
    simp only [List.map_cons, RepCss, dE, RepC, RepCs] at h
    obtain ⟨c1, c2, rfl, ⟨_, _, rfl, rfl, _, _, rfl, rfl, rfl⟩, h⟩ := h
    rw [edges_cs h]; rfl
theorem edges_rep (O : List Nat) (w : World) : ∀ l : List Edg, RepCss O w (l.map dE) (l.map encE)
  | [] => by simp [RepCss]
  | e :: l => by
    simp only [List.map_cons, RepCss]
    exact ⟨_, _, rfl, by simp [dE, RepC, RepCs, encE], edges_rep O w l⟩
theorem edges_sl {E : Nat} {w : World} {v : Value} {l : List Edg} : Sl E 2 id w v (l.map encE) ↔ Sl E 2 encE w v l := by
  unfold Sl
  rw [List.length_map, List.flatMap_map]
  exact Iff.rfl
theorem sort_tsl (l : List Edg) (hl : l.length ≤ 4294967296) : TurnSl C1 81 40 2 (l.map dE) [.func (.func 109) [] []] (fun _ ds => ∃ out : List Edg, ds = out.map dE ∧ out.Perm l ∧ out.Pairwise (fun a b => ¬ cmpE b a < 0)) := by
  intro O w v css us hs hb hO hr hk hg hus
  obtain ⟨u, us', rfl, h1, h2⟩ := reps_inv hus
  obtain rfl := reps_inv0 h2
  obtain ⟨cs, r, rfl⟩ := h1
  simp only [RepC, RepCss] at r
  obtain ⟨_, _, rfl, rfl, rfl⟩ := r
  obtain rfl := edges_cs hr
  refine ⟨by kernel_rfl, (sort_ok v l w (edges_sl.1 hs) hl).mono ?_⟩
  rintro e w' ⟨rfl, out, hs', hp, ho, ht⟩
  refine ⟨.tuple #[], .tuple [], _, out.map encE, rfl, ⟨out, rfl, hp, ho⟩, edges_sl.2 hs', edges_rep _ _ _, ?_, ⟨[.tuple #[]], by simp only [RepC, RepCss]; exact ⟨[], rfl, rfl⟩, rfl⟩, ht⟩
  intro x hx
  obtain ⟨e, _, rfl⟩ := List.mem_map.1 hx
  exact ⟨rfl, encE_one e⟩
end Go.Proofs.YteigfapjiekdnaaGreatDoor
end
