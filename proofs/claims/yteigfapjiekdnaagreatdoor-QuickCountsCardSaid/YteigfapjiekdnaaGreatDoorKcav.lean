/- Merged: Imd Lgr Seb Sec. -/
import Derived.Test.YteigfapjiekdnaaGreatDoorKcao
import Derived.Test.YteigfapjiekdnaaGreatDoorKcau
import Derived.Shelf.Spec.SlicesGrow
import Derived.Test.YteigfapjiekdnaaGreatDoorRows
import Derived.Test.YteigfapjiekdnaaGreatDoorKcas
import Derived.WalkKit
import Derived.OwnWalkIn
import Derived.TacticsInMore
import Derived.LoopNIn
import Derived.LoopIn
section
/- quick, plain: images of turned patterns; own orders divide them. -/
namespace Go.Gr
open Go.Proofs.YteigfapjiekdnaaGreatDoor
theorem img_less {G : Gr} {p : Pt} (i : Nat) {L : List Int} (h : IsImg G p false L) : IsImg G (lessP p i) false L := by
  refine ⟨h.len, h.nodup, h.lt, h.label, fun a b x y hab hx hy hp => h.has a b x y hab hx hy ?_, fun e => by cases e⟩
  unfold phOf lessP at hp
  have := of_decide_eq_true hp
  rcases List.mem_append.1 this with h | h
  · exact decide_eq_true (List.mem_of_mem_take h)
  · exact decide_eq_true (List.mem_of_mem_drop h)
theorem turn_cases (a b : Int) : turn ⟨a, b⟩ = ⟨a, b⟩ ∨ turn ⟨a, b⟩ = ⟨b, a⟩ := by unfold turn; simp only [Edg.mk.injEq]; omega
theorem turn_inj {a b c d : Int} (h : turn ⟨a, b⟩ = turn ⟨c, d⟩) : (a = c ∧ b = d) ∨ (a = d ∧ b = c) := by
  unfold turn at h; simp only [Edg.mk.injEq] at h; omega
section
variable {n : Nat} {p : Pt} {b : List Int}
theorem phOf_turn (hb : IsOrd n b) (hp : PtOk n p) {i j : Nat} (hi : i < n) (hj : j < n) : phOf (turnP p b) (pl b i) (pl b j) = phOf p i j := by
  rw [Bool.eq_iff_iff]
  unfold phOf
  rw [decide_eq_true_eq, decide_eq_true_eq, (turnP_edges hb hp).2]
  constructor
  · rintro ⟨x, hx, e⟩
    obtain ⟨c, d, hcd, hdn, rfl⟩ := edge_nat (hp.edge x hx)
    rw [mv_is b hb (by omega) hdn] at e
    rcases turn_inj e with ⟨h1, h2⟩ | ⟨h1, h2⟩
    · have := pl_inj hb hi (show c < n by omega) (by omega)
      have := pl_inj hb hj hdn (by omega)
      subst_vars
      rw [turn_lt (by omega)]; exact hx
    · have := pl_inj hb hi hdn (by omega)
      have := pl_inj hb hj (show c < n by omega) (by omega)
      subst_vars
      rw [turn_gt (by omega)]; exact hx
  · intro h
    refine ⟨_, h, ?_⟩
    rcases turn_cases (i : Int) (j : Int) with e | e
    · rw [e, mv_is b hb hi hj]
    · rw [e, mv_is b hb hj hi, turn_comm]
def mvI (b L : List Int) : List Int := putL b L b.length
theorem mvI_len (b L : List Int) : (mvI b L).length = L.length := putL_len _ _ _
theorem mvI_at (hb : IsOrd n b) {L : List Int} (hL : L.length = n) {i : Nat} (hi : i < n) : (mvI b L)[pl b i]? = L[i]? := putL_at hb hL hi
theorem mvI_from (hb : IsOrd n b) {L : List Int} (hL : L.length = n) {k : Nat} {x : Int} (h : (mvI b L)[k]? = some x) : ∃ i, i < n ∧ pl b i = k ∧ L[i]? = some x := by
  have hk := (List.getElem?_eq_some_iff.1 h).1
  rw [mvI_len, hL] at hk
  obtain ⟨i, hi, e⟩ := pl_surj hb hk
  refine ⟨i, hi, e, ?_⟩
  rw [← mvI_at hb hL hi, e]; exact h
theorem list_ext {a c : List Int} {m : Nat} (ha : a.length = m) (hc : c.length = m) (h : ∀ k, k < m → a[k]? = c[k]?) : a = c := by
  refine List.ext_getElem? fun k => ?_
  by_cases hk : k < m
  · exact h k hk
  · rw [List.getElem?_eq_none (by omega), List.getElem?_eq_none (by omega)]
theorem mvI_inj (hb : IsOrd n b) {L M : List Int} (hL : L.length = n) (hM : M.length = n) (h : mvI b L = mvI b M) : L = M :=
  list_ext hL hM fun i hi => by rw [← mvI_at hb hL hi, ← mvI_at hb hM hi, h]
theorem nodup_of_at {L : List Int} (h : ∀ (i j : Nat) (x : Int), L[i]? = some x → L[j]? = some x → i = j) : L.Nodup := by
  rw [List.Nodup, List.pairwise_iff_getElem]
  intro i j hi hj hij e
  have := h i j L[i] (List.getElem?_eq_getElem hi) (by rw [List.getElem?_eq_getElem hj, e])
  omega
theorem img_turn {G : Gr} {w : Bool} (hb : IsOrd n b) (hp : PtOk n p) {L : List Int} (h : IsImg G p w L) : IsImg G (turnP p b) w (mvI b L) := by
  have hL : L.length = n := h.len.trans hp.len
  refine ⟨by rw [mvI_len, turnP_len, h.len], nodup_of_at fun i j x hx hy => ?_, fun x hx => ?_, fun k x hx => ?_, fun i j x y hij hx hy hh => ?_, fun hw i j x y hij hx hy hh => ?_⟩
  · obtain ⟨u, hu, rfl, hux⟩ := mvI_from hb hL hx
    obtain ⟨v, hv, rfl, hvx⟩ := mvI_from hb hL hy
    rw [nodup_at h.nodup hux hvx]
  · obtain ⟨k, hk⟩ := List.mem_iff_getElem?.1 hx
    obtain ⟨u, hu, rfl, hux⟩ := mvI_from hb hL hk
    exact h.lt x (List.mem_of_getElem? hux)
  · obtain ⟨u, hu, rfl, hux⟩ := mvI_from hb hL hx
    rw [h.label u x hux]
    unfold plOf
    rw [turnP_at hb hp hu]
  · obtain ⟨u, hu, rfl, hux⟩ := mvI_from hb hL hx
    obtain ⟨v, hv, rfl, hvx⟩ := mvI_from hb hL hy
    rw [phOf_turn hb hp hu hv] at hh
    exact h.has u v x y (fun e => hij (by rw [e])) hux hvx hh
  · obtain ⟨u, hu, rfl, hux⟩ := mvI_from hb hL hx
    obtain ⟨v, hv, rfl, hvx⟩ := mvI_from hb hL hy
    rw [phOf_turn hb hp hu hv]
    exact h.only hw u v x y (fun e => hij (by rw [e])) hux hvx hh
theorem map_nodup {α β : Type} {f : α → β} {l : List α} (hl : l.Nodup) (h : ∀ x ∈ l, ∀ y ∈ l, f x = f y → x = y) : (l.map f).Nodup := by
  rw [List.Nodup, List.pairwise_map]
  exact List.Pairwise.imp_of_mem (fun hx hy hne e => hne (h _ hx _ hy e)) hl
theorem imgP_turn_le {G : Gr} {w : Bool} (hb : IsOrd n b) (hp : PtOk n p) : (imgP G p w).length ≤ (imgP G (turnP p b) w).length := by
  have h1 : ((imgP G p w).map (mvI b)).Nodup := map_nodup (imgP_nodup G p w) fun x hx y hy e => mvI_inj hb ((mem_imgP.1 hx).len.trans hp.len) ((mem_imgP.1 hy).len.trans hp.len) e
  have := nodup_len (m := imgP G (turnP p b) w) h1 fun x hx => by
    obtain ⟨L, hL, rfl⟩ := List.mem_map.1 hx
    exact mem_imgP.2 (img_turn hb hp (mem_imgP.1 hL))
  rwa [List.length_map] at this
theorem imgP_turn {G : Gr} {w : Bool} (hb : IsOrd n b) (hp : PtOk n p) : (imgP G (turnP p b) w).length = (imgP G p w).length := by
  have h1 := imgP_turn_le (G := G) (w := w) hb hp
  have h2 := imgP_turn_le (G := G) (w := w) (back_ord hb) (turnP_ok hb hp)
  rw [turn_back hb hp] at h2
  omega
theorem mvI_then {a : List Int} (ha : IsOrd n a) (hb : IsOrd n b) {L : List Int} (hL : L.length = n) : mvI b (mvI a L) = mvI (thenL a b) L := by
  refine list_ext (m := n) (by rw [mvI_len, mvI_len, hL]) (by rw [mvI_len, hL]) fun k hk => ?_
  obtain ⟨i, hi, e⟩ := pl_surj (thenL_ord ha hb) hk
  rw [← e, mvI_at (thenL_ord ha hb) hL hi, pl_then ha hb hi, mvI_at hb (by rw [mvI_len, hL]) (pl_lt ha hi), mvI_at ha hL hi]
theorem mvI_id {L : List Int} (hL : L.length = n) : mvI (idL n) L = L := by
  refine list_ext (m := n) (by rw [mvI_len, hL]) hL fun k hk => ?_
  have := mvI_at (idL_ord n) hL hk
  rwa [pl_id hk] at this
theorem mvI_free {a : List Int} (ha : IsOrd n a) (hb : IsOrd n b) {L : List Int} (hL : L.length = n) (hn : L.Nodup) (h : mvI a L = mvI b L) : a = b := by
  refine ord_ext ha hb fun i hi => ?_
  have h1 := mvI_at ha hL hi
  have hx := List.getElem?_eq_getElem (l := L) (i := i) (by omega)
  generalize L[i] = x at hx
  rw [h, hx] at h1
  obtain ⟨j, hj, e, hjx⟩ := mvI_from hb hL h1
  have hij := nodup_at hn hx hjx
  subst hij; exact e.symm
/-- images that own orders lead to -/
def orbI (G : Gr) (p : Pt) (w : Bool) (L : List Int) : List (List Int) := (imgP G p w).filter fun M => (mapsP p p).any fun o => decide (mvI o L = M)
theorem mem_orbI {G : Gr} {w : Bool} {L M : List Int} : M ∈ orbI G p w L ↔ M ∈ imgP G p w ∧ ∃ o ∈ mapsP p p, mvI o L = M := by
  unfold orbI
  rw [List.mem_filter, List.any_eq_true]
  simp only [decide_eq_true_eq]
theorem own_img {G : Gr} {w : Bool} (hp : PtOk n p) {o : List Int} (ho : o ∈ mapsP p p) {L : List Int} (h : IsImg G p w L) : IsImg G p w (mvI o L) := by
  have := img_turn (G := G) (w := w) (own_ord hp ho) hp h
  rwa [((mem_maps hp hp).1 ho).2] at this
theorem orbI_eq {G : Gr} {w : Bool} (hp : PtOk n p) {L M : List Int} (hL : IsImg G p w L) (hM : IsImg G p w M) : orbI G p w L = orbI G p w M ↔ ∃ o ∈ mapsP p p, mvI o L = M := by
  have hLn : L.length = n := hL.len.trans hp.len
  have hMn : M.length = n := hM.len.trans hp.len
  constructor
  · intro h
    have : M ∈ orbI G p w M := mem_orbI.2 ⟨mem_imgP.2 hM, _, id_own hp, mvI_id hMn⟩
    rw [← h] at this
    exact (mem_orbI.1 this).2
  · rintro ⟨o, ho, rfl⟩
    unfold orbI
    refine List.filter_congr fun K _ => ?_
    rw [Bool.eq_iff_iff, List.any_eq_true, List.any_eq_true]
    simp only [decide_eq_true_eq]
    constructor
    · rintro ⟨u, hu, rfl⟩
      refine ⟨_, own_then hp (own_back hp ho) hu, ?_⟩
      rw [mvI_then (own_ord hp ho) (thenL_ord (back_ord (own_ord hp ho)) (own_ord hp hu)) hLn, ← then_assoc (own_ord hp ho) (back_ord (own_ord hp ho)) (own_ord hp hu), then_back (own_ord hp ho), id_then (own_ord hp hu)]
    · rintro ⟨u, hu, rfl⟩
      exact ⟨_, own_then hp ho hu, (mvI_then (own_ord hp ho) (own_ord hp hu) hLn).symm⟩
theorem own_divides {G : Gr} {w : Bool} (hp : PtOk n p) : ∃ c, (imgP G p w).length = c * (mapsP p p).length := by
  obtain ⟨c, _, _, h⟩ := classes (orbI G p w) (mapsP p p).length _ (imgP G p w) (Nat.le_refl _) fun y hy => by
    have hyI := mem_imgP.1 hy
    have hyn : y.length = n := hyI.len.trans hp.len
    have hm : ((mapsP p p).map fun o => mvI o y).Nodup := map_nodup (maps_nodup p p) fun a ha b hb e => mvI_free (own_ord hp ha) (own_ord hp hb) hyn hyI.nodup e
    have h1 := nodup_len (m := (mapsP p p).map fun o => mvI o y) ((imgP_nodup G p w).filter fun x => decide (orbI G p w x = orbI G p w y)) fun x hx => by
      obtain ⟨h1, h2⟩ := List.mem_filter.1 hx
      obtain ⟨o, ho, e⟩ := (orbI_eq hp hyI (mem_imgP.1 h1)).1 (of_decide_eq_true h2).symm
      exact List.mem_map.2 ⟨o, ho, e⟩
    have h2 := nodup_len (m := (imgP G p w).filter fun x => decide (orbI G p w x = orbI G p w y)) hm fun x hx => by
      obtain ⟨o, ho, rfl⟩ := List.mem_map.1 hx
      have hxI := own_img hp ho hyI
      exact List.mem_filter.2 ⟨mem_imgP.2 hxI, decide_eq_true ((orbI_eq hp hyI hxI).2 ⟨o, ho, rfl⟩).symm⟩
    rw [List.length_map] at h1 h2
    omega
  exact ⟨c.length, h⟩
end
end Go.Gr
end

section
/-
  DERIVED: THE SHELF's CONTRACTS AT THIS DUMP, IN PLAIN WORDS (tools/lay-plain.mjs out of 'YteigfapjiekdnaaGreatDoorLgrTmp.lean', which tools/lay-shelf.mjs wrote): THE SAME DECLARATIONS UNDER THE SAME NAMES: 'import', 'namespace', 'open', 'def', 'theorem' AND NOTHING ELSE: no command of the shelf's: FOR A HAND-IN. Each laying: the table of numbers ('.._ren') and one theorem, a field a fact of the dump's own or the kernel's comparison; each contract: ONE APPLICATION.
-/
namespace Go.Proofs
open Go.Shelf
def Tryz.growE_ren : Go.Shelf.Ren := ⟨fun | 4 => 127 | n => n, fun | 22 => 36 | 25 => 40 | 3 => 3 | 4 => 4 | 9 => 9 | 20 => 20 | 0 => 0 | 2 => 3 | n => n, fun | n => n⟩
theorem Tryz.growE : Go.Proofs.Lays8.n4 Tryz.prog Tryz.growE_ren := {
  mixed := by kernel_rfl
  f4 := ⟨Tryz.f127.name, by decide, Tryz.func127.trans (congrArg some (by kernel_rfl))⟩
  t0 := Tryz.underlying0
  a0 := Tryz.isAgg0
  z0 := Tryz.sizeOf0
  v0 := Tryz.zeroValue0
  t3 := Tryz.underlying3
  a3 := Tryz.isAgg3
  z3 := Tryz.sizeOf3
  v3 := Tryz.zeroValue3
  t4 := Tryz.underlying4
  a4 := Tryz.isAgg4
  z4 := Tryz.sizeOf4
  v4 := Tryz.zeroValue4
  t9 := Tryz.underlying9
  a9 := Tryz.isAgg9
  z9 := Tryz.sizeOf9
  v9 := Tryz.zeroValue9
  t20 := Tryz.underlying20
  a20 := Tryz.isAgg20
  z20 := Tryz.sizeOf20
  v20 := Tryz.zeroValue20
  t22 := Tryz.underlying36
  a22 := Tryz.isAgg36
  z22 := Tryz.sizeOf36
  v22 := Tryz.zeroValue36 }
end Go.Proofs
end

section
/- From an owned slice to data; slices.Clone of ints as data, in a world. -/
namespace Go.Proofs.YteigfapjiekdnaaGreatDoor
open Go.Sx Go.RowKit Go.Reg Go.Gr

set_option maxRecDepth 100000
theorem css_len {O : List Nat} {w : World} : ∀ {ds : List Da} {css : List (List Value)}, RepCss O w ds css → css.length = ds.length
  | [], css, h => by simp only [RepCss] at h; subst h; rfl
  | d :: ds, css, h => by
    simp only [RepCss] at h
    obtain ⟨c1, c2, rfl, _, h⟩ := h
    simp [css_len h]
theorem rep_of_sl {O : List Nat} {w : World} {E k : Nat} {v : Value} {css : List (List Value)} {ds : List Da} (hs : Sl E k id w v css) (hb : ∀ b, v.ownBlock = some b → b ∉ O) (hr : RepCss O w ds css) (hk : ∀ x ∈ css, RowOk k x) : Rep O w (.list k ds) v := by
  have hl := css_len hr
  rcases hs.2 with ⟨rfl, hn⟩ | ⟨g, cap, cur, rfl, _, hg, hnc, hcm, hcs, htake⟩
  · have : css = [] := List.eq_nil_of_length_eq_zero hn
    subst this
    have : ds = [] := List.eq_nil_of_length_eq_zero (by simpa using hl.symm)
    subst this
    exact ⟨[.slice none 0 0], by simp only [RepC]; exact ⟨none, 0, [], rfl, by simp, by unfold maxLen; omega, by simp [RepCss], by simp, .inl (by simp)⟩, rfl⟩
  · refine ⟨[.slice (some ⟨g, 0, none⟩) css.length cap], ?_, rfl⟩
    simp only [RepC]
    refine ⟨_, cap, css, by rw [hl], by rw [← hl]; exact hnc, hcm, hr, hk, .inr ⟨g, 0, rfl, hb g rfl, (Array.getElem?_eq_some_iff.1 hg).1, ?_⟩⟩
    have he : css.flatMap id = css.flatten := by simp [List.flatMap_id]
    intro j u hj
    rw [← he, ← htake, List.getElem?_take] at hj
    split at hj
    · simp only [World.cell?, hg, Nat.zero_add]
      simpa using hj
    · cases hj
theorem clone_rep {O : List Nat} {A : World} (hO : ∀ b ∈ O, b < A.heap.size) (hg : Glob C1 O A) {x : List Int} (hx : x.length ≤ 4294967296) {v : Value} (h : Rep O A (dIs x) v) :
    Calls Tryz.prog 55 #[v] A fun e B => ∃ u, e = .returned u ∧ Rep O B (dIs x) u ∧ Tch [] A B := by
  obtain ⟨_, hc⟩ := clone_sl x hx O A [v] hO hg (reps_cons h reps_nil)
  refine hc.mono ?_
  rintro e B ⟨u, css, ds, rfl, rfl, hs, hb, hr, hk, ht⟩
  refine ⟨u, rfl, rep_of_sl hs (fun b hb' hm => ?_) ?_ hk, ht⟩
  · have := hb b hb'; have := hO b hm; omega
  · exact RepCss.later ⟨Nat.le_refl _, fun _ _ _ => rfl, fun b hb' _ => fun hm => hb' (List.mem_append_left _ hm)⟩ _ css hr
end Go.Proofs.YteigfapjiekdnaaGreatDoor
end

section
/- canon.search: no place to go. -/
namespace Go.Proofs.YteigfapjiekdnaaGreatDoor
open Go.Sx Go.RowKit Go.Reg Go.Gr

set_option maxRecDepth 100000
theorem rep_list_shape {O : List Nat} {w : World} {l : List Int} {v : Value} (h : Rep O w (dInts l) v) : ∃ a c, v = .slice a l.length c ∧ l.length ≤ c ∧ c ≤ maxLen := by
  obtain ⟨cs, r, rfl⟩ := h
  simp only [dInts, RepC] at r
  obtain ⟨a, c, css, rfl, h1, h2, _⟩ := r
  rw [List.length_map] at h1
  exact ⟨a, c, by rw [List.length_map]; rfl, h1, h2⟩
set_option maxHeartbeats 4000000 in
theorem search_zero (fr to : List Int) : SearchAt fr to 0 := by
  intro ah hk haj h8 h8' l XS J Jx hJ hY O A vf vt va pre hO hgl rf rt ra hj hpre
  have hcl := fun (B : World) => @clone_rep O A hO hgl (ah.map fun j : Nat => (j : Int)) (by simp; omega) va ra
  obtain ⟨a1, c1, rfl, _, _⟩ := rep_list_shape rf
  obtain ⟨a2, c2, rfl, _, _⟩ := rep_list_shape rt
  obtain ⟨a3, c3, rfl, _, _⟩ := rep_list_shape ra
  have hcl := hcl A
  rw [List.length_map] at hcl ⊢
  have hlen : fr.length = ah.length := by omega
  rw [hlen]
  refine callsIn_of_wp Tryz.func116 rfl trivial ?_ rfl
  simp only [Tryz.ntmps116, List.size_toArray, List.length_cons, List.length_nil, Nat.reduceAdd, Nat.reduceSub, Array.replicate_succ, Array.replicate_zero, List.push_toArray, List.append_toArray, List.nil_append, List.cons_append]
  gi_wp2_with (refine ⟨trivial, ?_⟩; gi_at_call 55; refine (callsIn_wide.2 hcl).mono ?_; rintro e B ⟨u, rfl, hru, htB⟩; obtain ⟨fn, tmps, assign, body, hy, hR⟩ := hY O pre (ah.map fun j : Nat => (j : Int)) u B (fun b hb => Nat.lt_of_lt_of_le (hO b hb) htB.size) (hJ _ _ _ _ hj htB) hpre hru)
  refine hR.mono ?_
  rintro e B2 ⟨S', hg2, ⟨rfl, hj2⟩ | ⟨rfl, hx2⟩⟩
  · gi_wp2
    go_ret
    exact ⟨S', (Grow.same (htB.mono (by simp)) hO).trans hg2, .inl ⟨rfl, hj2⟩⟩
  · gi_wp2
    go_ret
    exact ⟨S', (Grow.same (htB.mono (by simp)) hO).trans hg2, .inr ⟨rfl, _, List.prefix_refl _, hx2⟩⟩
end Go.Proofs.YteigfapjiekdnaaGreatDoor
end
