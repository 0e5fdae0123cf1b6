/- Merged: Fau Fst Fsu Qii Qta Qtb Seb Sec. -/
import Derived.Test.YteigfapjiekdnaaGreatDoorKfae
import Derived.Test.YteigfapjiekdnaaGreatDoorKfba
import Derived.Test.YteigfapjiekdnaaGreatDoorSxu
import Derived.Test.YteigfapjiekdnaaGreatDoorKfay
import Derived.Test.YteigfapjiekdnaaGreatDoorKfaz
import Derived.Test.YteigfapjiekdnaaGreatDoorKfas
import Derived.WalkKit
import Derived.OwnWalkIn
import Derived.TacticsInMore
import Derived.LoopNIn
import Derived.LoopIn
section
/- Faults, told for the engine: New, Code. -/
namespace Go.Proofs.YteigfapjiekdnaaGreatDoor
open Go.Sx Go.RowKit Go.Reg

set_option maxRecDepth 100000
theorem errT_glob {O : List Nat} {w : World} (h : Glob C1 O w) : ErrT w ∧ 0 ∉ O := by
  obtain ⟨cs, h1, h2⟩ := (h _ (List.mem_singleton_self _)).1
  simp only [RepC] at h1
  obtain ⟨b, o, c, rfl, hb, _, rfl, hc⟩ := h1
  simp only [toV, List.headD_cons, Value.pointer.injEq, Option.some.injEq, Addr.mk.injEq, and_true] at h2
  obtain ⟨rfl, rfl⟩ := h2
  exact ⟨hc 0 _ rfl, hb⟩
theorem ffault_pure (c a : Int) (s : ByteArray) : Pure C1 99 [dF c a s] (fun y => y = .ref (.agg [.int .i64 c, .int .i64 a, .str s])) := by
  intro O w us hO hg hr
  obtain ⟨v, vs, rfl, h1, h2⟩ := reps_inv hr
  obtain rfl := reps_inv0 h2
  obtain ⟨cs, r, rfl⟩ := h1
  simp only [dF, RepC] at r
  obtain ⟨c2, ⟨b, o, c3, rfl, r1, r2, r3, r4⟩, rfl⟩ := r
  obtain ⟨hE, h0⟩ := errT_glob hg
  refine ⟨by kernel_rfl, (ffault_any b o w hE (by omega)).mono ?_⟩
  rintro e w' ⟨rfl, ht⟩
  refine ⟨_, _, rfl, rfl, ⟨[_], ?_, rfl⟩, ht⟩
  have := RepC.later (Later.same ht O) (.ref (.agg [.int .i64 c, .int .i64 a, .str s])) [.pointer (some ⟨b, o, none⟩)] (by simp only [RepC]; exact ⟨b, o, c3, rfl, r1, r2, r3, r4⟩)
  exact this
theorem code_pure (c a : Int) (s : ByteArray) : Pure C1 45 [dF c a s] (fun y => y = .int .i64 c) := by
  refine pure_of c1_ok (pl := []) (G := []) Tryz.func45 rfl Tryz.ntmps45 (by intro vs w; kernel_rfl) (by kernel_rfl) (by simp) ?_
  ((conv => whnf); repeat' (first | (refine if_yes (by first | omega | rfl | assumption | exact ⟨rfl, rfl⟩ | exact ⟨rfl, rfl, rfl⟩ | exact ⟨rfl, rfl, rfl, rfl⟩) ?_; conv => whnf) | (refine if_no (by first | omega | assumption | exact fun h => h rfl | exact fun h => h (by assumption) | exact fun h => h ⟨rfl, rfl⟩ | exact fun h => h ⟨rfl, rfl, rfl⟩ | exact fun h => h ⟨rfl, rfl, rfl, rfl⟩) ?_; conv => whnf) | (refine i64_is (by omega) ?_; conv => whnf) | (refine at_is rfl (by assumption) ?_; conv => whnf) | (refine most_ok (by (try simp only [List.length_append, List.length_map, List.length_cons, List.length_nil]); omega) ?_; conv => whnf) | (refine rem_ok (by first | decide | omega) ?_; conv => whnf) | (refine if_both (fun _ => ?_) (fun _ => ?_) <;> conv => whnf)))
  refine call_pure rfl (ffault_pure c a s) ?_; rintro y rfl
  ((conv => whnf); repeat' (first | (refine if_yes (by first | omega | rfl | assumption | exact ⟨rfl, rfl⟩ | exact ⟨rfl, rfl, rfl⟩ | exact ⟨rfl, rfl, rfl, rfl⟩) ?_; conv => whnf) | (refine if_no (by first | omega | assumption | exact fun h => h rfl | exact fun h => h (by assumption) | exact fun h => h ⟨rfl, rfl⟩ | exact fun h => h ⟨rfl, rfl, rfl⟩ | exact fun h => h ⟨rfl, rfl, rfl, rfl⟩) ?_; conv => whnf) | (refine i64_is (by omega) ?_; conv => whnf) | (refine at_is rfl (by assumption) ?_; conv => whnf) | (refine most_ok (by (try simp only [List.length_append, List.length_map, List.length_cons, List.length_nil]); omega) ?_; conv => whnf) | (refine rem_ok (by first | decide | omega) ?_; conv => whnf) | (refine if_both (fun _ => ?_) (fun _ => ?_) <;> conv => whnf)))
  all_goals exact rfl
end Go.Proofs.YteigfapjiekdnaaGreatDoor
end

section
/- law12: alive, QuickImages: the walks. -/
namespace Go.Proofs.YteigfapjiekdnaaGreatDoor
open Go.Sx Go.RowKit Go.Reg Go.Gr

set_option maxRecDepth 100000
def qxE : List Edg := [⟨0, 2⟩, ⟨1, 2⟩, ⟨0, 1⟩]
def qxG : Gr := ⟨[0, 0, 0], [⟨0, 1⟩, ⟨0, 2⟩, ⟨1, 2⟩]⟩
theorem qx_canon : canon qxE = qxG.edges := (canon_eq (by decide) (by decide) (by decide)).symm
theorem qx_made : madeY [0, 0, 0] qxE = .tuple [dG qxG, dM qxG.labels qxG.edges, .bool true] := by
  have h : madeG [0, 0, 0] qxE = some qxG := by
    unfold madeG
    rw [if_pos (by decide), show newErr [0, 0, 0] qxE = none by decide, qx_canon]; rfl
  unfold madeY
  rw [h]
theorem qx_ok : qxG.Ok := by
  have h : madeG [0, 0, 0] qxE = some qxG := by
    unfold madeG
    rw [if_pos (by decide), show newErr [0, 0, 0] qxE = none by decide, qx_canon]; rfl
  exact (madeG_some h).2.1
theorem qx_text : patB ⟨[0, 0], [⟨0, 1⟩]⟩ = [48, 44, 48, 124, 48, 45, 49] := by
  have h0 : Lib.itoa 0 = [48] := by rw [show (0 : Int) = ((0 : Nat) : Int) from rfl, itoa_nat, Lib.decDigits_one (by omega)]; rfl
  have h1 : Lib.itoa 1 = [49] := by rw [show (1 : Int) = ((1 : Nat) : Int) from rfl, itoa_nat, Lib.decDigits_one (by omega)]; rfl
  unfold patB edgB
  simp only [List.map_cons, List.map_nil, h0, h1]
  rfl
def pl_qal : List (Nat × Plan) := []
def G_qal : List FuncId := [10, 40, 71, 45]
theorem cok_qal : codeOk Tryz.prog G_qal pl_qal (Tryz.f30.body.getD .skip) = true := by kernel_rfl
theorem run_qal (vs : Array Value) (w : World) : (callFunc 30 vs).run C1.P w = .ok (.enter 30 vs) w := by kernel_rfl
set_option maxHeartbeats 4000000 in
theorem qalive_pure : Sx.Pure C3 30 [] (fun y => y = .bool true) := by
  have hmd := Pure.up3 (made_pure [0, 0, 0] qxE)
  rw [qx_made] at hmd
  have hv1 := Pure.up3 (qvert_pure qxG qx_ok [2, 0] ⟨[0, 0], [⟨0, 1⟩]⟩ (fun _ _ => by
    have := pmake1_pure [0, 0] (by decide) ⟨0, 1⟩ (by decide) (by decide) (by decide)
    rw [show ([2, 0] : List Int).map (labelV qxG) = [0, 0] by decide, show colsF (adjF qxG.edges ([2, 0] : List Int)) ([2, 0] : List Int).length = [⟨0, 1⟩] by decide]
    exact this) (by decide))
  rw [if_neg (by decide), if_neg (by decide)] at hv1
  have hv2 := Pure.up3 (qvert_pure qxG qx_ok [0, 0] ⟨[], []⟩ (fun _ h => by exact absurd h (by decide)) (by decide))
  rw [if_neg (by decide), if_pos (by decide)] at hv2
  have htx := ptext_pure ⟨[0, 0], [⟨0, 1⟩]⟩ (by decide) (by decide) (by decide) (by decide)
  rw [qx_text] at htx
  have hc := Pure.up3 (code_pure 2 0 listS)
  refine pure_of c3_ok (pl := pl_qal) (G := G_qal) Tryz.func30 rfl Tryz.ntmps30 run_qal cok_qal (by simp) ?_
  (conv => whnf)
  (repeat' ((first | refine ord_ok (by (conv => whnf); (repeat' ((first | refine call_frz 9 rfl ?_ | refine call_frz 13 rfl ?_ | refine call_eq (xs := [dIs [0, 0, 0], dEs qxE]) rfl hmd ?_ | refine call_frz 20 rfl ?_ | refine call_eq (xs := [dG qxG, dIs [2, 0]]) rfl hv1 ?_ | refine call_frz 26 rfl ?_ | refine call_eq (xs := [dG qxG, dIs [0, 0]]) rfl hv2 ?_ | refine call_eq rfl htx ?_ | refine call_eq rfl hc ?_ | refine ify ?_ | refine ifn ?_ | refine i6 ?_ | refine ati ?_ | refine mst ?_ | refine rmd ?_ | refine ibo (fun _ => ?_) (fun _ => ?_)) <;> conv => whnf)); (all_goals (repeat' (first | exact trivial | exact rfl | refine And.intro ?_ ?_)))) ?_ | refine call_frz 9 rfl ?_ | refine call_frz 13 rfl ?_ | refine call_eq (xs := [dIs [0, 0, 0], dEs qxE]) rfl hmd ?_ | refine call_frz 20 rfl ?_ | refine call_eq (xs := [dG qxG, dIs [2, 0]]) rfl hv1 ?_ | refine call_frz 26 rfl ?_ | refine call_eq (xs := [dG qxG, dIs [0, 0]]) rfl hv2 ?_ | refine call_eq rfl htx ?_ | refine call_eq rfl hc ?_ | refine ify ?_ | refine ifn ?_ | refine i6 ?_ | refine ati ?_ | refine mst ?_ | refine rmd ?_ | refine ibo (fun _ => ?_) (fun _ => ?_)) <;> conv => whnf))
  exact rfl
end Go.Proofs.YteigfapjiekdnaaGreatDoor
end

section
/- quick: Vert, Edge of any list. -/
namespace Go.Proofs.YteigfapjiekdnaaGreatDoor
open Go.Sx Go.RowKit Go.Reg Go.Gr

set_option maxRecDepth 100000
theorem labelV_ok {G : Gr} (hG : G.Ok) {x : Int} (hx : 0 ≤ x ∧ x < G.labels.length) : 0 ≤ labelV G x ∧ labelV G x ≤ 255 := by
  obtain ⟨m, rfl⟩ := Int.eq_ofNat_of_zero_le hx.1
  have hm : m < G.labels.length := by omega
  unfold labelV
  rw [if_pos hx, Int.toNat_natCast, List.getElem?_eq_getElem hm]
  exact hG.lab _ (List.getElem_mem hm)
theorem lErr_labels {G : Gr} (hG : G.Ok) {v : List Int} (h8 : v.length ≤ 8) (hv : ∀ x ∈ v, 0 ≤ x ∧ x < G.labels.length) : lErr (v.map (labelV G)) = none := by
  refine lErr_no (by rw [List.length_map]; omega) (fun k y hk hy => ?_)
  rw [List.getElem?_map] at hy
  obtain ⟨x, hx, rfl⟩ := Option.map_eq_some_iff.1 hy
  have := labelV_ok hG (hv x (List.mem_of_getElem? hx))
  unfold badLabel
  simp; omega
theorem link_range {G : Gr} {l : List Int} (h : linkedV G l = true) : ∀ x ∈ l, 0 ≤ x ∧ x < G.labels.length := by
  intro x hx
  obtain ⟨i, hi⟩ := List.mem_iff_getElem?.1 hx
  have := linkN_pre h hi
  unfold linkAt hasV at this
  simp only [Bool.and_eq_true, decide_eq_true_eq] at this
  exact this.1
theorem link_nodup {G : Gr} {l : List Int} (h : linkedV G l = true) : l.Nodup := by
  rw [List.nodup_iff_pairwise_ne, List.pairwise_iff_getElem]
  intro i j hi hj hij he
  have := linkN_pre h (List.getElem?_eq_getElem hj)
  unfold linkAt at this
  simp only [Bool.and_eq_true, Bool.not_eq_true', decide_eq_false_iff_not] at this
  exact this.2.1 (by rw [← he]; exact List.mem_take_iff_getElem.2 ⟨i, by omega, rfl⟩)
def vertP (G : Gr) (l : List Int) : Pt := ⟨l.map (labelV G), madeE G.edges l⟩
theorem qvertG_pure (G : Gr) (hG : G.Ok) (l : List Int) (hm : l.length ≤ 9000000000000000000) :
    Pure C1 40 [dG G, dIs l] (fun y => y = if 8 < l.length then .tuple [dP0, dF 6 0 listS] else if linkedV G l = false then .tuple [dP0, dF 2 0 listS] else .tuple [dPt (vertP G l), .nili]) := by
  refine qvert_pure G hG l (vertP G l) (fun h8 hl => ?_) hm
  have hlt : ∀ e ∈ G.edges, e.a < e.b := fun e he => (hG.edge e he).2.1
  have hsq : l.length * l.length ≤ 8 * 8 := Nat.mul_le_mul h8 h8
  have hcl := colsF_len (adjF G.edges l) l.length
  have := pmake_pure (l.map (labelV G)) (lErr_labels hG h8 (link_range hl)) (colsF (adjF G.edges l) l.length) (by omega) (fun e he => ?_) (by rw [colsF_turn]; exact colsF_nodup _ _)
  · rw [made_cols hlt] at this; exact this
  · obtain ⟨k, i, h1, h2, _, rfl⟩ := mem_colsF.1 he
    rw [List.length_map]
    refine ⟨⟨?_, ?_⟩, ?_⟩ <;> simp only <;> omega
end Go.Proofs.YteigfapjiekdnaaGreatDoor
end

section
/- From an owned slice to data; slices.Clone of ints as data, in a world. -/
namespace Go.Proofs.YteigfapjiekdnaaGreatDoor
open Go.Sx Go.RowKit Go.Reg Go.Gr

set_option maxRecDepth 100000
theorem css_len {O : List Nat} {w : World} : ∀ {ds : List Da} {css : List (List Value)}, RepCss O w ds css → css.length = ds.length
  | [], css, h => by simp only [RepCss] at h; subst h; rfl
  | d :: ds, css, h => by
    simp only [RepCss] at h
    obtain ⟨c1, c2, rfl, _, h⟩ := h
    simp [css_len h]
theorem rep_of_sl {O : List Nat} {w : World} {E k : Nat} {v : Value} {css : List (List Value)} {ds : List Da} (hs : Sl E k id w v css) (hb : ∀ b, v.ownBlock = some b → b ∉ O) (hr : RepCss O w ds css) (hk : ∀ x ∈ css, RowOk k x) : Rep O w (.list k ds) v := by
  have hl := css_len hr
  rcases hs.2 with ⟨rfl, hn⟩ | ⟨g, cap, cur, rfl, _, hg, hnc, hcm, hcs, htake⟩
  · have : css = [] := List.eq_nil_of_length_eq_zero hn
    subst this
    have : ds = [] := List.eq_nil_of_length_eq_zero (by simpa using hl.symm)
    subst this
    exact ⟨[.slice none 0 0], by simp only [RepC]; exact ⟨none, 0, [], rfl, by simp, by unfold maxLen; omega, by simp [RepCss], by simp, .inl (by simp)⟩, rfl⟩
  · refine ⟨[.slice (some ⟨g, 0, none⟩) css.length cap], ?_, rfl⟩
    simp only [RepC]
    refine ⟨_, cap, css, by rw [hl], by rw [← hl]; exact hnc, hcm, hr, hk, .inr ⟨g, 0, rfl, hb g rfl, (Array.getElem?_eq_some_iff.1 hg).1, ?_⟩⟩
    have he : css.flatMap id = css.flatten := by simp [List.flatMap_id]
    intro j u hj
    rw [← he, ← htake, List.getElem?_take] at hj
    split at hj
    · simp only [World.cell?, hg, Nat.zero_add]
      simpa using hj
    · cases hj
theorem clone_rep {O : List Nat} {A : World} (hO : ∀ b ∈ O, b < A.heap.size) (hg : Glob C1 O A) {x : List Int} (hx : x.length ≤ 4294967296) {v : Value} (h : Rep O A (dIs x) v) :
    Calls Tryz.prog 55 #[v] A fun e B => ∃ u, e = .returned u ∧ Rep O B (dIs x) u ∧ Tch [] A B := by
  obtain ⟨_, hc⟩ := clone_sl x hx O A [v] hO hg (reps_cons h reps_nil)
  refine hc.mono ?_
  rintro e B ⟨u, css, ds, rfl, rfl, hs, hb, hr, hk, ht⟩
  refine ⟨u, rfl, rep_of_sl hs (fun b hb' hm => ?_) ?_ hk, ht⟩
  · have := hb b hb'; have := hO b hm; omega
  · exact RepCss.later ⟨Nat.le_refl _, fun _ _ _ => rfl, fun b hb' _ => fun hm => hb' (List.mem_append_left _ hm)⟩ _ css hr
end Go.Proofs.YteigfapjiekdnaaGreatDoor
end

section
/- canon.search: no place to go. -/
namespace Go.Proofs.YteigfapjiekdnaaGreatDoor
open Go.Sx Go.RowKit Go.Reg Go.Gr

set_option maxRecDepth 100000
theorem rep_list_shape {O : List Nat} {w : World} {l : List Int} {v : Value} (h : Rep O w (dInts l) v) : ∃ a c, v = .slice a l.length c ∧ l.length ≤ c ∧ c ≤ maxLen := by
  obtain ⟨cs, r, rfl⟩ := h
  simp only [dInts, RepC] at r
  obtain ⟨a, c, css, rfl, h1, h2, _⟩ := r
  rw [List.length_map] at h1
  exact ⟨a, c, by rw [List.length_map]; rfl, h1, h2⟩
set_option maxHeartbeats 4000000 in
theorem search_zero (fr to : List Int) : SearchAt fr to 0 := by
  intro ah hk haj h8 h8' l XS J Jx hJ hY O A vf vt va pre hO hgl rf rt ra hj hpre
  have hcl := fun (B : World) => @clone_rep O A hO hgl (ah.map fun j : Nat => (j : Int)) (by simp; omega) va ra
  obtain ⟨a1, c1, rfl, _, _⟩ := rep_list_shape rf
  obtain ⟨a2, c2, rfl, _, _⟩ := rep_list_shape rt
  obtain ⟨a3, c3, rfl, _, _⟩ := rep_list_shape ra
  have hcl := hcl A
  rw [List.length_map] at hcl ⊢
  have hlen : fr.length = ah.length := by omega
  rw [hlen]
  refine callsIn_of_wp Tryz.func116 rfl trivial ?_ rfl
  simp only [Tryz.ntmps116, List.size_toArray, List.length_cons, List.length_nil, Nat.reduceAdd, Nat.reduceSub, Array.replicate_succ, Array.replicate_zero, List.push_toArray, List.append_toArray, List.nil_append, List.cons_append]
  gi_wp2_with (refine ⟨trivial, ?_⟩; gi_at_call 55; refine (callsIn_wide.2 hcl).mono ?_; rintro e B ⟨u, rfl, hru, htB⟩; obtain ⟨fn, tmps, assign, body, hy, hR⟩ := hY O pre (ah.map fun j : Nat => (j : Int)) u B (fun b hb => Nat.lt_of_lt_of_le (hO b hb) htB.size) (hJ _ _ _ _ hj htB) hpre hru)
  refine hR.mono ?_
  rintro e B2 ⟨S', hg2, ⟨rfl, hj2⟩ | ⟨rfl, hx2⟩⟩
  · gi_wp2
    go_ret
    exact ⟨S', (Grow.same (htB.mono (by simp)) hO).trans hg2, .inl ⟨rfl, hj2⟩⟩
  · gi_wp2
    go_ret
    exact ⟨S', (Grow.same (htB.mono (by simp)) hO).trans hg2, .inr ⟨rfl, _, List.prefix_refl _, hx2⟩⟩
end Go.Proofs.YteigfapjiekdnaaGreatDoor
end
