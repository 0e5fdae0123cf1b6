/- Merged: Pte Qip Clp Qif Qig Qih. -/
import Derived.Test.YtjejpdfldmempaaGreatDoorOen
import Derived.Test.YtjejpdfldmempaaGreatDoorlgaf
import Derived.Test.YtjejpdfldmempaaGreatDoorlgal
import Derived.Test.YtjejpdfldmempaaGreatDoorlgaj
import Derived.Test.YtjejpdfldmempaaGreatDoorlgaa
import Derived.Test.YtjejpdfldmempaaGreatDoorSxu
import Derived.Test.YtjejpdfldmempaaGreatDoorCtx
import Derived.Test.YtjejpdfldmempaaGreatDoorlgao
import Derived.Test.YtjejpdfldmempaaGreatDoorlgan
section
namespace Go.Gr
def rowF (f : Nat → Nat → Bool) (a b : Nat) : List Edg := ((List.range b).filter fun x => decide (a < x) && f a x).map fun x : Nat => ⟨(a : Int), (x : Int)⟩
def rowsF (f : Nat → Nat → Bool) (n a : Nat) : List Edg := (List.range a).flatMap fun j => rowF f j n
theorem rowF_start (f : Nat → Nat → Bool) (a : Nat) : rowF f a (a + 1) = [] := by
 unfold rowF
 have : (List.range (a + 1)).filter (fun x => decide (a < x) && f a x) = [] := by
  rw [List.filter_eq_nil_iff]
  intro b hb
  have := List.mem_range.1 hb
  simp; omega
 rw [this]; rfl
theorem rowF_step {f : Nat → Nat → Bool} {a b : Nat} (h : a < b) : rowF f a (b + 1) = rowF f a b ++ if f a b then [⟨(a : Int), (b : Int)⟩] else [] := by
 unfold rowF
 rw [List.range_succ, List.filter_append, List.map_append]
 congr 1
 by_cases hf : f a b <;> simp [h, hf]
theorem rowsF_step (f : Nat → Nat → Bool) (n a : Nat) : rowsF f n (a + 1) = rowsF f n a ++ rowF f a n := by simp [rowsF, List.range_succ]
theorem rowF_len (f : Nat → Nat → Bool) (a b : Nat) : (rowF f a b).length ≤ b := by
 unfold rowF
 rw [List.length_map]
 exact Nat.le_trans (List.length_filter_le _ _) (by simp)
theorem rowsF_len (f : Nat → Nat → Bool) (n : Nat) : ∀ a, (rowsF f n a).length ≤ a * n
 | 0 => by simp [rowsF]
 | a + 1 => by
   have h1 := rowsF_len f n a
   have h2 := rowF_len f a n
   rw [rowsF_step, List.length_append, Nat.add_mul, Nat.one_mul]; omega
theorem mem_rowsF {f : Nat → Nat → Bool} {n a : Nat} {e : Edg} : e ∈ rowsF f n a ↔ ∃ j x : Nat, j < a ∧ x < n ∧ j < x ∧ f j x = true ∧ e = ⟨(j : Int), (x : Int)⟩ := by
 simp only [rowsF, rowF, List.mem_flatMap, List.mem_range, List.mem_map, List.mem_filter, Bool.and_eq_true, decide_eq_true_eq]
 constructor
 ·rintro ⟨j, hj, x, ⟨h1, h2, h3⟩, rfl⟩; exact ⟨j, x, hj, h1, h2, h3, rfl⟩
 ·rintro ⟨j, x, hj, h1, h2, h3, rfl⟩; exact ⟨j, hj, x, ⟨h1, h2, h3⟩, rfl⟩
def pairF (E : List Edg) (L : List Int) (a b : Nat) : Bool := hasR E ((L[a]?).getD 0) ((L[b]?).getD 0)
def madeE (E : List Edg) (L : List Int) : List Edg := rowsF (pairF E L) L.length L.length
end Go.Gr
namespace Go.Proofs.YtjejpdfldmempaaGreatDoor
open Go.Sx Go.RowKit Go.Reg Go.Gr
set_option maxRecDepth 100000
def pl_r8m : List (Nat × Plan) := [(8, .leaf [1, 0, 0, 0, 1, 0, 0, 0, 1, 2] [1, 2, 3, 5, 6, 7, 0, 4, 8, 9] [0, 0, 0, 6, 14, 0, 0, 96, 224, 511])]
def G_r8m : List FuncId := [183]
theorem cok_r8m : codeOk Tryz.prog G_r8m pl_r8m (Tryz.f134.body.getD .skip) = true := by kernel_rfl
theorem run_r8m (vs : Array Value) (w : World) : (callFunc 134 vs).run C1.P w = .ok (.enter 134 vs) w := by kernel_rfl
set_option maxHeartbeats 4000000 in
theorem rmade_pure (l : List Int) (p : Pt) (L : List Int) (hL : L.length ≤ 1000) (hme : p.edges.length ≤ 9223372036854775807) : Pure C1 134 [dIs l, dPt p, dIs L] (fun y => y = dPt ⟨l, madeE p.edges L⟩) := by
 have hdL : (L.map dI).length = L.length := List.length_map _
 have hL2 : L.length * L.length ≤ 1000 * 1000 := Nat.mul_le_mul hL hL
 refine pure_of c1_ok (pl := pl_r8m) (G := G_r8m) Tryz.func134 rfl Tryz.ntmps134 run_r8m cok_r8m (by simp) ?_
 ((conv => whnf); repeat' ((first | refine odw ?_ | refine ify ?_ | refine ifn ?_ | refine i6 ?_ | refine ati ?_ | refine mst ?_ | refine rmd ?_ | refine ibo (fun _ => ?_) (fun _ => ?_)) <;> conv => whnf))
 refine loop_lo (ι := Nat) (fun a => a ≤ L.length) (fun a => [(8, .d (.int .i64 a)), (7, .own 7), (6, .own 6), (4, .own 4), (2, .d (dIs L))]) (fun a => [(4, .cells 35 [.d (dIs p.labels), .d (dEs p.edges)]), (6, .cells 35 [.d .nils, .d .nils]), (7, .cells 35 [.d (dIs l), .own 301]), (301, .slice 137 2 ((rowsF (pairF p.edges L) L.length a).map dE))]) (fun a => L.length - a) 0 (fun _ => rfl) (Nat.zero_le _) (.ownc 7 301 137 2 rfl rfl (.there _ (.here _)) (.refl _ _)) ⟨rfl, rfl, rfl, rfl, rfl, trivial⟩ ⟨rfl, rfl, rfl, rfl, trivial⟩ ?_
 intro a ha
 refine sxCode_sound c1_ok (G := G_r8m) (pl := pl_r8m) _ _ _ _ (by kernel_rfl) ?_
 by_cases hal : a < L.length
 ·((conv => whnf); repeat' ((first | refine odw ?_ | refine ify ?_ | refine ifn ?_ | refine i6 ?_ | refine ati ?_ | refine mst ?_ | refine rmd ?_ | refine ibo (fun _ => ?_) (fun _ => ?_)) <;> conv => whnf))
  have hx := List.getElem?_eq_getElem hal
  have hxd : (L.map dI)[a]? = some (.int .i64 L[a]) := by rw [List.getElem?_map, hx]; rfl
  have hrl := rowsF_len (pairF p.edges L) L.length a
  have hrl2 : a * L.length ≤ L.length * L.length := Nat.mul_le_mul_right _ ha
  refine loop_lo (ι := Nat) (fun b => a + 1 ≤ b ∧ b ≤ L.length) (fun b => [(9, .d (.int .i64 b)), (8, .d (.int .i64 a)), (7, .own 7), (6, .own 6), (4, .own 4), (2, .d (dIs L))]) (fun b => [(4, .cells 35 [.d (dIs p.labels), .d (dEs p.edges)]), (6, .cells 35 [.d .nils, .d .nils]), (7, .cells 35 [.d (dIs l), .own 301]), (301, .slice 137 2 ((rowsF (pairF p.edges L) L.length a ++ rowF (pairF p.edges L) a b).map dE))]) (fun b => L.length - b) (a + 1) (fun _ => rfl) ⟨Nat.le_refl _, hal⟩ (.refl _ _) ⟨int_is (by omega), rfl, rfl, rfl, rfl, rfl, trivial⟩ ⟨rfl, rfl, rfl, by rw [rowF_start, List.append_nil]; rfl, trivial⟩ ?_
  rintro b ⟨hab, hb⟩
  refine sxCode_sound c1_ok (G := G_r8m) (pl := pl_r8m) _ _ _ _ (by kernel_rfl) ?_
  by_cases hbl : b < L.length
  ·have hy := List.getElem?_eq_getElem hbl
   have hyd : (L.map dI)[b]? = some (.int .i64 L[b]) := by rw [List.getElem?_map, hy]; rfl
   have hh := rhas_pure p L[a] L[b] hme
   have hf : pairF p.edges L a b = hasR p.edges L[a] L[b] := by unfold pairF; rw [hx, hy]; rfl
   have hst := rowF_step (f := pairF p.edges L) (a := a) (b := b) (by omega)
   have hrl3 := rowF_len (pairF p.edges L) a b
   have hll : ((rowsF (pairF p.edges L) L.length a ++ rowF (pairF p.edges L) a b).map dE).length ≤ 2000000 := by rw [List.length_map, List.length_append]; omega
   cases hv : hasR p.edges L[a] L[b] with
   | true =>
     rw [hv] at hh hf
     rw [hf, if_pos rfl] at hst
     (conv => whnf)
     (repeat' ((first | refine ord_ok ?_ ?_ | refine at_da hxd rfl ?_ | refine at_da hyd rfl ?_ | refine call_eqb tab rfl hh rfl ?_ | refine ify ?_ | refine ifn ?_ | refine i6 ?_ | refine ati ?_ | refine mst ?_ | refine rmd ?_ | refine ibo (fun _ => ?_) (fun _ => ?_) | exact oend) <;> conv => whnf))
     refine ⟨b + 1, _, _, ⟨by omega, by omega⟩, .refl _ _, ⟨int_is (by omega), rfl, rfl, rfl, rfl, rfl, trivial⟩, ⟨rfl, rfl, rfl, ?_, trivial⟩, by omega⟩
     refine slice_is ?_
     rw [hst]; simp [dE]
   | false =>
     rw [hv] at hh hf
     rw [hf, if_neg (by decide), List.append_nil] at hst
     (conv => whnf)
     (repeat' ((first | refine ord_ok ?_ ?_ | refine at_da hxd rfl ?_ | refine at_da hyd rfl ?_ | refine call_eqb tab rfl hh rfl ?_ | refine ify ?_ | refine ifn ?_ | refine i6 ?_ | refine ati ?_ | refine mst ?_ | refine rmd ?_ | refine ibo (fun _ => ?_) (fun _ => ?_) | exact oend) <;> conv => whnf))
     exact ⟨b + 1, _, _, ⟨by omega, by omega⟩, .refl _ _, ⟨int_is (by omega), rfl, rfl, rfl, rfl, rfl, trivial⟩, ⟨rfl, rfl, rfl, slice_is (by rw [hst]), trivial⟩, by omega⟩
  ·have hbe : b = L.length := by omega
   subst hbe
   ((conv => whnf); repeat' ((first | refine odw ?_ | refine ify ?_ | refine ifn ?_ | refine i6 ?_ | refine ati ?_ | refine mst ?_ | refine rmd ?_ | refine ibo (fun _ => ?_) (fun _ => ?_)) <;> conv => whnf))
   refine ⟨a + 1, _, _, by omega, .refl _ _, ⟨int_is (by omega), rfl, rfl, rfl, rfl, trivial⟩, ⟨rfl, rfl, rfl, slice_is (by rw [rowsF_step]), trivial⟩, by omega⟩
 ·have hae : a = L.length := by omega
  subst hae
  ((conv => whnf); repeat' ((first | refine odw ?_ | refine ify ?_ | refine ifn ?_ | refine i6 ?_ | refine ati ?_ | refine mst ?_ | refine rmd ?_ | refine ibo (fun _ => ?_) (fun _ => ?_)) <;> conv => whnf))
  exact rfl
def pl_r12w : List (Nat × Plan) := [(5, .leaf [0, 0, 1, 0, 0, 0, 1, 0, 1, 6, 3, 0] [0, 1, 3, 4, 5, 2, 6, 7, 8, 9, 10, 11] [0, 0, 2, 0, 0, 24, 56, 126, 254, 510, 1023, 2047])]
def G_r12w : List FuncId := [134]
theorem cok_r12w : codeOk Tryz.prog G_r12w pl_r12w (Tryz.f88.body.getD .skip) = true := by kernel_rfl
theorem run_r12w (vs : Array Value) (w : World) : (callFunc 88 vs).run C1.P w = .ok (.enter 88 vs) w := by kernel_rfl
set_option maxHeartbeats 4000000 in
theorem whole_pure (G : Gr) (L : List Int) (hL : L.length ≤ 1000) (hGe : G.edges.length ≤ 9223372036854775807) (hv : ∀ x ∈ L, 0 ≤ x ∧ x < G.labels.length) : Pure C1 88 [dM G.labels G.edges, dIs L] (fun y => y = dPt ⟨L.map (labelV G), madeE G.edges L⟩) := by
 have hdL : (L.map dI).length = L.length := List.length_map _
 have hdG : (G.labels.map dI).length = G.labels.length := List.length_map _
 refine pure_of c1_ok (pl := pl_r12w) (G := G_r12w) Tryz.func88 rfl Tryz.ntmps88 run_r12w cok_r12w (by simp) ?_
 ((conv => whnf); repeat' ((first | refine odw ?_ | refine ify ?_ | refine ifn ?_ | refine i6 ?_ | refine ati ?_ | refine mst ?_ | refine rmd ?_ | refine ibo (fun _ => ?_) (fun _ => ?_)) <;> conv => whnf))
 refine loop_lo (ι := Nat) (fun i => i ≤ L.length) (fun i => [(6, .d (.int .i64 i)), (5, .own 300), (4, .own 4), (2, .own 2), (1, .d (dIs L))]) (fun i => [(2, .cells 59 [.d (dIs G.labels), .d (dEs G.edges)]), (4, .cells 35 [.d .nils, .d .nils]), (300, .slice 3 1 (((L.take i).map (labelV G)).map dI))]) (fun i => L.length - i) 0 (fun _ => rfl) (Nat.zero_le _) (.own 5 300 3 1 rfl rfl (.refl _ _)) ⟨rfl, rfl, rfl, rfl, rfl, trivial⟩ ⟨rfl, rfl, rfl, trivial⟩ ?_
 intro i hi
 refine sxCode_sound c1_ok (G := G_r12w) (pl := pl_r12w) _ _ _ _ (by kernel_rfl) ?_
 by_cases hil : i < L.length
 ·have hx := List.getElem?_eq_getElem hil
  have hxv := hv _ (List.getElem_mem hil)
  generalize L[i] = x at hx hxv
  obtain ⟨v, rfl⟩ := Int.eq_ofNat_of_zero_le hxv.1
  have hvl : v < G.labels.length := by omega
  have hxd : (L.map dI)[i]? = some (.int .i64 v) := by rw [List.getElem?_map, hx]; rfl
  have hlv : (G.labels.map dI)[v]? = some (.int .i64 (labelV G v)) := by
   rw [List.getElem?_map, List.getElem?_eq_getElem hvl]
   unfold labelV
   rw [if_pos (by omega), Int.toNat_natCast, List.getElem?_eq_getElem hvl]; rfl
  have hll : (((L.take i).map (labelV G)).map dI).length = i := by simp only [List.length_map, List.length_take]; omega
  (conv => whnf)
  (repeat' ((first | refine ord_ok ?_ ?_ | refine at_da hxd rfl ?_ | refine at_da hlv rfl ?_ | refine ify ?_ | refine ifn ?_ | refine i6 ?_ | refine ati ?_ | refine mst ?_ | refine rmd ?_ | refine ibo (fun _ => ?_) (fun _ => ?_) | exact oend) <;> conv => whnf))
  refine ⟨i + 1, _, _, by omega, .refl _ _, ⟨rfl, rfl, rfl, rfl, rfl, trivial⟩, ⟨rfl, rfl, ?_, trivial⟩, by omega⟩
  refine slice_is ?_
  rw [List.take_add_one, hx]; simp [dI]
 ·have e : L.take i = L := List.take_of_length_le (by omega)
  rw [e]
  have hmd := rmade_pure (L.map (labelV G)) ⟨G.labels, G.edges⟩ L hL hGe
  ((conv => whnf); repeat' ((first | refine odw ?_ | refine ify ?_ | refine ifn ?_ | refine i6 ?_ | refine ati ?_ | refine mst ?_ | refine rmd ?_ | refine ibo (fun _ => ?_) (fun _ => ?_)) <;> conv => whnf))
  refine call_frz 300 rfl ?_
  refine call_eq rfl hmd ?_
  ((conv => whnf); repeat' ((first | refine odw ?_ | refine ify ?_ | refine ifn ?_ | refine i6 ?_ | refine ati ?_ | refine mst ?_ | refine rmd ?_ | refine ibo (fun _ => ?_) (fun _ => ?_)) <;> conv => whnf))
  exact rfl
end Go.Proofs.YtjejpdfldmempaaGreatDoor
end
section
namespace Go.Sx
open Go Go.RowKit Go.Reg
section
variable {C : Cx} {T : Tab} {B S : List Nat} {w0 w : World} {n kd : Nat} {fr : Fr} {σ : Sg} {η : Nat → Value} {φ : Nat → List Nat} {a : Act}
theorem Models.pin (hM : Models C B S w0 n fr σ η φ a w) {g : Nat} (hg : sget g σ = none) {x : Da} {u : Value} (hr : Rep (B ++ blocks φ σ) w x u) : Models C B S w0 n fr ((g, .ghost [u] [.d x]) :: σ) (upd η g .nilFunc) (upd φ g []) a w := by
 have hi' := sget_none hg
 obtain ⟨cs, h1, h2⟩ := hr
 obtain ⟨hm, hl⟩ := hM.mem.add (Tch.refl [] w) hi' (v := .nilFunc) (F := []) (o := .ghost [u] [.d x]) (by simp) ⟨rfl, rfl, [cs], by simp only [RepDss, RepD]; exact ⟨_, _, rfl, h1, rfl⟩, by rw [h2]; rfl⟩
 exact ⟨hm, hM.fr.add hi' hl, hM.defers, hM.size⟩
def ClipFn (C : Cx) (f : FuncId) : Prop := ∀ (w : World) (a : Option Addr) (n c : Nat), n ≤ c → c ≤ maxLen →
 (callFunc f #[.slice a n c]).run C.P w = .ok (.enter f #[.slice a n c]) w ∧ Calls C.P f #[.slice a n c] w fun e w' => e = .returned (.slice a n n) ∧ w' = w
theorem call_clip (g : Nat) {q : Bool} {f : FuncId} {args : List Dat} {k : Nat} {xs : List Da} {K : KD} (hg : sget g σ = none) (ha : allD args = some [.list k xs]) (hf : ClipFn C f)
  (hK : ∀ a, forceS (sins g (.ghost [.slice a xs.length xs.length] [.d (.list k xs)]) σ) fun σ => K (.d (.raw (.slice a xs.length xs.length))) fr σ) : SxCall C q f args K fr σ := by
 unfold SxCall
 rintro B S w0 η φ n a w vs hM ⟨css, hr, rfl⟩
 obtain ⟨h1, h2⟩ := allD_rep ha hr
 rw [h2]
 simp only [RepCss, RepC] at h1
 obtain ⟨c1, c2, rfl, ⟨p, c, es, rfl, h3, h4, h5, h6, h7⟩, rfl⟩ := h1
 obtain ⟨g1, g2⟩ := hf w p xs.length c h3 h4
 refine ⟨g1, g2.mono ?_⟩
 rintro e w' ⟨rfl, rfl⟩
 have hrep : Rep (B ++ blocks φ σ) w' (.list k xs) (.slice p xs.length xs.length) := ⟨[_], by simp only [RepC]; exact ⟨p, xs.length, es, rfl, Nat.le_refl _, Nat.le_trans h3 h4, h5, h6, h7⟩, rfl⟩
 have hM2 := (hM.pin hg hrep).perm (sins_perm g _ σ)
 have hk := hK p
 rw [forceS_eq] at hk
 exact ⟨_, _, fr, _, _, _, rfl, hk, hM2, ⟨[_], by simp only [RepD, RepC], rfl⟩, fun _ => (Tch.refl [] w').ext⟩
theorem append_clip {P : Program} {t : TypeId} {e ee : TyI} (h : TyOk P t e) (hk : e.kd = 2) (h2 : TyOk P e.elem ee) (hk0 : 0 < ee.size) (hb0 : ee.bytes ≤ 1000) {p : Option Addr} {css : List (List Value)} (hrow : ∀ x ∈ css, RowOk ee.size x) (hcell : css = [] ∨ ∃ b o, p = some ⟨b, o, none⟩ ∧ Cells w b o css.flatten)
  {O : List Nat} {es : List Da} {vy : Value} (hy : Src ee.size O w es vy) (hne : es ≠ []) (hlen : css.length + es.length ≤ mostOf ee.bytes) (ty : TypeId) :
  ∃ v' w' css2, (Builtin.append_ #[t, t] ty #[.slice p css.length css.length, vy]).run P w = .ok v' w' ∧ Sl e.elem ee.size id w' v' (css ++ css2) ∧ RepCss O w es css2 ∧ (∀ x ∈ css2, RowOk ee.size x) ∧ Tch [] w w' ∧ (∀ b, v'.ownBlock = some b → w.heap.size ≤ b) := by
 cases p with
 | none =>
   have hc : css = [] := hcell.resolve_right (by rintro ⟨b, o, h, _⟩; cases h)
   subst hc
   obtain ⟨v', w', css2, g1, g2, g3, g4, g5, g6⟩ := append_any (v := .slice none 0 0) (css := []) h hk h2 hk0 hb0 (World.ownsRow_nil w 0 _ _) hy hlen ty
   refine ⟨v', w', css2, g1, g2, g3, g4, g5, fun b hb => ?_⟩
   rcases g6 with g6 | g6
   ·rw [g6] at hb; cases hb
   ·rw [g6] at hb; cases hb; exact Nat.le_refl _
 | some ad =>
   obtain ⟨d, h1, _, h3, _, _, _, _, h8⟩ := h.desc
   rw [hk] at h8
   cases d <;> simp at h8
   have he := h3 _ rfl
   subst he
   obtain ⟨i, z, hi, hsize, hby, hz, _, _⟩ := h2.info
   obtain ⟨av, c, css2, rfl, hr2, hk2, hsrc⟩ := hy.ex
   have hl2 := repCss_len hr2
   have hfl2 := flat_len (fun x hx => (hk2 x hx).1)
   have hfl := flat_len (fun x hx => (hrow x hx).1)
   unfold mostOf at hlen
   have hbb := Nat.mul_le_of_le_div _ _ _ hlen
   have hl0 : css.length + es.length ≤ 140737488355328 := Nat.le_trans hlen (Nat.div_le_self _ _)
   have h0 : es.length ≠ 0 := fun e => hne (List.eq_nil_of_length_eq_zero e)
   obtain ⟨b, o, rfl, hcl⟩ : ∃ b o, av = some ⟨b, o, none⟩ ∧ Cells w b o css2.flatten := hsrc.resolve_left hne
   have hnews := cells_add hcl
   have hln : css2.flatten.length = es.length * i.size := by rw [hfl2, hl2, hsize]
   have hlo : css.flatten.length = css.length * i.size := by rw [hfl, hsize]
   have holds : ∀ j u, css.flatten[j]? = some u → w.cell? (ad.add j) = some u := by
    rcases hcell with rfl | ⟨b', o', h', hc'⟩
    ·intro j u hj; simp at hj
    ·cases h'; exact cells_add hc'
   have hzs : z.cells.size = i.size := by
    obtain ⟨i', z', g1, g2, _, g4, _, g6⟩ := h2.info
    rw [hi] at g1; cases g1
    rw [hz] at g4; cases g4
    have := repC_len _ _ (g6 [] w)
    have hsz := h2.zsize
    simp at this
    omega
   have hx := run_append_grow (P := P) w t ty e.elem i z h1 hi hz ad css.length css.length css.flatten hlo holds ⟨b, o, none⟩ es.length c css2.flatten hln hnews (by omega) (by omega) (growslice_fits (by omega) (by rw [hby]; omega))
   refine ⟨_, _, css2, hx, ?_, hr2, hk2, ⟨rfl, rfl, rfl, by simp, fun k hk _ => heap_alloc_old w.drew _ hk⟩, fun b hb => by cases hb; exact Nat.le_refl _⟩
   have hge := grownCap_ge w (css.length + es.length) css.length e.elem
   have hcm : grownCap w (css.length + es.length) css.length e.elem ≤ maxLen := grownCap_le_maxLen w _ _ e.elem (by simp only [maxLen]; omega)
   have hlen2 : (css.flatten ++ css2.flatten).length = (css.length + es.length) * i.size := by rw [List.length_append, hlo, hln, Nat.add_mul]
   unfold Sl
   rw [flatMap_id, List.flatten_append, List.length_append, hl2, ← hsize]
   refine ⟨hlen2, .inr ⟨w.heap.size, _, _, rfl, Nat.zero_le _, heap_alloc_new w.drew _, hge, hcm, ?_, ?_⟩⟩
   ·simp only [Array.size_append, List.size_toArray, size_zeroCells, hzs, hlo, hln, ← Nat.add_mul]
    congr 1
    omega
   ·simp only [Array.toList_append, List.append_assoc]
    rw [← List.append_assoc, ← hlen2]
    exact List.take_left
end
section
variable {C : Cx} {T : Tab} {n kd : Nat} {fr : Fr} {σ : Sg}
def dropT (t : Nat) : Fr → Fr
 | [] => []
 | (s, d) :: fr => match Nat.beq s t with
   | true => dropT t fr
   | false => (s, d) :: dropT t fr
theorem get_dropped (t : Nat) : ∀ fr : Fr, get (dropT t fr) t = .d .undef
 | [] => rfl
 | (u, d) :: fr => by
   rcases beq_cases u t with ⟨hb, e⟩ | ⟨hb, e⟩
   ·simp only [dropT, hb]; exact get_dropped t fr
   ·simp only [dropT, hb, get]; exact get_dropped t fr
theorem get_dropT (t s : Nat) : ∀ fr : Fr, get (dropT t fr) s = .d .undef ∨ get (dropT t fr) s = get fr s
 | [] => .inr rfl
 | (u, d) :: fr => by
   rcases beq_cases u t with ⟨hb, e⟩ | ⟨hb, e⟩
   ·simp only [dropT, hb]
    rcases get_dropT t s fr with h | h
    ·exact .inl h
    ·rcases beq_cases u s with ⟨h1, e1⟩ | ⟨h1, e1⟩
     ·left
      subst e1
      subst e
      exact get_dropped u fr
     ·right; simp only [get, h1]; exact h
   ·simp only [dropT, hb, get]
    rcases beq_cases u s with ⟨h1, e1⟩ | ⟨h1, e1⟩
    ·right; simp only [h1]
    ·simp only [h1]; exact get_dropT t s fr
theorem op_appClip (g j tx : Nat) {o : Oper} {K : Fr → Sg → Prop} {t : TypeId} {y : Operand} {e ee : TyI} {p : Option Addr} {m k : Nat} {xs es : List Da} (hC : C.Ok T) (ho : o.op = .call { callee := .builtin .append, args := #[.tmp tx, y], argTypes := #[t, t] })
  (he : tyAt t T = some e) (hk2 : e.kd = 2) (hee : tyAt e.elem T = some ee) (hk0 : 0 < ee.size) (hb0 : ee.bytes ≤ 1000) (hkk : k = ee.size) (hx : get fr tx = .d (.raw (.slice p m m))) (hg : sget g σ = some (.ghost [.slice p m m] [.d (.list k xs)])) (hy : elems (ev C.Γ fr y) k σ = some es) (hne : es ≠ []) (hj : sget j σ = none)
  (hkd : kd = 3) (hd : dstOk o.dst n = true) (hlen : xs.length + es.length ≤ mostOf ee.bytes) (hz : okZ (putF o.dst (.own j) (dropT tx fr)) (sins j (.slice e.elem ee.size (xs ++ es)) (sdel id g σ)) = true) (hs : SubS (sins j (.slice e.elem ee.size (xs ++ es)) (sdel id g σ)) (sins j (.slice e.elem ee.size (xs ++ es)) σ)) (hK : forceS (sins j (.slice e.elem ee.size (xs ++ es)) (sdel id g σ)) fun σ => K (putF o.dst (.own j) (dropT tx fr)) σ) : OpSem C n kd o K fr σ := by
 subst hkd
 subst hkk
 refine opSem_or (by decide) (by decide) fun B S w0 η φ a' w hM => ?_
 refine .inr ⟨(fun h => by cases h), .inl ?_⟩
 have ex : a'.eval (.tmp tx) = .slice p m m := by
  obtain ⟨cs, r, e⟩ := rd_da (ev_rep hM (.tmp tx)) hx
  simp only [RepC] at r
  subst r
  exact e
 obtain ⟨_, _, css, h1, h2⟩ := hM.mem.own _ (sget_mem hg)
 simp only [RepDss, RepD, RepC] at h1
 obtain ⟨c1, c2, rfl, ⟨q, c, rows, rfl, h3, h4, h5, h6, h7⟩, rfl⟩ := h1
 have h2 : Value.slice p m m = .slice q xs.length c := by simpa [toVD, toV] using h2
 simp only [Value.slice.injEq] at h2
 obtain ⟨rfl, rfl, rfl⟩ := h2
 have hrl := repCss_len h5
 have hcell : rows = [] ∨ ∃ b o, p = some ⟨b, o, none⟩ ∧ Cells w b o rows.flatten := by
  rcases h7 with h7 | ⟨b, o, h8, _, _, h9⟩
  ·left
   rw [h7] at hrl
   exact List.eq_nil_of_length_eq_zero hrl
  ·exact .inr ⟨b, o, h8, h9⟩
 have hsrc := elems_ok hM.mem hy (ev_rep hM y)
 obtain ⟨v', w', css2, g1, g2, g3, g4, g5, g6⟩ := append_clip (hC.ty he) hk2 (hC.ty hee) hk0 hb0 h6 hcell hsrc hne (by rw [hrl]; exact hlen) o.type
 rw [hrl] at g1
 have := hM.add (o := .slice e.elem ee.size (xs ++ es)) (v := v') (F := v'.ownBlock.toList) g5 (sget_none hj) (fun b hb => g6 b (by simpa using hb)) (fun O' hl => ⟨rows ++ css2, g2, rfl, repCss_append (RepCss.later hl _ _ h5) (RepCss.later hl _ _ g3), fun x hx => by
  rcases List.mem_append.1 hx with hx | hx
  ·exact h6 x hx
  ·exact g4 x hx⟩) hd
 rw [forceS_eq] at hK
 have M3 := (this.perm (sins_perm _ _ _)).sub' (fr' := putF o.dst (.own j) (dropT tx fr)) (fun s => by
  cases hdst : o.dst with
  | none => exact get_dropT tx s fr
  | some d =>
    simp only [putF, get]
    rcases beq_cases d s with ⟨h1, _⟩ | ⟨h1, _⟩
    ·right; simp only [h1]
    ·simp only [h1]; exact get_dropT tx s fr)
 refine ⟨v', w', ?_, _, _, _, _, M3.only hz hs, hK⟩
 simp only [execOp, ho]
 simp only [resolve, invoke, builtin, Sem.run_bind, Sem.run_pure, Result.andThen_ok, List.map_toArray, List.map_cons, List.map_nil, ex, g1]
end
end Go.Sx
end
section
namespace Go.Proofs.YtjejpdfldmempaaGreatDoor
open Go.Sx Go.RowKit Go.Reg Go.Gr
set_option maxRecDepth 100000
theorem clip_fn : ClipFn C1 119 := by
 intro w a n c hn hc
 refine ⟨by kernel_rfl, ?_⟩
 show Calls Tryz.prog _ _ _ _
 go_enter Tryz.func119, Tryz.ntmps119
 go_wp2
 go_ret
 exact ⟨rfl, rfl⟩
end Go.Proofs.YtjejpdfldmempaaGreatDoor
end
section
namespace Go.Gr
open Go.Proofs.YtjejpdfldmempaaGreatDoor
theorem turn_lt {a b : Int} (h : a ≤ b) : turn ⟨a, b⟩ = ⟨a, b⟩ := by unfold turn; simp only [Edg.mk.injEq]; omega
theorem turn_gt {a b : Int} (h : b ≤ a) : turn ⟨a, b⟩ = ⟨b, a⟩ := by unfold turn; simp only [Edg.mk.injEq]; omega
theorem hasR_turn {E : List Edg} (h : ∀ e ∈ E, e.a < e.b) (x y : Int) : hasR E x y = decide (turn ⟨x, y⟩ ∈ E) := by
 rw [Bool.eq_iff_iff, decide_eq_true_eq]
 unfold hasR
 rw [List.any_eq_true]
 constructor
 ·rintro ⟨e, he, hc⟩
  have hc := of_decide_eq_true hc
  have hl := h e he
  obtain ⟨a, b⟩ := e
  simp only at hc hl
  rcases hc with ⟨rfl, rfl⟩ | ⟨rfl, rfl⟩
  ·rw [turn_lt (by omega)]; exact he
  ·rw [turn_gt (by omega)]; exact he
 ·intro he
  refine ⟨_, he, decide_eq_true ?_⟩
  rcases Int.le_total x y with hxy | hxy
  ·rw [turn_lt hxy]; exact .inl ⟨rfl, rfl⟩
  ·rw [turn_gt hxy]; exact .inr ⟨rfl, rfl⟩
end Go.Gr
end
