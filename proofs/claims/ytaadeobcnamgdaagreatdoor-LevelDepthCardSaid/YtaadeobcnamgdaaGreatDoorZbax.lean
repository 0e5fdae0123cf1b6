/- Merged: Pte Qip Clp Qif Qig Qih Pmk. -/
import Derived.Test.YtaadeobcnamgdaaGreatDoorZbag
import Derived.Test.YtaadeobcnamgdaaGreatDoorZbam
import Derived.Test.YtaadeobcnamgdaaGreatDoorZbak
import Derived.Test.YtaadeobcnamgdaaGreatDoorZbaa
import Derived.Test.YtaadeobcnamgdaaGreatDoorSxu
import Derived.Test.YtaadeobcnamgdaaGreatDoorCtx
import Derived.Test.YtaadeobcnamgdaaGreatDoorZbap
import Derived.Test.YtaadeobcnamgdaaGreatDoorZbao
import Derived.Test.YtaadeobcnamgdaaGreatDoorZbaq
section
/- ref08: Made. ref12: Whole. law08: Of. -/
namespace Go.Gr
/-- pairs of places, the lesser first, of which f is told -/
def rowF (f : Nat → Nat → Bool) (a b : Nat) : List Edg := ((List.range b).filter fun x => decide (a < x) && f a x).map fun x : Nat => ⟨(a : Int), (x : Int)⟩
def rowsF (f : Nat → Nat → Bool) (n a : Nat) : List Edg := (List.range a).flatMap fun j => rowF f j n
theorem mem_rowsF {f : Nat → Nat → Bool} {n a : Nat} {e : Edg} : e ∈ rowsF f n a ↔ ∃ j x : Nat, j < a ∧ x < n ∧ j < x ∧ f j x = true ∧ e = ⟨(j : Int), (x : Int)⟩ := by
  simp only [rowsF, rowF, List.mem_flatMap, List.mem_range, List.mem_map, List.mem_filter, Bool.and_eq_true, decide_eq_true_eq]
  constructor
  · rintro ⟨j, hj, x, ⟨h1, h2, h3⟩, rfl⟩; exact ⟨j, x, hj, h1, h2, h3, rfl⟩
  · rintro ⟨j, x, hj, h1, h2, h3, rfl⟩; exact ⟨j, hj, x, ⟨h1, h2, h3⟩, rfl⟩
def pairF (E : List Edg) (L : List Int) (a b : Nat) : Bool := hasR E ((L[a]?).getD 0) ((L[b]?).getD 0)
/-- what a list's pattern has for edges -/
def madeE (E : List Edg) (L : List Int) : List Edg := rowsF (pairF E L) L.length L.length
end Go.Gr
end

section
/- A slice with no room behind it (slices.Clip), and appends to it. -/
namespace Go.Sx
open Go Go.RowKit Go.Reg
section
variable {C : Cx} {T : Tab} {B S : List Nat} {w0 w : World} {n kd : Nat} {fr : Fr} {σ : Sg} {η : Nat → Value} {φ : Nat → List Nat} {a : Act}
/-- data whose value is known -/
theorem Models.pin (hM : Models C B S w0 n fr σ η φ a w) {g : Nat} (hg : sget g σ = none) {x : Da} {u : Value} (hr : Rep (B ++ blocks φ σ) w x u) : Models C B S w0 n fr ((g, .ghost [u] [.d x]) :: σ) (upd η g .nilFunc) (upd φ g []) a w := by
  have hi' := sget_none hg
  obtain ⟨cs, h1, h2⟩ := hr
  obtain ⟨hm, hl⟩ := hM.mem.add (Tch.refl [] w) hi' (v := .nilFunc) (F := []) (o := .ghost [u] [.d x]) (by simp) ⟨rfl, rfl, [cs], by simp only [RepDss, RepD]; exact ⟨_, _, rfl, h1, rfl⟩, by rw [h2]; rfl⟩
  exact ⟨hm, hM.fr.add hi' hl, hM.defers, hM.size⟩
/-- a function that hands its slice back with no room behind it -/
def ClipFn (C : Cx) (f : FuncId) : Prop := ∀ (w : World) (a : Option Addr) (n c : Nat), n ≤ c → c ≤ maxLen →
  (callFunc f #[.slice a n c]).run C.P w = .ok (.enter f #[.slice a n c]) w ∧ Calls C.P f #[.slice a n c] w fun e w' => e = .returned (.slice a n n) ∧ w' = w
theorem call_clip (g : Nat) {q : Bool} {f : FuncId} {args : List Dat} {k : Nat} {xs : List Da} {K : KD} (hg : sget g σ = none) (ha : allD args = some [.list k xs]) (hf : ClipFn C f)
    (hK : ∀ a, forceS (sins g (.ghost [.slice a xs.length xs.length] [.d (.list k xs)]) σ) fun σ => K (.d (.raw (.slice a xs.length xs.length))) fr σ) : SxCall C q f args K fr σ := by
  unfold SxCall
  rintro B S w0 η φ n a w vs hM ⟨css, hr, rfl⟩
  obtain ⟨h1, h2⟩ := allD_rep ha hr
  rw [h2]
  simp only [RepCss, RepC] at h1
  obtain ⟨c1, c2, rfl, ⟨p, c, es, rfl, h3, h4, h5, h6, h7⟩, rfl⟩ := h1
  obtain ⟨g1, g2⟩ := hf w p xs.length c h3 h4
  refine ⟨g1, g2.mono ?_⟩
  rintro e w' ⟨rfl, rfl⟩
  have hrep : Rep (B ++ blocks φ σ) w' (.list k xs) (.slice p xs.length xs.length) := ⟨[_], by simp only [RepC]; exact ⟨p, xs.length, es, rfl, Nat.le_refl _, Nat.le_trans h3 h4, h5, h6, h7⟩, rfl⟩
  have hM2 := (hM.pin hg hrep).perm (sins_perm g _ σ)
  have hk := hK p
  rw [forceS_eq] at hk
  exact ⟨_, _, fr, _, _, _, rfl, hk, hM2, ⟨[_], by simp only [RepD, RepC], rfl⟩, fun _ => (Tch.refl [] w').ext⟩
theorem append_clip {P : Program} {t : TypeId} {e ee : TyI} (h : TyOk P t e) (hk : e.kd = 2) (h2 : TyOk P e.elem ee) (hk0 : 0 < ee.size) (hb0 : ee.bytes ≤ 1000) {p : Option Addr} {css : List (List Value)} (hrow : ∀ x ∈ css, RowOk ee.size x) (hcell : css = [] ∨ ∃ b o, p = some ⟨b, o, none⟩ ∧ Cells w b o css.flatten)
    {O : List Nat} {es : List Da} {vy : Value} (hy : Src ee.size O w es vy) (hne : es ≠ []) (hlen : css.length + es.length ≤ mostOf ee.bytes) (ty : TypeId) :
    ∃ v' w' css2, (Builtin.append_ #[t, t] ty #[.slice p css.length css.length, vy]).run P w = .ok v' w' ∧ Sl e.elem ee.size id w' v' (css ++ css2) ∧ RepCss O w es css2 ∧ (∀ x ∈ css2, RowOk ee.size x) ∧ Tch [] w w' ∧ (∀ b, v'.ownBlock = some b → w.heap.size ≤ b) := by
  cases p with
  | none =>
    have hc : css = [] := hcell.resolve_right (by rintro ⟨b, o, h, _⟩; cases h)
    subst hc
    obtain ⟨v', w', css2, g1, g2, g3, g4, g5, g6⟩ := append_any (v := .slice none 0 0) (css := []) h hk h2 hk0 hb0 (World.ownsRow_nil w 0 _ _) hy hlen ty
    refine ⟨v', w', css2, g1, g2, g3, g4, g5, fun b hb => ?_⟩
    rcases g6 with g6 | g6
    · rw [g6] at hb; cases hb
    · rw [g6] at hb; cases hb; exact Nat.le_refl _
  | some ad =>
    obtain ⟨d, h1, _, h3, _, _, _, _, h8⟩ := h.desc
    rw [hk] at h8
    cases d <;> simp at h8
    have he := h3 _ rfl
    subst he
    obtain ⟨i, z, hi, hsize, hby, hz, _, _⟩ := h2.info
    obtain ⟨av, c, css2, rfl, hr2, hk2, hsrc⟩ := hy.ex
    have hl2 := repCss_len hr2
    have hfl2 := flat_len (fun x hx => (hk2 x hx).1)
    have hfl := flat_len (fun x hx => (hrow x hx).1)
    unfold mostOf at hlen
    have hbb := Nat.mul_le_of_le_div _ _ _ hlen
    have hl0 : css.length + es.length ≤ 140737488355328 := Nat.le_trans hlen (Nat.div_le_self _ _)
    have h0 : es.length ≠ 0 := fun e => hne (List.eq_nil_of_length_eq_zero e)
    obtain ⟨b, o, rfl, hcl⟩ : ∃ b o, av = some ⟨b, o, none⟩ ∧ Cells w b o css2.flatten := hsrc.resolve_left hne
    have hnews := cells_add hcl
    have hln : css2.flatten.length = es.length * i.size := by rw [hfl2, hl2, hsize]
    have hlo : css.flatten.length = css.length * i.size := by rw [hfl, hsize]
    have holds : ∀ j u, css.flatten[j]? = some u → w.cell? (ad.add j) = some u := by
      rcases hcell with rfl | ⟨b', o', h', hc'⟩
      · intro j u hj; simp at hj
      · cases h'; exact cells_add hc'
    have hzs : z.cells.size = i.size := by
      obtain ⟨i', z', g1, g2, _, g4, _, g6⟩ := h2.info
      rw [hi] at g1; cases g1
      rw [hz] at g4; cases g4
      have := repC_len _ _ (g6 [] w)
      have hsz := h2.zsize
      simp at this
      omega
    have hx := run_append_grow (P := P) w t ty e.elem i z h1 hi hz ad css.length css.length css.flatten hlo holds ⟨b, o, none⟩ es.length c css2.flatten hln hnews (by omega) (by omega) (growslice_fits (by omega) (by rw [hby]; omega))
    refine ⟨_, _, css2, hx, ?_, hr2, hk2, ⟨rfl, rfl, rfl, by simp, fun k hk _ => heap_alloc_old w.drew _ hk⟩, fun b hb => by cases hb; exact Nat.le_refl _⟩
    have hge := grownCap_ge w (css.length + es.length) css.length e.elem
    have hcm : grownCap w (css.length + es.length) css.length e.elem ≤ maxLen := grownCap_le_maxLen w _ _ e.elem (by simp only [maxLen]; omega)
    have hlen2 : (css.flatten ++ css2.flatten).length = (css.length + es.length) * i.size := by rw [List.length_append, hlo, hln, Nat.add_mul]
    unfold Sl
    rw [flatMap_id, List.flatten_append, List.length_append, hl2, ← hsize]
    refine ⟨hlen2, .inr ⟨w.heap.size, _, _, rfl, Nat.zero_le _, heap_alloc_new w.drew _, hge, hcm, ?_, ?_⟩⟩
    · simp only [Array.size_append, List.size_toArray, size_zeroCells, hzs, hlo, hln, ← Nat.add_mul]
      congr 1
      omega
    · simp only [Array.toList_append, List.append_assoc]
      rw [← List.append_assoc, ← hlen2]
      exact List.take_left
end
section
variable {C : Cx} {T : Tab} {n kd : Nat} {fr : Fr} {σ : Sg}
/-- without a slot -/
def dropT (t : Nat) : Fr → Fr
  | [] => []
  | (s, d) :: fr => match Nat.beq s t with
    | true => dropT t fr
    | false => (s, d) :: dropT t fr
theorem get_dropped (t : Nat) : ∀ fr : Fr, get (dropT t fr) t = .d .undef
  | [] => rfl
  | (u, d) :: fr => by
    rcases beq_cases u t with ⟨hb, e⟩ | ⟨hb, e⟩
    · simp only [dropT, hb]; exact get_dropped t fr
    · simp only [dropT, hb, get]; exact get_dropped t fr
theorem get_dropT (t s : Nat) : ∀ fr : Fr, get (dropT t fr) s = .d .undef ∨ get (dropT t fr) s = get fr s
  | [] => .inr rfl
  | (u, d) :: fr => by
    rcases beq_cases u t with ⟨hb, e⟩ | ⟨hb, e⟩
    · simp only [dropT, hb]
      rcases get_dropT t s fr with h | h
      · exact .inl h
      · rcases beq_cases u s with ⟨h1, e1⟩ | ⟨h1, e1⟩
        · left
          subst e1
          subst e
          exact get_dropped u fr
        · right; simp only [get, h1]; exact h
    · simp only [dropT, hb, get]
      rcases beq_cases u s with ⟨h1, e1⟩ | ⟨h1, e1⟩
      · right; simp only [h1]
      · simp only [h1]; exact get_dropT t s fr
/-- 'append' to a slice with no room behind it: a new slice -/
theorem op_appClip (g j tx : Nat) {o : Oper} {K : Fr → Sg → Prop} {t : TypeId} {y : Operand} {e ee : TyI} {p : Option Addr} {m k : Nat} {xs es : List Da} (hC : C.Ok T) (ho : o.op = .call { callee := .builtin .append, args := #[.tmp tx, y], argTypes := #[t, t] })
    (he : tyAt t T = some e) (hk2 : e.kd = 2) (hee : tyAt e.elem T = some ee) (hk0 : 0 < ee.size) (hb0 : ee.bytes ≤ 1000) (hkk : k = ee.size) (hx : get fr tx = .d (.raw (.slice p m m))) (hg : sget g σ = some (.ghost [.slice p m m] [.d (.list k xs)])) (hy : elems (ev C.Γ fr y) k σ = some es) (hne : es ≠ []) (hj : sget j σ = none)
    (hkd : kd = 3) (hd : dstOk o.dst n = true) (hlen : xs.length + es.length ≤ mostOf ee.bytes) (hz : okZ (putF o.dst (.own j) (dropT tx fr)) (sins j (.slice e.elem ee.size (xs ++ es)) (sdel id g σ)) = true) (hs : SubS (sins j (.slice e.elem ee.size (xs ++ es)) (sdel id g σ)) (sins j (.slice e.elem ee.size (xs ++ es)) σ)) (hK : forceS (sins j (.slice e.elem ee.size (xs ++ es)) (sdel id g σ)) fun σ => K (putF o.dst (.own j) (dropT tx fr)) σ) : OpSem C n kd o K fr σ := by
  subst hkd
  subst hkk
  refine opSem_or (by decide) (by decide) fun B S w0 η φ a' w hM => ?_
  refine .inr ⟨(fun h => by cases h), .inl ?_⟩
  have ex : a'.eval (.tmp tx) = .slice p m m := by
    obtain ⟨cs, r, e⟩ := rd_da (ev_rep hM (.tmp tx)) hx
    simp only [RepC] at r
    subst r
    exact e
  obtain ⟨_, _, css, h1, h2⟩ := hM.mem.own _ (sget_mem hg)
  simp only [RepDss, RepD, RepC] at h1
  obtain ⟨c1, c2, rfl, ⟨q, c, rows, rfl, h3, h4, h5, h6, h7⟩, rfl⟩ := h1
  have h2 : Value.slice p m m = .slice q xs.length c := by simpa [toVD, toV] using h2
  simp only [Value.slice.injEq] at h2
  obtain ⟨rfl, rfl, rfl⟩ := h2
  have hrl := repCss_len h5
  have hcell : rows = [] ∨ ∃ b o, p = some ⟨b, o, none⟩ ∧ Cells w b o rows.flatten := by
    rcases h7 with h7 | ⟨b, o, h8, _, _, h9⟩
    · left
      rw [h7] at hrl
      exact List.eq_nil_of_length_eq_zero hrl
    · exact .inr ⟨b, o, h8, h9⟩
  have hsrc := elems_ok hM.mem hy (ev_rep hM y)
  obtain ⟨v', w', css2, g1, g2, g3, g4, g5, g6⟩ := append_clip (hC.ty he) hk2 (hC.ty hee) hk0 hb0 h6 hcell hsrc hne (by rw [hrl]; exact hlen) o.type
  rw [hrl] at g1
  have := hM.add (o := .slice e.elem ee.size (xs ++ es)) (v := v') (F := v'.ownBlock.toList) g5 (sget_none hj) (fun b hb => g6 b (by simpa using hb)) (fun O' hl => ⟨rows ++ css2, g2, rfl, repCss_append (RepCss.later hl _ _ h5) (RepCss.later hl _ _ g3), fun x hx => by
    rcases List.mem_append.1 hx with hx | hx
    · exact h6 x hx
    · exact g4 x hx⟩) hd
  rw [forceS_eq] at hK
  have M3 := (this.perm (sins_perm _ _ _)).sub' (fr' := putF o.dst (.own j) (dropT tx fr)) (fun s => by
    cases hdst : o.dst with
    | none => exact get_dropT tx s fr
    | some d =>
      simp only [putF, get]
      rcases beq_cases d s with ⟨h1, _⟩ | ⟨h1, _⟩
      · right; simp only [h1]
      · simp only [h1]; exact get_dropT tx s fr)
  refine ⟨v', w', ?_, _, _, _, _, M3.only hz hs, hK⟩
  simp only [execOp, ho]
  simp only [resolve, invoke, builtin, Sem.run_bind, Sem.run_pure, Result.andThen_ok, List.map_toArray, List.map_cons, List.map_nil, ex, g1]
end
end Go.Sx
end

section
/- quick: fits, images, Images. -/
namespace Go.Proofs.YtaadeobcnamgdaaGreatDoor
open Go.Sx Go.RowKit Go.Reg Go.Gr

set_option maxRecDepth 100000
theorem clip_fn : ClipFn C1 107 := by
  intro w a n c hn hc
  refine ⟨by kernel_rfl, ?_⟩
  show Calls Tryz.prog _ _ _ _
  go_enter Tryz.func107, Tryz.ntmps107
  go_wp2
  go_ret
  exact ⟨rfl, rfl⟩
end Go.Proofs.YtaadeobcnamgdaaGreatDoor
end

section
/- quick, plain: images are those of the document. -/
namespace Go.Gr
open Go.Proofs.YtaadeobcnamgdaaGreatDoor
theorem turn_lt {a b : Int} (h : a ≤ b) : turn ⟨a, b⟩ = ⟨a, b⟩ := by unfold turn; simp only [Edg.mk.injEq]; omega
theorem turn_gt {a b : Int} (h : b ≤ a) : turn ⟨a, b⟩ = ⟨b, a⟩ := by unfold turn; simp only [Edg.mk.injEq]; omega
theorem hasR_turn {E : List Edg} (h : ∀ e ∈ E, e.a < e.b) (x y : Int) : hasR E x y = decide (turn ⟨x, y⟩ ∈ E) := by
  rw [Bool.eq_iff_iff, decide_eq_true_eq]
  unfold hasR
  rw [List.any_eq_true]
  constructor
  · rintro ⟨e, he, hc⟩
    have hc := of_decide_eq_true hc
    have hl := h e he
    obtain ⟨a, b⟩ := e
    simp only at hc hl
    rcases hc with ⟨rfl, rfl⟩ | ⟨rfl, rfl⟩
    · rw [turn_lt (by omega)]; exact he
    · rw [turn_gt (by omega)]; exact he
  · intro he
    refine ⟨_, he, decide_eq_true ?_⟩
    rcases Int.le_total x y with hxy | hxy
    · rw [turn_lt hxy]; exact .inl ⟨rfl, rfl⟩
    · rw [turn_gt hxy]; exact .inr ⟨rfl, rfl⟩
end Go.Gr
end

section
/- pat: Make of one edge. quick: labels, Vert. -/
namespace Go.Gr
/-- pairs of places, the greater first, of which f is told -/
def colF (f : Nat → Nat → Bool) (i k : Nat) : List Edg := ((List.range k).filter fun x => f x i).map fun x : Nat => ⟨(x : Int), (i : Int)⟩
def colsF (f : Nat → Nat → Bool) (n : Nat) : List Edg := (List.range n).flatMap fun i => colF f i i
theorem colF_step (f : Nat → Nat → Bool) (i k : Nat) : colF f i (k + 1) = colF f i k ++ if f k i then [⟨(k : Int), (i : Int)⟩] else [] := by
  unfold colF
  rw [List.range_succ, List.filter_append, List.map_append]
  congr 1
  by_cases hf : f k i <;> simp [hf]
theorem colsF_step (f : Nat → Nat → Bool) (n : Nat) : colsF f (n + 1) = colsF f n ++ colF f n n := by simp [colsF, List.range_succ]
theorem colF_len (f : Nat → Nat → Bool) (i k : Nat) : (colF f i k).length ≤ k := by
  unfold colF
  rw [List.length_map]
  exact Nat.le_trans (List.length_filter_le _ _) (by simp)
theorem colsF_len (f : Nat → Nat → Bool) : ∀ n, (colsF f n).length ≤ n * n
  | 0 => by simp [colsF]
  | n + 1 => by
    have h1 := colsF_len f n
    have h2 := colF_len f n n
    rw [colsF_step, List.length_append, Nat.mul_add, Nat.add_mul]; omega
/-- are two of a list's vertices beside each other? -/
def adjF (E : List Edg) (l : List Int) (k i : Nat) : Bool := decide (turn ⟨(l[k]?).getD 0, (l[i]?).getD 0⟩ ∈ E)
end Go.Gr
namespace Go.Proofs.YtaadeobcnamgdaaGreatDoor
open Go.Sx Go.RowKit Go.Reg Go.Gr

set_option maxRecDepth 100000
def listS : ByteArray := ⟨#[108, 105, 115, 116]⟩
def dP0 : Da := .agg [.nils, .nils]
def pl_qlb : List (Nat × Plan) := []
def G_qlb : List FuncId := [176]
theorem cok_qlb : codeOk Tryz.prog G_qlb pl_qlb (Tryz.f118.body.getD .skip) = true := by kernel_rfl
theorem run_qlb (vs : Array Value) (w : World) : (callFunc 118 vs).run C1.P w = .ok (.enter 118 vs) w := by kernel_rfl
theorem qlabels_pure (G : Gr) (l : List Int) (hl : l.length ≤ 100000) : Pure C1 118 [dG G, dIs l] (fun y => y = dIs (l.map (labelV G))) := by
  have hdl : (l.map dI).length = l.length := List.length_map _
  refine pure_of c1_ok (pl := pl_qlb) (G := G_qlb) Tryz.func118 rfl Tryz.ntmps118 run_qlb cok_qlb (by simp) ?_
  ((conv => whnf); repeat' ((first | refine odw ?_ | refine ify ?_ | refine ifn ?_ | refine i6 ?_ | refine ati ?_ | refine mst ?_ | refine rmd ?_ | refine ibo (fun _ => ?_) (fun _ => ?_)) <;> conv => whnf))
  refine loop_lo (ι := Nat) (fun i => i ≤ l.length) (fun i => [(10, .d (.int .i64 i)), (9, .d (.int .i64 l.length)), (8, .d (dIs l)), (5, .own 300), (0, .d (dG G))]) (fun i => [(300, .slice 3 1 (((l.take i).map (labelV G)).map dI))]) (fun i => l.length - i) 0 (fun _ => rfl) (Nat.zero_le _) (.own 5 300 3 1 rfl rfl (.refl _ _)) ⟨rfl, by rw [← hdl]; rfl, rfl, rfl, rfl, trivial⟩ ⟨rfl, trivial⟩ ?_
  intro i hi
  refine sxCode_sound c1_ok (G := G_qlb) (pl := pl_qlb) _ _ _ _ (by kernel_rfl) ?_
  by_cases hil : i < l.length
  · have hx := List.getElem?_eq_getElem hil
    generalize l[i] = x at hx
    have hxd : (l.map dI)[i]? = some (.int .i64 x) := by rw [List.getElem?_map, hx]; rfl
    have hlb := label_pure G x
    have hll : (((l.take i).map (labelV G)).map dI).length = i := by simp only [List.length_map, List.length_take]; omega
    (conv => whnf)
    (repeat' ((first | refine ord_ok (by (conv => whnf); (repeat' ((first | refine at_da hxd rfl ?_ | refine call_eqb tab rfl hlb rfl ?_ | refine ify ?_ | refine ifn ?_ | refine i6 ?_ | refine ati ?_ | refine mst ?_ | refine rmd ?_ | refine ibo (fun _ => ?_) (fun _ => ?_)) <;> conv => whnf)); (all_goals (repeat' (first | exact trivial | exact rfl | refine And.intro ?_ ?_)))) ?_ | refine at_da hxd rfl ?_ | refine call_eqb tab rfl hlb rfl ?_ | refine ify ?_ | refine ifn ?_ | refine i6 ?_ | refine ati ?_ | refine mst ?_ | refine rmd ?_ | refine ibo (fun _ => ?_) (fun _ => ?_)) <;> conv => whnf))
    refine ⟨i + 1, _, _, by omega, .refl _ _, ⟨rfl, rfl, rfl, rfl, rfl, trivial⟩, ⟨slice_is ?_, trivial⟩, by omega⟩
    rw [List.take_add_one, hx]; simp [dI]
  · have e : l.take i = l := List.take_of_length_le (by omega)
    rw [e]
    ((conv => whnf); repeat' ((first | refine odw ?_ | refine ify ?_ | refine ifn ?_ | refine i6 ?_ | refine ati ?_ | refine mst ?_ | refine rmd ?_ | refine ibo (fun _ => ?_) (fun _ => ?_)) <;> conv => whnf))
    exact rfl
def pl_qvt : List (Nat × Plan) := []
def G_qvt : List FuncId := [119, 120, 118, 117]
theorem cok_qvt : codeOk Tryz.prog G_qvt pl_qvt (Tryz.f59.body.getD .skip) = true := by kernel_rfl
theorem run_qvt (vs : Array Value) (w : World) : (callFunc 59 vs).run C1.P w = .ok (.enter 59 vs) w := by kernel_rfl
set_option maxHeartbeats 4000000 in
theorem qvert_pure (G : Gr) (hG : G.Ok) (l : List Int) (q : Pt) (hmk : l.length ≤ 8 → linkedV G l = true → Pure C1 117 [dIs (l.map (labelV G)), dEs (colsF (adjF G.edges l) l.length)] (fun y => y = .tuple [dPt q, .nili])) (hm : l.length ≤ 9000000000000000000) :
    Pure C1 59 [dG G, dIs l] (fun y => y = if 8 < l.length then .tuple [dP0, dF 6 0 listS] else if linkedV G l = false then .tuple [dP0, dF 2 0 listS] else .tuple [dPt q, .nili]) := by
  have hdl : (l.map dI).length = l.length := List.length_map _
  have hlk := linked_pure G hG l
  refine pure_of c1_ok (pl := pl_qvt) (G := G_qvt) Tryz.func59 rfl Tryz.ntmps59 run_qvt cok_qvt (by simp) ?_
  by_cases h8 : 8 < l.length
  · rw [if_pos h8]
    (conv => whnf)
    (repeat' ((first | refine ord_ok (by (conv => whnf); (repeat' ((first | refine call_eq rfl (fnew_pure 6 0 listS) ?_ | refine ify ?_ | refine ifn ?_ | refine i6 ?_ | refine ati ?_ | refine mst ?_ | refine rmd ?_ | refine ibo (fun _ => ?_) (fun _ => ?_)) <;> conv => whnf)); (all_goals (repeat' (first | exact trivial | exact rfl | refine And.intro ?_ ?_)))) ?_ | refine call_eq rfl (fnew_pure 6 0 listS) ?_ | refine ify ?_ | refine ifn ?_ | refine i6 ?_ | refine ati ?_ | refine mst ?_ | refine rmd ?_ | refine ibo (fun _ => ?_) (fun _ => ?_)) <;> conv => whnf))
    exact rfl
  rw [if_neg h8]
  cases hl : linkedV G l with
  | false =>
    rw [hl] at hlk
    rw [if_pos rfl]
    (conv => whnf)
    (repeat' ((first | refine ord_ok (by (conv => whnf); (repeat' ((first | refine call_eq rfl hlk ?_ | refine call_eq rfl (fnew_pure 2 0 listS) ?_ | refine ify ?_ | refine ifn ?_ | refine i6 ?_ | refine ati ?_ | refine mst ?_ | refine rmd ?_ | refine ibo (fun _ => ?_) (fun _ => ?_)) <;> conv => whnf)); (all_goals (repeat' (first | exact trivial | exact rfl | refine And.intro ?_ ?_)))) ?_ | refine call_eq rfl hlk ?_ | refine call_eq rfl (fnew_pure 2 0 listS) ?_ | refine ify ?_ | refine ifn ?_ | refine i6 ?_ | refine ati ?_ | refine mst ?_ | refine rmd ?_ | refine ibo (fun _ => ?_) (fun _ => ?_)) <;> conv => whnf))
    exact rfl
  | true =>
    rw [hl] at hlk
    rw [if_neg (by decide)]
    have hmk := hmk (by omega) hl
    have hql := qlabels_pure G l (by omega)
    have hcl := colsF_len (adjF G.edges l)
    have hsq : l.length * l.length ≤ 8 * 8 := Nat.mul_le_mul (by omega) (by omega)
    (conv => whnf)
    (repeat' ((first | refine ord_ok (by (conv => whnf); (repeat' ((first | refine call_eq rfl hlk ?_ | refine ify ?_ | refine ifn ?_ | refine i6 ?_ | refine ati ?_ | refine mst ?_ | refine rmd ?_ | refine ibo (fun _ => ?_) (fun _ => ?_)) <;> conv => whnf)); (all_goals (repeat' (first | exact trivial | exact rfl | refine And.intro ?_ ?_)))) ?_ | refine call_eq rfl hlk ?_ | refine ify ?_ | refine ifn ?_ | refine i6 ?_ | refine ati ?_ | refine mst ?_ | refine rmd ?_ | refine ibo (fun _ => ?_) (fun _ => ?_)) <;> conv => whnf))
    refine loop_lo (ι := Nat) (fun i => i ≤ l.length) (fun i => [(26, .d (.int .i64 i)), (25, .d (.int .i64 l.length)), (24, .d (dIs l)), (6, .own 300), (4, .own 4), (1, .d (dIs l)), (0, .d (dG G))]) (fun i => [(4, .cells 58 [.d .nils, .d .nils]), (300, .slice 128 2 ((colsF (adjF G.edges l) i).map dE))]) (fun i => l.length - i) 0 (fun _ => rfl) (Nat.zero_le _) (.own 6 300 128 2 rfl rfl (.refl _ _)) ⟨rfl, by rw [← hdl]; rfl, rfl, rfl, rfl, rfl, rfl, trivial⟩ ⟨rfl, rfl, trivial⟩ ?_
    intro i hi
    refine sxCode_sound c1_ok (G := G_qvt) (pl := pl_qvt) _ _ _ _ (by kernel_rfl) ?_
    by_cases hil : i < l.length
    · have hx := List.getElem?_eq_getElem hil
      have hadj : ∀ k u, l[k]? = some u → adjF G.edges l k i = decide (turn ⟨u, l[i]⟩ ∈ G.edges) := fun k u hk => by unfold adjF; rw [hk, hx]; rfl
      generalize l[i] = x at hx hadj
      have hxd : (l.map dI)[i]? = some (.int .i64 x) := by rw [List.getElem?_map, hx]; rfl
      have hsub : (l.map dI).take i = (l.take i).map dI := by rw [List.map_take]
      have htl : ((l.map dI).take i).length = i := by rw [List.length_take]; omega
      have hci := hcl i
      have hii : i * i ≤ 8 * 8 := Nat.mul_le_mul (by omega) (by omega)
      (conv => whnf)
      (repeat' ((first | refine ord_ok (by (conv => whnf); (repeat' ((first | refine at_da hxd rfl ?_ | refine hi_is rfl (show i ≤ (l.map dI).length by omega) ?_ | refine ify ?_ | refine ifn ?_ | refine i6 ?_ | refine ati ?_ | refine mst ?_ | refine rmd ?_ | refine ibo (fun _ => ?_) (fun _ => ?_)) <;> conv => whnf)); (all_goals (repeat' (first | exact trivial | exact rfl | refine And.intro ?_ ?_)))) ?_ | refine at_da hxd rfl ?_ | refine hi_is rfl (show i ≤ (l.map dI).length by omega) ?_ | refine ify ?_ | refine ifn ?_ | refine i6 ?_ | refine ati ?_ | refine mst ?_ | refine rmd ?_ | refine ibo (fun _ => ?_) (fun _ => ?_)) <;> conv => whnf))
      refine loop_lo (ι := Nat) (fun k => k ≤ i) (fun k => [(35, .d (.int .i64 k)), (34, .d (.int .i64 i)), (33, .d (.list 1 ((l.map dI).take i))), (26, .d (.int .i64 i)), (25, .d (.int .i64 l.length)), (24, .d (dIs l)), (8, .d (.int .i64 x)), (7, .d (.int .i64 i)), (6, .own 300), (4, .own 4), (1, .d (dIs l)), (0, .d (dG G))]) (fun k => [(4, .cells 58 [.d .nils, .d .nils]), (300, .slice 128 2 ((colsF (adjF G.edges l) i ++ colF (adjF G.edges l) i k).map dE))]) (fun k => i - k) 0 (fun _ => rfl) (Nat.zero_le _) (.refl _ _) ⟨rfl, int_is (by rw [htl]), rfl, rfl, rfl, rfl, rfl, rfl, rfl, rfl, rfl, rfl, trivial⟩ ⟨rfl, by rw [show colF (adjF G.edges l) i 0 = [] from rfl, List.append_nil]; rfl, trivial⟩ ?_
      intro k hk
      refine sxCode_sound c1_ok (G := G_qvt) (pl := pl_qvt) _ _ _ _ (by kernel_rfl) ?_
      by_cases hki : k < i
      · have hy := List.getElem?_eq_getElem (l := l) (i := k) (by omega)
        generalize l[k]'(by omega) = u at hy
        have hyd : ((l.map dI).take i)[k]? = some (.int .i64 u) := by rw [List.getElem?_take, if_pos hki, List.getElem?_map, hy]; rfl
        have hh := hasE_pure G hG u x
        have hst := colF_step (adjF G.edges l) i k
        rw [hadj k u hy] at hst
        have hkl := colF_len (adjF G.edges l) i k
        have hol : ((colsF (adjF G.edges l) i ++ colF (adjF G.edges l) i k).map dE).length ≤ 1000 := by rw [List.length_map, List.length_append]; omega
        by_cases hd : turn ⟨u, x⟩ ∈ G.edges
        · rw [decide_eq_true hd] at hh hst
          rw [if_pos rfl] at hst
          (conv => whnf)
          (repeat' ((first | refine ord_ok (by (conv => whnf); (repeat' ((first | refine at_da hyd rfl ?_ | refine call_eqb tab rfl hh rfl ?_ | refine ify ?_ | refine ifn ?_ | refine i6 ?_ | refine ati ?_ | refine mst ?_ | refine rmd ?_ | refine ibo (fun _ => ?_) (fun _ => ?_)) <;> conv => whnf)); (all_goals (repeat' (first | exact trivial | exact rfl | refine And.intro ?_ ?_)))) ?_ | refine at_da hyd rfl ?_ | refine call_eqb tab rfl hh rfl ?_ | refine ify ?_ | refine ifn ?_ | refine i6 ?_ | refine ati ?_ | refine mst ?_ | refine rmd ?_ | refine ibo (fun _ => ?_) (fun _ => ?_)) <;> conv => whnf))
          refine ⟨k + 1, _, _, by omega, .refl _ _, ⟨rfl, rfl, rfl, rfl, rfl, rfl, rfl, rfl, rfl, rfl, rfl, rfl, trivial⟩, ⟨rfl, slice_is ?_, trivial⟩, by omega⟩
          rw [hst]; simp [dE]
        · rw [decide_eq_false hd] at hh hst
          rw [if_neg (by decide), List.append_nil] at hst
          (conv => whnf)
          (repeat' ((first | refine ord_ok (by (conv => whnf); (repeat' ((first | refine at_da hyd rfl ?_ | refine call_eqb tab rfl hh rfl ?_ | refine ify ?_ | refine ifn ?_ | refine i6 ?_ | refine ati ?_ | refine mst ?_ | refine rmd ?_ | refine ibo (fun _ => ?_) (fun _ => ?_)) <;> conv => whnf)); (all_goals (repeat' (first | exact trivial | exact rfl | refine And.intro ?_ ?_)))) ?_ | refine at_da hyd rfl ?_ | refine call_eqb tab rfl hh rfl ?_ | refine ify ?_ | refine ifn ?_ | refine i6 ?_ | refine ati ?_ | refine mst ?_ | refine rmd ?_ | refine ibo (fun _ => ?_) (fun _ => ?_)) <;> conv => whnf))
          exact ⟨k + 1, _, _, by omega, .refl _ _, ⟨rfl, rfl, rfl, rfl, rfl, rfl, rfl, rfl, rfl, rfl, rfl, rfl, trivial⟩, ⟨rfl, slice_is (by rw [hst]), trivial⟩, by omega⟩
      · have hke : k = i := by omega
        subst hke
        ((conv => whnf); repeat' ((first | refine odw ?_ | refine ify ?_ | refine ifn ?_ | refine i6 ?_ | refine ati ?_ | refine mst ?_ | refine rmd ?_ | refine ibo (fun _ => ?_) (fun _ => ?_)) <;> conv => whnf))
        exact ⟨k + 1, _, _, by omega, .refl _ _, ⟨rfl, rfl, rfl, rfl, rfl, rfl, rfl, trivial⟩, ⟨rfl, slice_is (by rw [colsF_step]), trivial⟩, by omega⟩
    · have hie : i = l.length := by omega
      subst hie
      (conv => whnf)
      (repeat' ((first | refine ord_ok (by (conv => whnf); (repeat' ((first | refine call_frz 300 rfl ?_ | refine call_eq rfl hql ?_ | refine call_eq rfl hmk ?_ | refine ify ?_ | refine ifn ?_ | refine i6 ?_ | refine ati ?_ | refine mst ?_ | refine rmd ?_ | refine ibo (fun _ => ?_) (fun _ => ?_)) <;> conv => whnf)); (all_goals (repeat' (first | exact trivial | exact rfl | refine And.intro ?_ ?_)))) ?_ | refine call_frz 300 rfl ?_ | refine call_eq rfl hql ?_ | refine call_eq rfl hmk ?_ | refine ify ?_ | refine ifn ?_ | refine i6 ?_ | refine ati ?_ | refine mst ?_ | refine rmd ?_ | refine ibo (fun _ => ?_) (fun _ => ?_)) <;> conv => whnf))
      exact rfl
end Go.Proofs.YtaadeobcnamgdaaGreatDoor
end
