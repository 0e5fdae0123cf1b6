/- Merged: Clp Pin. -/
import Derived.Test.YteigfapjiekdnaaGreatDoorSxu
import Derived.Test.YteigfapjiekdnaaGreatDoorCtx
import Derived.Test.YteigfapjiekdnaaGreatDoorKeaa
section
/- A slice with no room behind it (slices.Clip), and appends to it. -/
namespace Go.Sx
open Go Go.RowKit Go.Reg
section
variable {C : Cx} {T : Tab} {B S : List Nat} {w0 w : World} {n kd : Nat} {fr : Fr} {σ : Sg} {η : Nat → Value} {φ : Nat → List Nat} {a : Act}
/-- data whose value is known -/
theorem Models.pin (hM : Models C B S w0 n fr σ η φ a w) {g : Nat} (hg : sget g σ = none) {x : Da} {u : Value} (hr : Rep (B ++ blocks φ σ) w x u) : Models C B S w0 n fr ((g, .ghost [u] [.d x]) :: σ) (upd η g .nilFunc) (upd φ g []) a w := by
  have hi' := sget_none hg
  obtain ⟨cs, h1, h2⟩ := hr
  obtain ⟨hm, hl⟩ := hM.mem.add (Tch.refl [] w) hi' (v := .nilFunc) (F := []) (o := .ghost [u] [.d x]) (by simp) ⟨rfl, rfl, [cs], by simp only [RepDss, RepD]; exact ⟨_, _, rfl, h1, rfl⟩, by rw [h2]; rfl⟩
  exact ⟨hm, hM.fr.add hi' hl, hM.defers, hM.size⟩
/-- a function that hands its slice back with no room behind it -/
def ClipFn (C : Cx) (f : FuncId) : Prop := ∀ (w : World) (a : Option Addr) (n c : Nat), n ≤ c → c ≤ maxLen →
  (callFunc f #[.slice a n c]).run C.P w = .ok (.enter f #[.slice a n c]) w ∧ Calls C.P f #[.slice a n c] w fun e w' => e = .returned (.slice a n n) ∧ w' = w
theorem call_clip (g : Nat) {q : Bool} {f : FuncId} {args : List Dat} {k : Nat} {xs : List Da} {K : KD} (hg : sget g σ = none) (ha : allD args = some [.list k xs]) (hf : ClipFn C f)
    (hK : ∀ a, forceS (sins g (.ghost [.slice a xs.length xs.length] [.d (.list k xs)]) σ) fun σ => K (.d (.raw (.slice a xs.length xs.length))) fr σ) : SxCall C q f args K fr σ := by
  unfold SxCall
  rintro B S w0 η φ n a w vs hM ⟨css, hr, rfl⟩
  obtain ⟨h1, h2⟩ := allD_rep ha hr
  rw [h2]
  simp only [RepCss, RepC] at h1
  obtain ⟨c1, c2, rfl, ⟨p, c, es, rfl, h3, h4, h5, h6, h7⟩, rfl⟩ := h1
  obtain ⟨g1, g2⟩ := hf w p xs.length c h3 h4
  refine ⟨g1, g2.mono ?_⟩
  rintro e w' ⟨rfl, rfl⟩
  have hrep : Rep (B ++ blocks φ σ) w' (.list k xs) (.slice p xs.length xs.length) := ⟨[_], by simp only [RepC]; exact ⟨p, xs.length, es, rfl, Nat.le_refl _, Nat.le_trans h3 h4, h5, h6, h7⟩, rfl⟩
  have hM2 := (hM.pin hg hrep).perm (sins_perm g _ σ)
  have hk := hK p
  rw [forceS_eq] at hk
  exact ⟨_, _, fr, _, _, _, rfl, hk, hM2, ⟨[_], by simp only [RepD, RepC], rfl⟩, fun _ => (Tch.refl [] w').ext⟩
theorem append_clip {P : Program} {t : TypeId} {e ee : TyI} (h : TyOk P t e) (hk : e.kd = 2) (h2 : TyOk P e.elem ee) (hk0 : 0 < ee.size) (hb0 : ee.bytes ≤ 1000) {p : Option Addr} {css : List (List Value)} (hrow : ∀ x ∈ css, RowOk ee.size x) (hcell : css = [] ∨ ∃ b o, p = some ⟨b, o, none⟩ ∧ Cells w b o css.flatten)
    {O : List Nat} {es : List Da} {vy : Value} (hy : Src ee.size O w es vy) (hne : es ≠ []) (hlen : css.length + es.length ≤ mostOf ee.bytes) (ty : TypeId) :
    ∃ v' w' css2, (Builtin.append_ #[t, t] ty #[.slice p css.length css.length, vy]).run P w = .ok v' w' ∧ Sl e.elem ee.size id w' v' (css ++ css2) ∧ RepCss O w es css2 ∧ (∀ x ∈ css2, RowOk ee.size x) ∧ Tch [] w w' ∧ (∀ b, v'.ownBlock = some b → w.heap.size ≤ b) := by
  cases p with
  | none =>
    have hc : css = [] := hcell.resolve_right (by rintro ⟨b, o, h, _⟩; cases h)
    subst hc
    obtain ⟨v', w', css2, g1, g2, g3, g4, g5, g6⟩ := append_any (v := .slice none 0 0) (css := []) h hk h2 hk0 hb0 (World.ownsRow_nil w 0 _ _) hy hlen ty
    refine ⟨v', w', css2, g1, g2, g3, g4, g5, fun b hb => ?_⟩
    rcases g6 with g6 | g6
    · rw [g6] at hb; cases hb
    · rw [g6] at hb; cases hb; exact Nat.le_refl _
  | some ad =>
    obtain ⟨d, h1, _, h3, _, _, _, _, h8⟩ := h.desc
    rw [hk] at h8
    cases d <;> simp at h8
    have he := h3 _ rfl
    subst he
    obtain ⟨i, z, hi, hsize, hby, hz, _, _⟩ := h2.info
    obtain ⟨av, c, css2, rfl, hr2, hk2, hsrc⟩ := hy.ex
    have hl2 := repCss_len hr2
    have hfl2 := flat_len (fun x hx => (hk2 x hx).1)
    have hfl := flat_len (fun x hx => (hrow x hx).1)
    unfold mostOf at hlen
    have hbb := Nat.mul_le_of_le_div _ _ _ hlen
    have hl0 : css.length + es.length ≤ 140737488355328 := Nat.le_trans hlen (Nat.div_le_self _ _)
    have h0 : es.length ≠ 0 := fun e => hne (List.eq_nil_of_length_eq_zero e)
    obtain ⟨b, o, rfl, hcl⟩ : ∃ b o, av = some ⟨b, o, none⟩ ∧ Cells w b o css2.flatten := hsrc.resolve_left hne
    have hnews := cells_add hcl
    have hln : css2.flatten.length = es.length * i.size := by rw [hfl2, hl2, hsize]
    have hlo : css.flatten.length = css.length * i.size := by rw [hfl, hsize]
    have holds : ∀ j u, css.flatten[j]? = some u → w.cell? (ad.add j) = some u := by
      rcases hcell with rfl | ⟨b', o', h', hc'⟩
      · intro j u hj; simp at hj
      · cases h'; exact cells_add hc'
    have hzs : z.cells.size = i.size := by
      obtain ⟨i', z', g1, g2, _, g4, _, g6⟩ := h2.info
      rw [hi] at g1; cases g1
      rw [hz] at g4; cases g4
      have := repC_len _ _ (g6 [] w)
      have hsz := h2.zsize
      simp at this
      omega
    have hx := run_append_grow (P := P) w t ty e.elem i z h1 hi hz ad css.length css.length css.flatten hlo holds ⟨b, o, none⟩ es.length c css2.flatten hln hnews (by omega) (by omega) (growslice_fits (by omega) (by rw [hby]; omega))
    refine ⟨_, _, css2, hx, ?_, hr2, hk2, ⟨rfl, rfl, rfl, by simp, fun k hk _ => heap_alloc_old w.drew _ hk⟩, fun b hb => by cases hb; exact Nat.le_refl _⟩
    have hge := grownCap_ge w (css.length + es.length) css.length e.elem
    have hcm : grownCap w (css.length + es.length) css.length e.elem ≤ maxLen := grownCap_le_maxLen w _ _ e.elem (by simp only [maxLen]; omega)
    have hlen2 : (css.flatten ++ css2.flatten).length = (css.length + es.length) * i.size := by rw [List.length_append, hlo, hln, Nat.add_mul]
    unfold Sl
    rw [flatMap_id, List.flatten_append, List.length_append, hl2, ← hsize]
    refine ⟨hlen2, .inr ⟨w.heap.size, _, _, rfl, Nat.zero_le _, heap_alloc_new w.drew _, hge, hcm, ?_, ?_⟩⟩
    · simp only [Array.size_append, List.size_toArray, size_zeroCells, hzs, hlo, hln, ← Nat.add_mul]
      congr 1
      omega
    · simp only [Array.toList_append, List.append_assoc]
      rw [← List.append_assoc, ← hlen2]
      exact List.take_left
end
section
variable {C : Cx} {T : Tab} {n kd : Nat} {fr : Fr} {σ : Sg}
/-- without a slot -/
def dropT (t : Nat) : Fr → Fr
  | [] => []
  | (s, d) :: fr => match Nat.beq s t with
    | true => dropT t fr
    | false => (s, d) :: dropT t fr
theorem get_dropped (t : Nat) : ∀ fr : Fr, get (dropT t fr) t = .d .undef
  | [] => rfl
  | (u, d) :: fr => by
    rcases beq_cases u t with ⟨hb, e⟩ | ⟨hb, e⟩
    · simp only [dropT, hb]; exact get_dropped t fr
    · simp only [dropT, hb, get]; exact get_dropped t fr
theorem get_dropT (t s : Nat) : ∀ fr : Fr, get (dropT t fr) s = .d .undef ∨ get (dropT t fr) s = get fr s
  | [] => .inr rfl
  | (u, d) :: fr => by
    rcases beq_cases u t with ⟨hb, e⟩ | ⟨hb, e⟩
    · simp only [dropT, hb]
      rcases get_dropT t s fr with h | h
      · exact .inl h
      · rcases beq_cases u s with ⟨h1, e1⟩ | ⟨h1, e1⟩
        · left
          subst e1
          subst e
          exact get_dropped u fr
        · right; simp only [get, h1]; exact h
    · simp only [dropT, hb, get]
      rcases beq_cases u s with ⟨h1, e1⟩ | ⟨h1, e1⟩
      · right; simp only [h1]
      · simp only [h1]; exact get_dropT t s fr
/-- 'append' to a slice with no room behind it: a new slice -/
theorem op_appClip (g j tx : Nat) {o : Oper} {K : Fr → Sg → Prop} {t : TypeId} {y : Operand} {e ee : TyI} {p : Option Addr} {m k : Nat} {xs es : List Da} (hC : C.Ok T) (ho : o.op = .call { callee := .builtin .append, args := #[.tmp tx, y], argTypes := #[t, t] })
    (he : tyAt t T = some e) (hk2 : e.kd = 2) (hee : tyAt e.elem T = some ee) (hk0 : 0 < ee.size) (hb0 : ee.bytes ≤ 1000) (hkk : k = ee.size) (hx : get fr tx = .d (.raw (.slice p m m))) (hg : sget g σ = some (.ghost [.slice p m m] [.d (.list k xs)])) (hy : elems (ev C.Γ fr y) k σ = some es) (hne : es ≠ []) (hj : sget j σ = none)
    (hkd : kd = 3) (hd : dstOk o.dst n = true) (hlen : xs.length + es.length ≤ mostOf ee.bytes) (hz : okZ (putF o.dst (.own j) (dropT tx fr)) (sins j (.slice e.elem ee.size (xs ++ es)) (sdel id g σ)) = true) (hs : SubS (sins j (.slice e.elem ee.size (xs ++ es)) (sdel id g σ)) (sins j (.slice e.elem ee.size (xs ++ es)) σ)) (hK : forceS (sins j (.slice e.elem ee.size (xs ++ es)) (sdel id g σ)) fun σ => K (putF o.dst (.own j) (dropT tx fr)) σ) : OpSem C n kd o K fr σ := by
  subst hkd
  subst hkk
  refine opSem_or (by decide) (by decide) fun B S w0 η φ a' w hM => ?_
  refine .inr ⟨(fun h => by cases h), .inl ?_⟩
  have ex : a'.eval (.tmp tx) = .slice p m m := by
    obtain ⟨cs, r, e⟩ := rd_da (ev_rep hM (.tmp tx)) hx
    simp only [RepC] at r
    subst r
    exact e
  obtain ⟨_, _, css, h1, h2⟩ := hM.mem.own _ (sget_mem hg)
  simp only [RepDss, RepD, RepC] at h1
  obtain ⟨c1, c2, rfl, ⟨q, c, rows, rfl, h3, h4, h5, h6, h7⟩, rfl⟩ := h1
  have h2 : Value.slice p m m = .slice q xs.length c := by simpa [toVD, toV] using h2
  simp only [Value.slice.injEq] at h2
  obtain ⟨rfl, rfl, rfl⟩ := h2
  have hrl := repCss_len h5
  have hcell : rows = [] ∨ ∃ b o, p = some ⟨b, o, none⟩ ∧ Cells w b o rows.flatten := by
    rcases h7 with h7 | ⟨b, o, h8, _, _, h9⟩
    · left
      rw [h7] at hrl
      exact List.eq_nil_of_length_eq_zero hrl
    · exact .inr ⟨b, o, h8, h9⟩
  have hsrc := elems_ok hM.mem hy (ev_rep hM y)
  obtain ⟨v', w', css2, g1, g2, g3, g4, g5, g6⟩ := append_clip (hC.ty he) hk2 (hC.ty hee) hk0 hb0 h6 hcell hsrc hne (by rw [hrl]; exact hlen) o.type
  rw [hrl] at g1
  have := hM.add (o := .slice e.elem ee.size (xs ++ es)) (v := v') (F := v'.ownBlock.toList) g5 (sget_none hj) (fun b hb => g6 b (by simpa using hb)) (fun O' hl => ⟨rows ++ css2, g2, rfl, repCss_append (RepCss.later hl _ _ h5) (RepCss.later hl _ _ g3), fun x hx => by
    rcases List.mem_append.1 hx with hx | hx
    · exact h6 x hx
    · exact g4 x hx⟩) hd
  rw [forceS_eq] at hK
  have M3 := (this.perm (sins_perm _ _ _)).sub' (fr' := putF o.dst (.own j) (dropT tx fr)) (fun s => by
    cases hdst : o.dst with
    | none => exact get_dropT tx s fr
    | some d =>
      simp only [putF, get]
      rcases beq_cases d s with ⟨h1, _⟩ | ⟨h1, _⟩
      · right; simp only [h1]
      · simp only [h1]; exact get_dropT tx s fr)
  refine ⟨v', w', ?_, _, _, _, _, M3.only hz hs, hK⟩
  simp only [execOp, ho]
  simp only [resolve, invoke, builtin, Sem.run_bind, Sem.run_pure, Result.andThen_ok, List.map_toArray, List.map_cons, List.map_nil, ex, g1]
end
end Go.Sx
end

section
/- Edges, plain: each put where it belongs. -/
namespace Go.Gr
def ltsB (E : List Edg) (e : Edg) : Nat := E.countP (fun x => decide (cmpE x e < 0))
/-- an edge put where it belongs -/
def insE (E : List Edg) (x : Edg) : List Edg := E.take (ltsB E x) ++ x :: E.drop (ltsB E x)
def accE (E : List Edg) (i : Nat) : List Edg := ((E.take i).map turn).foldl insE []
theorem lts_split {E : List Edg} (h : Strict E) (x : Edg) : (∀ y ∈ E.take (ltsB E x), cmpE y x < 0) ∧ ∀ y ∈ E.drop (ltsB E x), ¬ cmpE y x < 0 := by
  induction E with
  | nil => simp
  | cons z E ih =>
    obtain ⟨h1, h2⟩ := List.pairwise_cons.1 h
    by_cases hz : cmpE z x < 0
    · have e : ltsB (z :: E) x = ltsB E x + 1 := by unfold ltsB; rw [List.countP_cons_of_pos (by simp [hz])]
      rw [e, List.take_succ_cons, List.drop_succ_cons]
      obtain ⟨i1, i2⟩ := ih h2
      refine ⟨fun y hy => ?_, i2⟩
      rcases List.mem_cons.1 hy with rfl | hy
      · exact hz
      · exact i1 y hy
    · have hall : ∀ y ∈ z :: E, ¬ cmpE y x < 0 := by
        intro y hy
        rcases List.mem_cons.1 hy with rfl | hy
        · exact hz
        · exact fun hc => hz (cmpE_trans (h1 y hy) hc)
      have e : ltsB (z :: E) x = 0 := by
        unfold ltsB
        exact List.countP_eq_zero.2 fun y hy => by have := hall y hy; simpa using this
      rw [e]
      exact ⟨by simp, hall⟩
theorem insE_perm (E : List Edg) (x : Edg) : (insE E x).Perm (x :: E) := by
  unfold insE
  refine List.perm_middle.trans ?_
  rw [List.take_append_drop]
theorem insE_strict {E : List Edg} (h : Strict E) {x : Edg} (hx : x ∉ E) : Strict (insE E x) := by
  obtain ⟨h1, h2⟩ := lts_split h x
  unfold insE
  have hg : ∀ y ∈ E.drop (ltsB E x), cmpE x y < 0 := fun y hy => by
    rcases cmpE_tri x y with h3 | h3 | h3
    · exact h3
    · subst h3; exact absurd (List.mem_of_mem_drop hy) hx
    · exact absurd h3 (h2 y hy)
  refine List.pairwise_append.2 ⟨List.Pairwise.sublist (List.take_sublist _ _) h, List.pairwise_cons.2 ⟨hg, List.Pairwise.sublist (List.drop_sublist _ _) h⟩, fun a ha b hb => ?_⟩
  rcases List.mem_cons.1 hb with rfl | hb
  · exact h1 a ha
  · exact cmpE_trans (h1 a ha) (hg b hb)
theorem fold_ins (L : List Edg) (hn : L.Nodup) : ∀ E, Strict E → (∀ x ∈ L, x ∉ E) → Strict (L.foldl insE E) ∧ (L.foldl insE E).Perm (L ++ E) := by
  induction L with
  | nil => intro E h _; exact ⟨h, List.Perm.refl _⟩
  | cons x L ih =>
    intro E h hx
    obtain ⟨n1, n2⟩ := List.nodup_cons.1 hn
    have hs := insE_strict h (hx x (by simp))
    obtain ⟨i1, i2⟩ := ih n2 (insE E x) hs (fun y hy hm => by
      have := (insE_perm E x).mem_iff.1 hm
      rcases List.mem_cons.1 this with rfl | h3
      · exact n1 hy
      · exact hx y (by simp [hy]) h3)
    refine ⟨i1, i2.trans ?_⟩
    refine (List.Perm.append_left L (insE_perm E x)).trans ?_
    exact List.perm_middle
theorem accE_ok {E : List Edg} (hn : (E.map turn).Nodup) (i : Nat) : Strict (accE E i) ∧ (accE E i).Perm ((E.take i).map turn) := by
  have hn' : ((E.take i).map turn).Nodup := by rw [List.map_take]; exact hn.sublist (List.take_sublist _ _)
  have := fold_ins _ hn' [] List.Pairwise.nil (by simp)
  rwa [List.append_nil] at this
theorem accE_step {E : List Edg} {i : Nat} {x : Edg} (h : E[i]? = some x) : accE E (i + 1) = insE (accE E i) (turn x) := by
  unfold accE
  rw [List.take_add_one, h]
  simp
end Go.Gr
end
