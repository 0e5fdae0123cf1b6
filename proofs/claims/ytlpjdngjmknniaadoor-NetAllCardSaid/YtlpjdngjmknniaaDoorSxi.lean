/- The walk is sound: operations on memory. -/
import Derived.Test.YtlpjdngjmknniaaDoorSxh
namespace Go.Sx
open Go Go.RowKit Go.Reg

theorem repCss_at {O : List Nat} {w : World} : ∀ {ds : List Da} {css : List (List Value)}, RepCss O w ds css → ∀ {n : Nat} {d : Da}, ds[n]? = some d → ∃ c, css[n]? = some c ∧ RepC O w d c
  | [], css, h, n, d, hn => by simp at hn
  | x :: ds, css, h, n, d, hn => by
    simp only [RepCss] at h
    obtain ⟨c1, c2, rfl, h1, h2⟩ := h
    cases n with
    | zero => simp at hn; subst hn; exact ⟨c1, rfl, h1⟩
    | succ n => exact repCss_at h2 (by simpa using hn)
theorem repCss_append {O : List Nat} {w : World} : ∀ {ds es : List Da} {css css2 : List (List Value)}, RepCss O w ds css → RepCss O w es css2 → RepCss O w (ds ++ es) (css ++ css2)
  | [], es, css, css2, h, h2 => by simp only [RepCss] at h; subst h; simpa using h2
  | x :: ds, es, css, css2, h, h2 => by
    simp only [RepCss] at h
    obtain ⟨c1, c2, rfl, h1, h3⟩ := h
    exact ⟨c1, c2 ++ css2, rfl, h1, repCss_append h3 h2⟩
theorem repCss_set {O : List Nat} {w : World} : ∀ {ds : List Da} {css : List (List Value)}, RepCss O w ds css → ∀ (n : Nat) {d : Da} {c : List Value}, RepC O w d c → RepCss O w (ds.set n d) (css.set n c)
  | [], css, h, n, d, c, hc => by simp only [RepCss] at h; subst h; simp [RepCss]
  | x :: ds, css, h, n, d, c, hc => by
    simp only [RepCss] at h
    obtain ⟨c1, c2, rfl, h1, h2⟩ := h
    cases n with
    | zero => exact ⟨c, c2, rfl, hc, h2⟩
    | succ n => exact ⟨c1, c2.set n c, rfl, h1, repCss_set h2 n hc⟩
theorem repCss_take {O : List Nat} {w : World} : ∀ {ds : List Da} {css : List (List Value)}, RepCss O w ds css → ∀ n, RepCss O w (ds.take n) (css.take n)
  | [], css, h, n => by simp only [RepCss] at h; subst h; simp [RepCss]
  | x :: ds, css, h, n => by
    simp only [RepCss] at h
    obtain ⟨c1, c2, rfl, h1, h2⟩ := h
    cases n with
    | zero => simp [RepCss]
    | succ n => exact ⟨c1, c2.take n, rfl, h1, repCss_take h2 n⟩
theorem repCss_drop {O : List Nat} {w : World} : ∀ {ds : List Da} {css : List (List Value)}, RepCss O w ds css → ∀ n, RepCss O w (ds.drop n) (css.drop n)
  | [], css, h, n => by simp only [RepCss] at h; subst h; simp [RepCss]
  | x :: ds, css, h, n => by
    simp only [RepCss] at h
    obtain ⟨c1, c2, rfl, h1, h2⟩ := h
    cases n with
    | zero => exact ⟨c1, c2, rfl, h1, h2⟩
    | succ n => exact repCss_drop h2 n

theorem flat_get {k : Nat} : ∀ {css : List (List Value)}, (∀ x ∈ css, x.length = k) → ∀ {n : Nat} {c : List Value}, css[n]? = some c → ∀ {j : Nat} {u : Value}, c[j]? = some u → css.flatten[n * k + j]? = some u
  | [], h, n, c, hn, j, u, hj => by simp at hn
  | x :: css, h, n, c, hn, j, u, hj => by
    have hx := h x (by simp)
    cases n with
    | zero =>
      simp at hn; subst hn
      have := (List.getElem?_eq_some_iff.1 hj).1
      simp only [List.flatten_cons, Nat.zero_mul, Nat.zero_add]
      rw [List.getElem?_append_left (by omega)]; exact hj
    | succ n =>
      simp only [List.flatten_cons]
      rw [List.getElem?_append_right (by rw [hx, Nat.add_mul]; omega), hx, show (n + 1) * k + j - k = n * k + j by rw [Nat.add_mul]; omega]
      exact flat_get (fun y hy => h y (by simp [hy])) (by simpa using hn) hj
theorem flat_len {k : Nat} : ∀ {css : List (List Value)}, (∀ x ∈ css, x.length = k) → css.flatten.length = css.length * k
  | [], h => by simp
  | x :: css, h => by
    have ih := flat_len (css := css) (fun y hy => h y (List.mem_cons_of_mem _ hy))
    simp only [List.flatten_cons, List.length_append, List.length_cons, h x (by simp), ih, Nat.add_mul]; omega
theorem flat_one {k : Nat} {css : List (List Value)} (h : ∀ x ∈ css, RowOk k x) : ∀ v ∈ css.flatten, v.oneCell' = true := fun v hv => by
  obtain ⟨x, hx, hv⟩ := List.mem_flatten.1 hv
  exact (h x hx).2 v hv
theorem flatMap_id (css : List (List Value)) : css.flatMap id = css.flatten := by simp [List.flatMap]
theorem flat_drop {k : Nat} : ∀ {css : List (List Value)}, (∀ x ∈ css, x.length = k) → ∀ n, (css.drop n).flatten = css.flatten.drop (n * k)
  | [], h, n => by simp
  | x :: css, h, 0 => by simp
  | x :: css, h, n + 1 => by
    have hx := h x (by simp)
    simp only [List.drop_succ_cons, List.flatten_cons]
    have e : x.drop ((n + 1) * k) = [] := List.drop_of_length_le (by rw [hx, Nat.add_mul]; omega)
    rw [flat_drop (fun y hy => h y (by simp [hy])) n, List.drop_append, e, List.nil_append, hx, show (n + 1) * k - k = n * k by rw [Nat.add_mul]; omega]

theorem Cells.mono {w : World} {b o : Nat} {cs : List Value} {m : Nat} {x : List Value} (h : Cells w b o cs) (hx : ∀ (j : Nat) (u : Value), x[j]? = some u → cs[m + j]? = some u) : Cells w b (o + m) x := fun j u hj => by
  have := h (m + j) u (hx j u hj)
  rwa [← Nat.add_assoc] at this

section
variable {C : Cx} {T : Tab} {B S : List Nat} {w0 w : World} {n : Nat} {fr : Fr} {σ : Sg} {η : Nat → Value} {φ : Nat → List Nat} {a : Act} {v vx vy : Value} {no : Prop}

theorem Mem.oneV (h : Mem C B S w0 σ η φ w) : OneV η (ids σ) := by
  intro i hi
  obtain ⟨p, hp, rfl⟩ := List.mem_map.1 hi
  have := h.own p hp
  cases ho : p.2 with
  | cells t ds => rw [ho] at this; obtain ⟨b, cs, h1, _⟩ := this; rw [h1]; rfl
  | slice E k ds =>
    rw [ho] at this
    obtain ⟨css, hs, _⟩ := this
    rcases hs.shape with ⟨he, _⟩ | ⟨g, c, he, _⟩ <;> rw [he] <;> rfl
  | abs R k l o => rw [ho] at this; exact o _ _ _ this

theorem sl_cells {E k : Nat} {css : List (List Value)} (h : Sl E k id w v css) {g l c : Nat} (hv : v = .slice (some ⟨g, 0, none⟩) l c) : Cells w g 0 css.flatten := by
  intro j u hj
  have := World.ownsRow.cells h (g := g) (by rw [hv]; rfl) j u (by rw [flatMap_id]; exact hj)
  simpa [Addr.add_lit] using this

theorem RD.force {d : Dat} {K : Dat → Prop} (h : force d K) : K d := by rwa [force_eq] at h

theorem allD_datas : ∀ {ds : List Dat} {xs : List Da}, allD ds = some xs → ds = datas xs
  | [], xs, h => by simp [allD] at h; subst h; rfl
  | .d x :: ds, xs, h => by
    simp only [allD] at h
    split at h
    · rename_i ys hy; simp at h; subst h; simp [datas, allD_datas hy]
    · cases h
  | .own _ :: ds, xs, h => by simp [allD] at h
  | .at_ _ _ :: ds, xs, h => by simp [allD] at h
  | .el _ _ _ _ :: ds, xs, h => by simp [allD] at h
  | .agg _ :: ds, xs, h => by simp [allD] at h
  | .tuple _ :: ds, xs, h => by simp [allD] at h
  | .iface _ _ :: ds, xs, h => by simp [allD] at h
  | .func _ _ _ :: ds, xs, h => by simp [allD] at h
theorem rd_mkAgg {ds : List Dat} {cs : List Value} (h : RepDs η (ids σ) (B ++ blocks φ σ) w ds cs) : RD B σ η φ w (mkAgg ds) (.agg cs.toArray) := by
  unfold mkAgg
  split
  · rename_i xs hxs
    rw [allD_datas hxs] at h
    exact ⟨cs, by simp only [RepD, RepC]; exact repDs_datas.1 h, rfl⟩
  · exact ⟨cs, by simpa only [RepD] using h, rfl⟩
theorem cellsOf_rep {η : Nat → Value} {I O : List Nat} {w : World} {d : Dat} {cs : List Value} (h : RepD η I O w d cs) : RepDs η I O w d.cellsOf cs := by
  have one : ∀ {d : Dat}, RepD η I O w d cs → RepDs η I O w [d] cs := fun h => by simp only [RepDs]; exact ⟨cs, [], by simp, h, rfl⟩
  unfold Dat.cellsOf
  split
  · exact repDs_datas.2 (by simpa only [RepD, RepC] using h)
  · simpa only [RepD] using h
  · exact one h

theorem sxLoad_ok (hC : C.Ok T) (hm : Mem C B S w0 σ η φ w) {t : TypeId} {x : Dat} (hx : RD B σ η φ w x vx) {K : Dat → Prop} (h : sxLoad T t x σ K no) : no ∨ ∃ d v, K d ∧ (Instr.loadAt t vx).run C.P w = .ok v w ∧ RD B σ η φ w d v := by
  unfold sxLoad at h
  rcases withTy_some h with h | ⟨e, he, h⟩
  · exact .inl h
  have ht := hC.ty he
  have key : ∀ {d : Dat} {cs : List Value} {b o : Nat}, d.fits e = true → RepD η (ids σ) (B ++ blocks φ σ) w d cs → Cells w b o cs → vx = .pointer (some ⟨b, o, none⟩) → ∃ v, (Instr.loadAt t vx).run C.P w = .ok v w ∧ RD B σ η φ w d v := by
    intro d cs b o hf hr hc hv
    obtain ⟨g1, g2⟩ := fitsD_spec hf
    have hl := repD_len d cs hr
    refine ⟨_, ?_, cs, hr, rfl⟩
    rw [hv, toVD_load, g1]
    simp only [Instr.loadAt, Instr.sureAddr, Sem.run_bind, Sem.run_pure, Result.andThen_ok]
    exact run_loadVar_ok ht hc (by omega) (fun hh => by rw [← g2]; exact sizeD_one (by rw [g1]; exact hh))
  split at h
  · rcases withB_true h with h | ⟨hf, h⟩
    · exact .inl h
    obtain ⟨cs, h1, h2⟩ := hx
    simp only [RepD, RepC] at h1
    obtain ⟨b, o, c, rfl, _, _, h4, h5⟩ := h1
    obtain ⟨v, g1, g2⟩ := key (d := .d _) (cs := c) hf (by simpa only [RepD] using h4) h5 h2
    exact .inr ⟨_, v, h, g1, g2⟩
  · rcases withO_some h with h | ⟨ow, hg, h⟩
    · exact .inl h
    split at h
    · obtain ⟨b, cs, e1, _, hb, hr⟩ := own_cells_val hm hg
      obtain ⟨cs', h1, h2⟩ := hx
      simp only [RepD] at h1
      obtain ⟨_, rfl⟩ := h1
      split at h
      · rename_i hcond
        simp only [Bool.and_eq_true] at hcond
        rcases withB_true h with h | ⟨hsz, h⟩
        · exact .inl h
        have hsz := Nat.eq_of_beq_eq_true hsz
        have hl := repDs_len _ _ hr
        refine .inr ⟨_, _, RD.force h, ?_, rd_mkAgg hr⟩
        rw [show vx = .pointer (some ⟨b, 0, none⟩) from h2.trans (by rw [e1]; rfl)]
        simp only [Instr.loadAt, Instr.sureAddr, Sem.run_bind, Sem.run_pure, Result.andThen_ok]
        have := run_loadVar_ok ht (w := w) (b := b) (o := 0) (cs := cs) (fun j u hj => by have := hb.cell hj; simpa using this) (by omega) (fun hh => by rw [hcond.2] at hh; cases hh)
        rw [this, hcond.2]; rfl
      rcases withO_some h with h | ⟨d, hd, h⟩
      · exact .inl h
      obtain ⟨g1, c, g2, g3⟩ := lookAt_ok _ _ _ hd hr
      obtain ⟨v, g4, g5⟩ := key g1 g2 (Cells.mono (o := 0) (cs := cs) (fun j u hj => by have := hb.cell hj; simpa using this) g3) (h2.trans (by rw [e1]; rfl))
      exact .inr ⟨_, v, RD.force h, g4, g5⟩
    · exact .inl h
  · rcases withO_some h with h | ⟨ow, hg, h⟩
    · exact .inl h
    split at h
    · rcases withO_some h with h | ⟨d, hd, h⟩
      · exact .inl h
      obtain ⟨b, cs, e1, _, hb, hr⟩ := own_cells_val hm hg
      obtain ⟨cs', h1, h2⟩ := hx
      simp only [RepD] at h1
      obtain ⟨_, b', e2, rfl⟩ := h1
      rw [e1] at e2
      cases e2
      obtain ⟨g1, c, g2, g3⟩ := lookAt_ok _ _ _ hd hr
      obtain ⟨v, g4, g5⟩ := key g1 g2 (Cells.mono (o := 0) (cs := cs) (fun j u hj => by have := hb.cell hj; simpa using this) g3) (h2.trans (by simp [toVD]))
      exact .inr ⟨_, v, RD.force h, g4, g5⟩
    · exact .inl h
  · rcases withO_some h with h | ⟨ow, hg, h⟩
    · exact .inl h
    split at h
    · rename_i i k0 m off _ _ _ E k ds
      rcases withB_true h with h | ⟨hk0, d0, hd0, h⟩
      · exact .inl h
      have hk0 := Nat.eq_of_beq_eq_true hk0
      rcases withO_some h with h | ⟨d, hd, h⟩
      · exact .inl h
      obtain ⟨css, hs, _, hr, hk⟩ := own_slice_val hm hg
      obtain ⟨cs', h1, h2⟩ := hx
      simp only [RepD] at h1
      obtain ⟨_, b', l, c', e2, rfl⟩ := h1
      obtain ⟨c0, hc0, hr0⟩ := repCss_at hr hd0
      obtain ⟨g1, c, g2, g3⟩ := lookAt_ok _ _ _ hd (cs := c0) (by simp only [RepDs, RepD]; exact ⟨c0, [], by simp, hr0, rfl⟩)
      obtain ⟨v, g4, g5⟩ := key g1 g2 (b := b') (o := 0 + (m * k + off)) (Cells.mono (o := 0) (sl_cells hs e2) (fun j u hj => by
        rw [Nat.add_assoc]; exact flat_get (fun x hx => (hk x hx).1) hc0 (g3 j u hj))) (h2.trans (by simp [toVD, hk0]))
      exact .inr ⟨_, v, RD.force h, g4, g5⟩
    · exact .inl h
  · exact .inl h

/-! ### stores -/
theorem flat_splice {k off : Nat} {x : List Value} : ∀ {css : List (List Value)}, (∀ y ∈ css, y.length = k) → ∀ {n : Nat} {c : List Value}, css[n]? = some c → off + x.length ≤ k → splice css.flatten (n * k + off) x = (css.set n (splice c off x)).flatten
  | [], h, n, c, hn, hl => by simp at hn
  | y :: css, h, n, c, hn, hl => by
    have hy := h y (by simp)
    cases n with
    | zero =>
      simp at hn; subst hn
      simp only [List.flatten_cons, List.set_cons_zero, Nat.zero_mul, Nat.zero_add]
      exact splice_left (by omega)
    | succ n =>
      simp only [List.flatten_cons, List.set_cons_succ]
      rw [splice_right (by rw [hy, Nat.add_mul]; omega), hy, show (n + 1) * k + off - k = n * k + off by rw [Nat.add_mul]; omega]
      rw [flat_splice (fun z hz => h z (List.mem_cons_of_mem _ hz)) (by simpa using hn) hl]
theorem splice_len {cs x : List Value} {o : Nat} (h : o + x.length ≤ cs.length) : (splice cs o x).length = cs.length := by
  unfold splice; simp; omega
theorem splice_take {cs x : List Value} {o m : Nat} (h : o + x.length ≤ m) (hm : m ≤ cs.length) : (splice cs o x).take m = splice (cs.take m) o x := by
  have hl : (cs.take m).length = m := by simp; omega
  have e := splice_left (c1 := cs.take m) (c2 := cs.drop m) (x := x) (o := o) (by omega)
  rw [List.take_append_drop] at e
  rw [e]
  have := splice_len (cs := cs.take m) (x := x) (o := o) (by omega)
  rw [List.take_append_of_le_length (by omega), List.take_of_length_le (by omega)]
theorem splice_one {cs x : List Value} {o : Nat} (h1 : ∀ v ∈ cs, v.oneCell' = true) (h2 : ∀ v ∈ x, v.oneCell' = true) : ∀ v ∈ splice cs o x, v.oneCell' = true := by
  intro v hv
  unfold splice at hv
  rcases List.mem_append.1 hv with hv | hv
  · rcases List.mem_append.1 hv with hv | hv
    · exact h1 v (List.mem_of_mem_take hv)
    · exact h2 v hv
  · exact h1 v (List.mem_of_mem_drop hv)

theorem Sl.spliceAt {P : Program} {E k : Nat} {css : List (List Value)} (hk : ∀ x ∈ css, RowOk k x) (h : Sl E k id w v css) {g l c : Nat} (hv : v = .slice (some ⟨g, 0, none⟩) l c) {m off : Nat} {c0 x : List Value} (hm : css[m]? = some c0) (hl : off + x.length ≤ k) (h1 : ∀ u ∈ x, u.oneCell' = true) :
    ∃ w', (storeCells ⟨g, m * k + off, none⟩ x).run P w = .ok () w' ∧ Sl E k id w' v (css.set m (splice c0 off x)) ∧ Tch [g] w w' := by
  have hk' : ∀ y ∈ css, y.length = k := fun y hy => (hk y hy).1
  have hfl : css.flatten.length = css.length * k := flat_len hk'
  have hml : m < css.length := (List.getElem?_eq_some_iff.1 hm).1
  have hmk : m * k + k ≤ css.length * k := by rw [← Nat.succ_mul]; exact Nat.mul_le_mul_right k hml
  rcases h.2 with ⟨hn, _⟩ | ⟨g', cap, cur, he, _, hg, hc, hcm, hcs, ht⟩
  · rw [hn] at hv; cases hv
  · rw [he] at hv; cases hv
    rw [flatMap_id] at ht
    have hle : css.length * k ≤ cur.size := by rw [hcs]; exact Nat.mul_le_mul_right k hc
    have hr := run_storeCells_at P g (m * k + off) E x 0 cur w hg (by omega) h1
    refine ⟨_, hr, ⟨?_, .inr ⟨g, c, (splice cur.toList (m * k + off) x).toArray, ?_, Nat.zero_le _, ?_, by simpa using hc, hcm, ?_, ?_⟩⟩, ?_⟩
    · rw [flatMap_id, ← flat_splice hk' hm hl, splice_len (by omega), hfl]; simp
    · rw [he]; simp
    · have e := setRow_heap w g cur (cur.toList.take (m * k + off + 0) ++ x ++ cur.toList.drop (m * k + off + 0 + x.length)).toArray E (0, 0) hg
      rw [e]; simp [splice]
    · simp only [List.size_toArray, splice_len (cs := cur.toList) (x := x) (o := m * k + off) (by simp; omega)]; simpa using hcs
    · rw [flatMap_id, ← flat_splice hk' hm hl, List.length_set, ← ht]
      exact splice_take (by omega) (by simpa using hle)
    · exact ⟨rfl, rfl, rfl, by simp [World.setRow], fun j hj hn => by
        have : g ≠ j := fun e => hn (by simp [e])
        simp [World.setRow, Array.getElem?_modify, this]⟩

theorem upd_self {α : Type} (f : Nat → α) (i : Nat) : upd f i (f i) = f := by funext j; by_cases h : j = i <;> simp [upd, h]

/-- what a step in place leaves -/
def Turned (C : Cx) (B S : List Nat) (w0 : World) (σ σ' : Sg) (η : Nat → Value) (φ : Nat → List Nat) (w w' : World) : Prop :=
  Mem C B S w0 σ' η φ w' ∧ Later (B ++ blocks φ σ) w (B ++ blocks φ σ') w' ∧ ids σ' = ids σ

theorem Turned.frame {σ' : Sg} {w' : World} (h : Turned C B S w0 σ σ' η φ w w') {fr : Fr} {a : Act} (hf : FrRep η (ids σ) (B ++ blocks φ σ) w fr a) : FrRep η (ids σ') (B ++ blocks φ σ') w' fr a :=
  hf.later h.2.1 (fun i hi => ⟨by rw [h.2.2]; exact hi, rfl⟩)

theorem turned_cells (hm : Mem C B S w0 σ η φ w) {i : Nat} {t : TypeId} {ds ds' : List Dat} (hg : sget i σ = some (.cells t ds)) {b : Nat} {cs' : List Value} {w' : World} (he : η i = .pointer (some ⟨b, 0, none⟩)) (hf : φ i = [b]) (hr : RepDs η (ids σ) (B ++ blocks φ σ) w ds' cs') (hb : Blk w' b t cs') (ht : Tch [b] w w') :
    Turned C B S w0 σ (sturn id i (.cells t ds') σ) η φ w w' := by
  have hi := mem_ids (sget_mem hg)
  have hX : ∀ x ∈ [b], x ∈ φ i := fun x hx => by rw [hf]; exact hx
  have hF : ∀ x ∈ φ i, x ∈ φ i ∨ w.heap.size ≤ x := fun x hx => .inl hx
  have hl := Later.turn (σ := σ) B ht hX hi hF id (.cells t ds')
  have hM := hm.turnSame (o := .cells t ds') ht hX hi hF (by
    exact ⟨b, cs', he, hf, hb, RepDs.later hl (fun j hj => ⟨hj, rfl⟩) _ _ hr⟩)
  rw [upd_self] at hM hl
  exact ⟨hM, hl, ids_sturn _ _ _ _⟩

theorem sxStore_ok (hC : C.Ok T) (hm : Mem C B S w0 σ η φ w) {t : TypeId} {x d : Dat} (hx : RD B σ η φ w x vx) (hd : RD B σ η φ w d vy) {K : Sg → Prop} (h : sxStore T t x d σ K no) :
    no ∨ ∃ σ' w', K σ' ∧ (Instr.storeAt t vx vy).run C.P w = .ok () w' ∧ Turned C B S w0 σ σ' η φ w w' := by
  unfold sxStore at h
  rcases withTy_some h with h | ⟨e, he, h⟩
  · exact .inl h
  have ht := hC.ty he
  rcases withB_true h with h | ⟨hb, h⟩
  · exact .inl h
  simp only [Bool.and_eq_true] at hb
  obtain ⟨hf, hst⟩ := hb
  obtain ⟨f1, f2⟩ := fitsD_spec hf
  obtain ⟨cx, hcx, rfl⟩ := hd
  have hcl := (toVD_cells hm.oneV hcx hst).1
  have hone := repD_one hm.oneV d cx hst hcx
  have hlx := repD_len d cx hcx
  have store : ∀ {b o : Nat} {w' : World}, vx = .pointer (some ⟨b, o, none⟩) → (storeCells ⟨b, o, none⟩ cx).run C.P w = .ok () w' → (Instr.storeAt t vx (toVD d cx)).run C.P w = .ok () w' := by
    intro b o w' hv hr
    have hsz : (toVD d cx).cells.size = e.size := by rw [← Array.length_toList, hcl]; omega
    rw [hv]
    simp only [Instr.storeAt, Instr.sureAddr, Sem.run_bind, Sem.run_pure, Result.andThen_ok, storeVar, ht.sizeOf, hcl, hsz]
    simp [hr]
  split at h
  · rcases withO_some h with h | ⟨ow, hg, h⟩
    · exact .inl h
    split at h
    · obtain ⟨b, cs, e1, e2, hb, hr⟩ := own_cells_val hm hg
      obtain ⟨cs', h1, h2⟩ := hx
      simp only [RepD] at h1
      obtain ⟨_, rfl⟩ := h1
      split at h
      · rename_i hcond
        simp only [Bool.and_eq_true] at hcond
        rcases withB_true h with h | ⟨hsz, h⟩
        · exact .inl h
        have hsz := Nat.eq_of_beq_eq_true hsz
        have hl := repDs_len _ _ hr
        have hll : cx.length = cs.length := by omega
        obtain ⟨w', r1, r2, r3⟩ := Blk.splice (P := C.P) hb (o := 0) (x := cx) (by omega) hone
        have e4 : splice cs 0 cx = cx := by simp [splice, hll]
        rw [e4] at r2
        exact .inr ⟨_, w', h, store (h2.trans (by rw [e1]; rfl)) r1, turned_cells hm hg e1 e2 (cellsOf_rep hcx) r2 r3⟩
      rcases withO_some h with h | ⟨ds', hp, h⟩
      · exact .inl h
      obtain ⟨g1, g2⟩ := putAt_ok hcx _ _ _ hp hr
      obtain ⟨w', r1, r2, r3⟩ := Blk.splice (P := C.P) hb g2 hone
      exact .inr ⟨_, w', h, store (h2.trans (by rw [e1]; rfl)) r1, turned_cells hm hg e1 e2 g1 r2 r3⟩
    · exact .inl h
  · rcases withO_some h with h | ⟨ow, hg, h⟩
    · exact .inl h
    split at h
    · rcases withO_some h with h | ⟨ds', hp, h⟩
      · exact .inl h
      obtain ⟨b, cs, e1, e2, hb, hr⟩ := own_cells_val hm hg
      obtain ⟨cs', h1, h2⟩ := hx
      simp only [RepD] at h1
      obtain ⟨_, b', e3, rfl⟩ := h1
      rw [e1] at e3
      cases e3
      obtain ⟨g1, g2⟩ := putAt_ok hcx _ _ _ hp hr
      obtain ⟨w', r1, r2, r3⟩ := Blk.splice (P := C.P) hb g2 hone
      exact .inr ⟨_, w', h, store h2 r1, turned_cells hm hg e1 e2 g1 r2 r3⟩
    · exact .inl h
  · rcases withO_some h with h | ⟨ow, hg, h⟩
    · exact .inl h
    split at h
    · rename_i i k0 m off _ _ _ _ E k ds
      rcases withB_true h with h | ⟨hk0, d0, hd0, h⟩
      · exact .inl h
      have hk0 := Nat.eq_of_beq_eq_true hk0
      subst hk0
      rcases withO_some h with h | ⟨ds', hp, h⟩
      · exact .inl h
      rcases withO_some h with h | ⟨xs, hp2, h⟩
      · exact .inl h
      split at h
      · rename_i y
        obtain ⟨css, hs, e2, hr, hk⟩ := own_slice_val hm hg
        obtain ⟨cs', h1, h2⟩ := hx
        simp only [RepD] at h1
        obtain ⟨_, b', l, c', e3, rfl⟩ := h1
        obtain ⟨c0, hc0, hr0⟩ := repCss_at hr hd0
        have hc0k := hk c0 (List.mem_of_getElem? hc0)
        obtain ⟨g1, g2⟩ := putAt_ok hcx _ _ _ hp (cs := c0) (by simp only [RepDs, RepD]; exact ⟨c0, [], by simp, hr0, rfl⟩)
        rw [allD_datas hp2] at g1
        have g3 : RepC (B ++ blocks φ σ) w y (splice c0 off cx) := by
          have := repDs_datas.1 g1
          simp only [RepCs] at this
          obtain ⟨a1, a2, e4, r1, rfl⟩ := this
          rw [e4]; simpa using r1
        obtain ⟨w', r1, r2, r3⟩ := Sl.spliceAt (P := C.P) hk hs e3 hc0 (x := cx) (off := off) (by rw [hc0k.1] at g2; exact g2) hone
        have hi := mem_ids (sget_mem hg)
        have hX : ∀ x ∈ [b'], x ∈ φ i := fun x hx => by rw [e2, e3]; simpa [Value.ownBlock] using hx
        have hF : ∀ x ∈ φ i, x ∈ φ i ∨ w.heap.size ≤ x := fun x hx => .inl hx
        have hl := Later.turn (σ := σ) B r3 hX hi hF id (.slice E k0 (ds.set m y))
        have hM := hm.turnSame (o := .slice E k0 (ds.set m y)) r3 hX hi hF (by
          refine ⟨_, r2, e2, RepCss.later hl _ _ (repCss_set hr m g3), fun x hx => ?_⟩
          rcases List.mem_or_eq_of_mem_set hx with hx | rfl
          · exact hk x hx
          · exact ⟨by rw [splice_len g2]; exact hc0k.1, splice_one hc0k.2 hone⟩)
        rw [upd_self] at hM hl
        exact .inr ⟨_, w', h, store (h2.trans (by simp [toVD])) r1, hM, hl, ids_sturn _ _ _ _⟩
      · exact .inl h
    · exact .inl h
  · exact .inl h

end

end Go.Sx
