/- The walk is sound: new things, parts. -/
import Derived.Test.YtlpjdngjmknniaaDoorSxi
import Derived.Laws.StructEq
namespace Go.Sx
open Go Go.RowKit Go.Reg

theorem sget_none : ∀ {σ : Sg} {i : Nat}, sget i σ = none → i ∉ ids σ
  | [], i, _ => by simp [ids]
  | (j, o) :: σ, i, h => by
    rcases beq_cases j i with ⟨hb, _⟩ | ⟨hb, e⟩
    · simp [sget, hb] at h
    · simp only [sget, hb] at h
      have := sget_none h
      intro hm
      rcases List.mem_cons.1 hm with e2 | hm
      · exact e e2.symm
      · exact this hm
theorem fresh_ok {i : Nat} {σ : Sg} {K : Nat → Prop} {no : Prop} (h : fresh i σ K no) : no ∨ ∃ j, j ∉ ids σ ∧ K j := by
  unfold fresh at h
  split at h
  · rename_i hg; exact .inr ⟨_, sget_none hg, h⟩
  · split at h
    · rename_i hg; exact .inr ⟨_, sget_none hg, h⟩
    · split at h
      · rename_i hg; exact .inr ⟨_, sget_none hg, h⟩
      · exact .inl h

section
variable {C : Cx} {T : Tab} {B S : List Nat} {w0 w : World} {n : Nat} {fr : Fr} {σ : Sg} {η : Nat → Value} {φ : Nat → List Nat} {a : Act} {v vx vy : Value} {no : Prop}

/-- a new thing in a frame -/
theorem Models.add (h : Models C B S w0 n fr σ η φ a w) {w' : World} (t : Tch [] w w') {i : Nat} (hi : i ∉ ids σ) {o : Own} {v : Value} {F : List Nat} (hF : ∀ b ∈ F, w.heap.size ≤ b)
    (ho : ∀ O', Later (B ++ blocks φ σ) w O' w' → o.holds (upd η i v) (i :: ids σ) O' w' v F) {dst : Option Nat} (hd : dstOk dst n = true) : Models C B S w0 n (putF dst (.own i) fr) ((i, o) :: σ) (upd η i v) (upd φ i F) (a.put dst v) w' := by
  have hl : Later (B ++ blocks φ σ) w (B ++ (F ++ blocks φ σ)) w' := by
    refine ⟨t.size, fun b h _ => t.blk b h (by simp), fun b hn hs hm => ?_⟩
    rcases List.mem_append.1 hm with hm | hm
    · exact hn (List.mem_append_left _ hm)
    · rcases List.mem_append.1 hm with hm | hm
      · have := hF b hm; omega
      · exact hn (List.mem_append_right _ hm)
  obtain ⟨m1, m2⟩ := h.mem.add t hi hF (ho _ hl)
  have M : Models C B S w0 n fr ((i, o) :: σ) (upd η i v) (upd φ i F) a w' := ⟨m1, FrRep.add (w' := w') h.fr hi m2, h.defers, h.size⟩
  exact M.put hd ⟨[v], by simp only [RepD]; exact ⟨by simp [ids], by rw [upd_eq]⟩, rfl⟩

theorem sins_mem (i : Nat) (o : Own) : ∀ (σ : Sg) (p : Nat × Own), p ∈ sins i o σ ↔ p ∈ (i, o) :: σ
  | [], p => by simp [sins]
  | (j, q) :: σ, p => by
    simp only [sins]
    split
    · exact Iff.rfl
    · simp only [List.mem_cons, sins_mem i o σ p]
      constructor
      · rintro (h | h | h)
        · exact .inr (.inl h)
        · exact .inl h
        · exact .inr (.inr h)
      · rintro (h | h | h)
        · exact .inr (.inl h)
        · exact .inl h
        · exact .inr (.inr h)
theorem sins_perm (i : Nat) (o : Own) : ∀ (σ : Sg), (sins i o σ).Perm ((i, o) :: σ)
  | [] => List.Perm.refl _
  | (j, q) :: σ => by
    simp only [sins]
    split
    · exact List.Perm.refl _
    · exact ((sins_perm i o σ).cons _).trans (List.Perm.swap _ _ _)

theorem Models.perm (h : Models C B S w0 n fr σ η φ a w) {σ' : Sg} (hp : σ'.Perm σ) : Models C B S w0 n fr σ' η φ a w := by
  have hids : ∀ i, i ∈ ids σ' ↔ i ∈ ids σ := fun i => (hp.map (·.1)).mem_iff
  have hbl : ∀ b, b ∈ B ++ blocks φ σ' ↔ b ∈ B ++ blocks φ σ := fun b => by
    simp only [List.mem_append]
    refine or_congr Iff.rfl ?_
    simp only [blocks, List.mem_flatMap]
    constructor
    · rintro ⟨p, h1, h2⟩; exact ⟨p, hp.mem_iff.1 h1, h2⟩
    · rintro ⟨p, h1, h2⟩; exact ⟨p, hp.mem_iff.2 h1, h2⟩
  have hl : Later (B ++ blocks φ σ) w (B ++ blocks φ σ') w := ⟨Nat.le_refl _, fun _ _ _ => rfl, fun b hn _ hm => hn ((hbl b).1 hm)⟩
  have hI : ∀ i ∈ ids σ, i ∈ ids σ' ∧ η i = η i := fun i hi => ⟨(hids i).2 hi, rfl⟩
  refine ⟨⟨h.mem.tch, fun p hpm => (h.mem.own p (hp.mem_iff.1 hpm)).later hl hI (Tch.refl [] w) (fun _ _ => by simp), (hp.map (fun p : Nat × Own => p.1)).nodup_iff.2 h.mem.nodup, fun i hi j hj => h.mem.disj i ((hids i).1 hi) j ((hids j).1 hj), fun i hi => h.mem.new i ((hids i).1 hi), h.mem.out, fun g hg => (h.mem.glob g hg).later hl⟩, h.fr.later hl hI, h.defers, h.size⟩

theorem Models.newCells (h : Models C B S w0 n fr σ η φ a w) {t : TypeId} {ds : List Dat} {cs : List Value} (hr : RepDs η (ids σ) (B ++ blocks φ σ) w ds cs) {i : Nat} (hi : i ∉ ids σ) {dst : Option Nat} (hd : dstOk dst n = true) :
    ∃ η' φ', Models C B S w0 n (putF dst (.own i) fr) (sins i (.cells t ds) σ) η' φ' (a.put dst (.pointer (some ⟨w.heap.size, 0, none⟩))) (w.alloc (.cells cs.toArray t)) :=
  ⟨_, _, (h.add (Tch.alloc w _ []) hi (o := .cells t ds) (v := .pointer (some ⟨w.heap.size, 0, none⟩)) (F := [w.heap.size]) (by simp) (fun O' hl => ⟨w.heap.size, cs, rfl, rfl, Blk.new w t cs, RepDs.later hl (fun j hj => ⟨List.mem_cons_of_mem _ hj, upd_ne _ _ _ (fun (e : j = i) => hi (e ▸ hj))⟩) _ _ hr⟩) hd).perm (sins_perm _ _ _)⟩

/-! ### places in structs -/
theorem splice_prefix {η : Nat → Value} {I O : List Nat} {w : World} {x : Dat} {cx : List Value} (hx : RepD η I O w x cx) : ∀ {ds : List Dat} {cs : List Value} {i : Nat} {d : Dat}, RepDs η I O w ds cs → fieldOf i ds = some d → d.size = x.size → RepDs η I O w (setField i x ds) (splice cs (prefixD i ds) cx) ∧ prefixD i ds + cx.length ≤ cs.length
  | [], cs, i, d, h, hf, hs => by simp [fieldOf] at hf
  | y :: ds, cs, i, d, h, hf, hs => by
    simp only [RepDs] at h
    obtain ⟨c1, c2, rfl, h1, h2⟩ := h
    have hl := repD_len y c1 h1
    have hlx := repD_len x cx hx
    cases i with
    | zero =>
      simp only [fieldOf, Option.some.injEq] at hf
      subst hf
      have : splice (c1 ++ c2) 0 cx = cx ++ c2 := by
        unfold splice
        rw [List.drop_append, List.drop_of_length_le (by omega)]
        simp
        rw [show cx.length - c1.length = 0 by omega]; rfl
      simp only [setField, prefixD, this]
      exact ⟨by simp only [RepDs]; exact ⟨cx, c2, rfl, hx, h2⟩, by simp; omega⟩
    | succ i =>
      simp only [fieldOf] at hf
      obtain ⟨g1, g2⟩ := splice_prefix hx h2 hf hs
      simp only [setField, prefixD]
      rw [splice_right (by omega), hl, show y.size + prefixD i ds - y.size = prefixD i ds by omega]
      exact ⟨by simp only [RepDs]; exact ⟨c1, _, rfl, h1, g1⟩, by simp; omega⟩
theorem setField_same {x : Dat} : ∀ {ds : List Dat} {i : Nat} {d : Dat}, fieldOf i ds = some d → d.size = x.size → d.isAgg = x.isAgg → (∀ j e, fieldOf j (setField i x ds) = some e → ∃ e0, fieldOf j ds = some e0 ∧ e0.size = e.size ∧ e0.isAgg = e.isAgg) ∧ (∀ j, prefixD j (setField i x ds) = prefixD j ds) ∧ (∀ j e0, fieldOf j ds = some e0 → ∃ e, fieldOf j (setField i x ds) = some e ∧ e.size = e0.size ∧ e.isAgg = e0.isAgg)
  | [], i, d, hf, hs, ha => by simp [fieldOf] at hf
  | y :: ds, i, d, hf, hs, ha => by
    cases i with
    | zero =>
      simp only [fieldOf, Option.some.injEq] at hf
      subst hf
      refine ⟨fun j e he => ?_, fun j => ?_, fun j e he => ?_⟩
      · cases j with
        | zero => simp only [setField, fieldOf, Option.some.injEq] at he; subst he; exact ⟨y, rfl, hs, ha⟩
        | succ j => exact ⟨e, he, rfl, rfl⟩
      · cases j with
        | zero => rfl
        | succ j => simp only [setField, prefixD, hs]
      · cases j with
        | zero => simp only [fieldOf, Option.some.injEq] at he; subst he; exact ⟨x, rfl, hs.symm, ha.symm⟩
        | succ j => exact ⟨e, he, rfl, rfl⟩
    | succ i =>
      simp only [fieldOf] at hf
      obtain ⟨g1, g2, g3⟩ := setField_same hf hs ha
      refine ⟨fun j e he => ?_, fun j => ?_, fun j e he => ?_⟩
      · cases j with
        | zero => exact ⟨e, he, rfl, rfl⟩
        | succ j => exact g1 j e he
      · cases j with
        | zero => rfl
        | succ j => simp only [setField, prefixD, g2 j]
      · cases j with
        | zero => exact ⟨e, he, rfl, rfl⟩
        | succ j => exact g3 j e he
theorem fieldOf_rep {η : Nat → Value} {I O : List Nat} {w : World} : ∀ {ds : List Dat} {cs : List Value} {i : Nat} {d : Dat}, RepDs η I O w ds cs → fieldOf i ds = some d → ∃ c, RepD η I O w d c ∧ ∀ (j : Nat) (u : Value), c[j]? = some u → cs[prefixD i ds + j]? = some u
  | [], cs, i, d, h, hf => by simp [fieldOf] at hf
  | y :: ds, cs, i, d, h, hf => by
    simp only [RepDs] at h
    obtain ⟨c1, c2, rfl, h1, h2⟩ := h
    have hl := repD_len y c1 h1
    cases i with
    | zero =>
      simp only [fieldOf, Option.some.injEq] at hf
      subst hf
      exact ⟨c1, h1, fun j u hj => by simp only [prefixD, Nat.zero_add]; rw [List.getElem?_append_left (List.getElem?_eq_some_iff.1 hj).1]; exact hj⟩
    | succ i =>
      simp only [fieldOf] at hf
      obtain ⟨c, g1, g2⟩ := fieldOf_rep h2 hf
      exact ⟨c, g1, fun j u hj => by simp only [prefixD]; rw [List.getElem?_append_right (by omega), hl, show y.size + prefixD i ds + j - y.size = prefixD i ds + j by omega]; exact g2 j u hj⟩
theorem dfieldOf_rep {O : List Nat} {w : World} : ∀ {ds : List Da} {cs : List Value} {i : Nat} {d : Da}, RepCs O w ds cs → dfieldOf i ds = some d → ∃ c, RepC O w d c ∧ ∀ (j : Nat) (u : Value), c[j]? = some u → cs[dprefix i ds + j]? = some u
  | [], cs, i, d, h, hf => by simp [dfieldOf] at hf
  | y :: ds, cs, i, d, h, hf => by
    simp only [RepCs] at h
    obtain ⟨c1, c2, rfl, h1, h2⟩ := h
    have hl := repC_len y c1 h1
    cases i with
    | zero =>
      simp only [dfieldOf, Option.some.injEq] at hf
      subst hf
      exact ⟨c1, h1, fun j u hj => by simp only [dprefix, Nat.zero_add]; rw [List.getElem?_append_left (List.getElem?_eq_some_iff.1 hj).1]; exact hj⟩
    | succ i =>
      simp only [dfieldOf] at hf
      obtain ⟨c, g1, g2⟩ := dfieldOf_rep h2 hf
      exact ⟨c, g1, fun j u hj => by simp only [dprefix]; rw [List.getElem?_append_right (by omega), hl, show y.size + dprefix i ds + j - y.size = dprefix i ds + j by omega]; exact g2 j u hj⟩

theorem run_fieldAt_ok {P : Program} {t : TypeId} {e : TyI} (h : TyOk P t e) {m : Nat} {os : Nat × TypeId} (hf : e.flds[m]? = some os) (ha : e.agg = true) (b o : Nat) : (Instr.fieldAt t (.pointer (some ⟨b, o, none⟩)) m).run P w = .ok (.pointer (some ⟨b, o + os.1, none⟩)) w := by
  obtain ⟨d, h1, _, _, h4, _, h5, _⟩ := h.desc
  obtain ⟨fs, rfl⟩ := h5 ha
  obtain ⟨g1, g2⟩ := h4 fs rfl
  have hm : (fs.toList.map (fun f => (f.offset, f.type)))[m]? = some os := by rw [g1]; exact hf
  simp only [List.getElem?_map, Option.map_eq_some_iff] at hm
  obtain ⟨f, hf1, hf2⟩ := hm
  obtain ⟨i, hi, hpos⟩ := g2 f (List.mem_of_getElem? hf1)
  have hf3 : fs[m]? = some f := by simpa using hf1
  subst hf2
  simp only [Instr.fieldAt, Sem.run_bind, run_underlying h1, Result.andThen_ok, hf3, Instr.sureAddr, Sem.run_pure]
  have : (fieldPlace ⟨b, o, none⟩ f).run P w = .ok ⟨b, o + f.offset, none⟩ w := by
    unfold fieldPlace
    have hs : (Go.sizeOf f.type).run P w = .ok i.size w := by simp [Go.sizeOf, typeInfo, program, Sem.run, hi]
    simp only [Sem.run_bind, hs, Result.andThen_ok]
    rw [if_neg (by omega)]
    simp [Addr.add_lit]
  rw [this]; rfl

theorem sxFieldAddr_ok (hC : C.Ok T) (hm : Mem C B S w0 σ η φ w) {t : TypeId} {x : Dat} {m : Nat} (hx : RD B σ η φ w x vx) {K : Dat → Prop} (h : sxFieldAddr T t x m σ K no) : no ∨ ∃ d v, K d ∧ (Instr.fieldAt t vx m).run C.P w = .ok v w ∧ RD B σ η φ w d v := by
  unfold sxFieldAddr at h
  rcases withTy_some h with h | ⟨e, he, h⟩
  · exact .inl h
  have ht := hC.ty he
  rcases withO_some h with h | ⟨os, hos, h⟩
  · exact .inl h
  rcases withB_true h with h | ⟨ha, h⟩
  · exact .inl h
  have run := fun b o => run_fieldAt_ok (w := w) ht hos ha b o
  split at h
  · rcases withB_true h with h | ⟨hp, h⟩
    · exact .inl h
    rcases withO_some h with h | ⟨d, hd, h⟩
    · exact .inl h
    have hp := Nat.eq_of_beq_eq_true hp
    obtain ⟨cs, h1, h2⟩ := hx
    simp only [RepD, RepC] at h1
    obtain ⟨b, o, c, rfl, h3, h4, h5, h6⟩ := h1
    obtain ⟨c', g1, g2⟩ := dfieldOf_rep h5 hd
    refine .inr ⟨_, _, h, by rw [h2]; exact run b o, [_], ?_, rfl⟩
    simp only [RepD, RepC]
    exact ⟨b, o + os.1, c', rfl, h3, h4, g1, Cells.mono h6 (fun j u hj => by rw [← hp]; exact g2 j u hj)⟩
  · rcases withO_some h with h | ⟨ow, hg, h⟩
    · exact .inl h
    split at h
    · obtain ⟨b, cs, e1, _⟩ := own_cells_val hm hg
      obtain ⟨cs', h1, h2⟩ := hx
      simp only [RepD] at h1
      obtain ⟨hi, rfl⟩ := h1
      have h2 : vx = .pointer (some ⟨b, 0, none⟩) := h2.trans (by rw [e1]; rfl)
      refine .inr ⟨_, _, h, by rw [h2]; exact run b 0, [_], ?_, rfl⟩
      simp only [RepD]
      exact ⟨hi, b, e1, by simp⟩
    · exact .inl h
  · obtain ⟨cs', h1, h2⟩ := hx
    simp only [RepD] at h1
    obtain ⟨hi, b, e1, rfl⟩ := h1
    refine .inr ⟨_, _, h, by rw [h2]; exact run b _, [_], ?_, rfl⟩
    simp only [RepD]
    exact ⟨hi, b, e1, rfl⟩
  · obtain ⟨cs', h1, h2⟩ := hx
    simp only [RepD] at h1
    obtain ⟨hi, b, l, c, e1, rfl⟩ := h1
    refine .inr ⟨_, _, h, by rw [h2]; exact run b _, [_], ?_, rfl⟩
    simp only [RepD]
    exact ⟨hi, b, l, c, e1, by rw [Nat.add_assoc]⟩
  · exact .inl h

theorem run_indexAt_ok {P : Program} {t : TypeId} {e ee : TyI} (h : TyOk P t e) (hk : e.kd = 2) (h2 : TyOk P e.elem ee) {b o len cap : Nat} {k : IntKind} {j : Nat} (hj : j < len) : (Instr.indexAt t (.slice (some ⟨b, o, none⟩) len cap) (.int k j)).run P w = .ok (.pointer (some ⟨b, o + j * ee.size, none⟩)) w := by
  obtain ⟨d, h1, _, h3, _, _, _, _, h8⟩ := h.desc
  rw [hk] at h8
  cases d <;> simp at h8
  have he := h3 _ rfl
  subst he
  have hlt : (j : Int) < (len : Int) := by omega
  simp only [Instr.indexAt, asIntOf, Sem.run_bind, Sem.run_pure, Result.andThen_ok, run_underlying h1]
  simp [hlt, h2.sizeOf, Addr.add_lit]

theorem sxIndexAddr_ok (hC : C.Ok T) (hm : Mem C B S w0 σ η φ w) {t : TypeId} {x ix : Dat} (hx : RD B σ η φ w x vx) (hi : RD B σ η φ w ix vy) {K : Dat → Prop} (h : sxIndexAddr T t x ix σ K no) : no ∨ ∃ d v, K d ∧ (Instr.indexAt t vx vy).run C.P w = .ok v w ∧ RD B σ η φ w d v := by
  unfold sxIndexAddr at h
  rcases withTy_some h with h | ⟨e, he, h⟩
  · exact .inl h
  rcases withTy_some h with h | ⟨ee, hee, h⟩
  · exact .inl h
  rcases withB_true h with h | ⟨hk2, h⟩
  · exact .inl h
  have hk2 := Nat.eq_of_beq_eq_true hk2
  split at h
  · rw [hi.int]
    split at h
    · rcases withB_true h with h | ⟨hk, j, d, rfl, hd, h⟩
      · exact .inl h
      have hk := Nat.eq_of_beq_eq_true hk
      obtain ⟨cs, h1, h2⟩ := hx
      simp only [RepD, RepC] at h1
      obtain ⟨aa, c, css, rfl, _, _, h4, h5, h6⟩ := h1
      have hlt := (List.getElem?_eq_some_iff.1 hd).1
      rcases h6 with h6 | ⟨b, o, rfl, h7, h8, h9⟩
      · rw [h6] at hlt; simp at hlt
      · obtain ⟨c0, hc0, hr0⟩ := repCss_at h4 hd
        refine .inr ⟨_, _, h, by rw [h2]; exact run_indexAt_ok (hC.ty he) hk2 (hC.ty hee) hlt, [_], ?_, rfl⟩
        simp only [RepD, RepC]
        refine ⟨b, _, c0, rfl, h7, h8, hr0, ?_⟩
        rw [← hk]
        exact Cells.mono h9 (fun i u hj => flat_get (fun x hx => (h5 x hx).1) hc0 hj)
    · rcases withO_some h with h | ⟨ow, hg, h⟩
      · exact .inl h
      split at h
      · rcases withB_true h with h | ⟨hk, j, rfl, hlt, h⟩
        · exact .inl h
        have hk := Nat.eq_of_beq_eq_true hk
        obtain ⟨css, hs, _, hr, _⟩ := own_slice_val hm hg
        have hl := repCss_len hr
        obtain ⟨cs', h1, h2⟩ := hx
        simp only [RepD] at h1
        obtain ⟨hi, rfl⟩ := h1
        rcases hs.shape with ⟨_, he0⟩ | ⟨g, cap, he0, _⟩
        · rw [he0] at hl; simp at hl; omega
        · have h2 := h2.trans he0
          refine .inr ⟨_, _, h, by rw [h2]; exact run_indexAt_ok (hC.ty he) hk2 (hC.ty hee) (by omega), [_], ?_, rfl⟩
          simp only [RepD]
          exact ⟨hi, g, _, _, he0, by rw [hk]; simp⟩
      · exact .inl h
    · exact .inl h
  · exact .inl h

theorem sxField_ok (hC : C.Ok T) {t : TypeId} {x : Dat} {m : Nat} (hx : RD B σ η φ w x vx) {K : Dat → Prop} (h : sxField T t x m K no) : no ∨ ∃ d v, K d ∧ (Instr.field t vx m).run C.P w = .ok v w ∧ RD B σ η φ w d v := by
  unfold sxField at h
  rcases withTy_some h with h | ⟨e, he, h⟩
  · exact .inl h
  have ht := hC.ty he
  rcases withO_some h with h | ⟨os, hos, h⟩
  · exact .inl h
  rcases withTy_some h with h | ⟨fe, hfe, h⟩
  · exact .inl h
  have hft := hC.ty hfe
  rcases withO_some h with h | ⟨ds, hds, h⟩
  · exact .inl h
  rcases withO_some h with h | ⟨d, hd, h⟩
  · exact .inl h
  rcases withB_true h with h | ⟨hb, h9⟩
  · exact .inl h
  simp only [Bool.and_eq_true] at hb
  obtain ⟨⟨hf, hp⟩, ha⟩ := hb
  have hp := Nat.eq_of_beq_eq_true hp
  obtain ⟨f1, f2⟩ := fitsD_spec hf
  obtain ⟨cs, h1, h2⟩ := hx
  obtain ⟨g1, g2⟩ := parts_rep hds h1
  obtain ⟨c, r1, r2⟩ := fieldOf_rep g1 hd
  have hl := repD_len d c r1
  obtain ⟨dd, q1, _, _, q4, _, q5, _⟩ := ht.desc
  obtain ⟨fs, rfl⟩ := q5 ha
  obtain ⟨p1, _⟩ := q4 fs rfl
  have hm : (fs.toList.map (fun f => (f.offset, f.type)))[m]? = some os := by rw [p1]; exact hos
  simp only [List.getElem?_map, Option.map_eq_some_iff] at hm
  obtain ⟨f, hf1, hf2⟩ := hm
  have hf3 : fs[m]? = some f := by simpa using hf1
  subst hf2
  refine .inr ⟨d, _, RD.force h9, ?_, c, r1, rfl⟩
  rw [h2, toVD_load, g2]
  simp only [if_true, Instr.field, Sem.run_bind, run_underlying q1, Result.andThen_ok, hf3, asAgg, Sem.run_pure, part, hft.isAgg]
  rw [toVD_load, f1]
  cases hfa : fe.agg
  · have hs1 := sizeD_one (by rw [f1]; exact hfa)
    have : c.length = 1 := by omega
    obtain ⟨u, rfl⟩ := List.length_eq_one_iff.1 this
    have := r2 0 u rfl
    rw [hp] at this
    simp at this
    simp [this]
  · simp only [if_true, Sem.run_bind, hft.sizeOf, Result.andThen_ok, Sem.run_pure]
    congr 2
    apply Array.ext'
    simp only [Array.toList_extract]
    apply List.ext_getElem?
    intro j
    simp only [List.extract, List.getElem?_take, List.getElem?_drop]
    by_cases hj : j < c.length
    · have := r2 j c[j] (List.getElem?_eq_getElem hj)
      rw [hp] at this
      rw [if_pos (by omega), List.getElem?_eq_getElem hj]
      exact this
    · rw [if_neg (by omega), List.getElem?_eq_none (by omega)]
end


/-! ### '==' of structs -/
section
variable {C : Cx} {T : Tab} {B S : List Nat} {w0 w : World} {σ : Sg} {η : Nat → Value} {φ : Nat → List Nat} {vx vy : Value}

theorem dec_iff {p q : Prop} {i : Decidable p} {j : Decidable q} (h : p ↔ q) : @decide p i = @decide q j := by
  by_cases hp : p
  · have hq := h.1 hp; simp [hp, hq]
  · have hq : ¬ q := fun hq => hp (h.2 hq); simp [hp, hq]
theorem kd_scal {P : Program} {t : TypeId} {e : TyI} (h : TyOk P t e) (hk : e.kd = 7 ∨ e.kd = 8 ∨ e.kd = 9) : e.agg = false := by
  obtain ⟨d, h1, h2, _, _, _, _, _, h3⟩ := h.desc
  rw [← h2]
  cases d <;> first | rfl | (simp at h3; omega)

theorem part_scal {P : Program} {t : TypeId} {e : TyI} (h : TyOk P t e) (ha : e.agg = false) {cs : Array Value} {off : Nat} {v : Value} (hv : cs.toList[off]? = some v) : (part t cs off).run P w = .ok v w := by
  have : cs[off]? = some v := by simpa using hv
  simp only [part, Sem.run_bind, h.isAgg, Result.andThen_ok, ha]
  simp [this]

theorem eqOne_ok {P : Program} {t : TypeId} {e : TyI} (h : TyOk P t e) {a b : Dat} {p : PD} (hp : eqOne e.kd a b = some p) {u v : Value} (ha : RD B σ η φ w a u) (hb : RD B σ η φ w b v) (d : Nat) : e.agg = false ∧ (Op.equalIn (d + 1) t u v).run P w = .ok (@decide p.p p.d) w := by
  unfold eqOne at hp
  obtain ⟨dd, h1, h2⟩ := h.kd_desc
  split at hp
  · rename_i k x k' y hk
    split at hp
    · rename_i hkk
      simp at hp; subst hp
      simp at hkk; subst hkk
      refine ⟨kd_scal h (by omega), ?_⟩
      rw [ha.int, hb.int]
      rw [hk] at h2
      cases dd <;> simp at h2
      rw [run_equalIn_int w d t k _ x y h1]
      rfl
    · cases hp
  · rename_i x y hk
    simp at hp; subst hp
    refine ⟨kd_scal h (by omega), ?_⟩
    rw [ha.str, hb.str]
    rw [hk] at h2
    cases dd <;> simp at h2
    rw [run_equalIn_string w d t x y h1, str_beq]
    rfl
  · rename_i x y hk
    simp at hp; subst hp
    refine ⟨kd_scal h (by omega), ?_⟩
    rw [ha.bool, hb.bool]
    rw [hk] at h2
    cases dd <;> simp at h2
    rw [run_equalIn_bool w d t x y h1]
    congr 1
  · cases hp

theorem eqFlds_ok (hC : C.Ok T) {dx dy : List Dat} {cx cy : Array Value} (hx : RepDs η (ids σ) (B ++ blocks φ σ) w dx cx.toList) (hy : RepDs η (ids σ) (B ++ blocks φ σ) w dy cy.toList) (d : Nat) : ∀ (fs : List Field) (fl : List (Nat × TypeId)) (i : Nat) {p : PD}, fs.map (fun f => (f.offset, f.type)) = fl → (∀ f ∈ fs, f.name ≠ "_") → eqFlds T dx dy fl i = some p →
    (Op.eqFields (d + 1) cx cy fs).run C.P w = .ok (@decide p.p p.d) w
  | [], fl, i, p, hfl, hn, hp => by
    subst hfl
    simp [eqFlds] at hp; subst hp
    simp only [Op.eqFields, Sem.run_pure]
    congr 1
  | f :: fs, fl, i, p, hfl, hn, hp => by
    subst hfl
    simp only [List.map_cons, eqFlds] at hp
    split at hp
    · rename_i fe a b hfe ha hb
      split at hp
      · rename_i q hq hoff
        simp only [Bool.and_eq_true] at hoff
        have o1 := Nat.eq_of_beq_eq_true hoff.1
        have o2 := Nat.eq_of_beq_eq_true hoff.2
        obtain ⟨ca, r1, r2⟩ := fieldOf_rep hx ha
        obtain ⟨cb, r3, r4⟩ := fieldOf_rep hy hb
        have ht := hC.ty hfe
        obtain ⟨hagg, heq⟩ := eqOne_ok (w := w) (B := B) (σ := σ) (η := η) (φ := φ) ht hq ⟨ca, r1, rfl⟩ ⟨cb, r3, rfl⟩ d
        have sing : ∀ {z : Dat} {c : List Value}, RepD η (ids σ) (B ++ blocks φ σ) w z c → z.isAgg = false → c = [toVD z c] := by
          intro z c hr hz
          have hl := repD_len z c hr
          rw [sizeD_one hz] at hl
          obtain ⟨v, rfl⟩ := List.length_eq_one_iff.1 hl
          rw [toVD_load, hz]; rfl
        have notagg : a.isAgg = false ∧ b.isAgg = false := by
          unfold eqOne at hq
          split at hq
          · exact ⟨rfl, rfl⟩
          · exact ⟨rfl, rfl⟩
          · exact ⟨rfl, rfl⟩
          · cases hq
        have e1 := sing r1 notagg.1
        have e2 := sing r3 notagg.2
        have g1 := r2 0 (toVD a ca) (by have : ([toVD a ca] : List Value)[0]? = some (toVD a ca) := rfl; rw [← e1] at this; exact this)
        have g2 := r4 0 (toVD b cb) (by have : ([toVD b cb] : List Value)[0]? = some (toVD b cb) := rfl; rw [← e2] at this; exact this)
        rw [o1, Nat.add_zero] at g1
        rw [o2, Nat.add_zero] at g2
        have hname := hn f (by simp)
        simp only [Op.eqFields]
        rw [if_pos hname]
        simp only [Sem.run_bind, part_scal ht hagg g1, part_scal ht hagg g2, Result.andThen_ok, heq]
        split at hp
        · rename_i hnil
          have hnil' : fs = [] := by simpa using hnil
          subst hnil'
          simp at hp; subst hp
          by_cases hh : q.p
          · simp [hh, Op.eqFields]
          · simp [hh]
        · rename_i hd tl hcons
          split at hp
          · rename_i r hr
            simp at hp; subst hp
            have ih := eqFlds_ok hC hx hy d fs _ (i + 1) rfl (fun g hg => hn g (by simp [hg])) hr
            by_cases hh : q.p
            · simp only [hh, decide_true, Bool.not_true, Bool.false_eq_true, if_false]
              rw [ih]
              congr 1
              exact dec_iff ⟨fun h => ⟨hh, h⟩, fun h => h.2⟩
            · simp only [hh, decide_false, Bool.not_false, if_true, Sem.run_pure]
              congr 1
              exact (@decide_eq_false _ (q.and r).d (fun (h : (q.and r).p) => hh h.1)).symm
          · cases hp
      · cases hp
    · cases hp

theorem eq_ok (hC : C.Ok T) {t : TypeId} {e : TyI} (he : tyAt t T = some e) (hc : e.cmp = true) {x y : Dat} {dx dy : List Dat} (hpx : x.parts = some dx) (hpy : y.parts = some dy) (hx : RD B σ η φ w x vx) (hy : RD B σ η φ w y vy) {p : PD} (hp : eqFlds T dx dy e.flds 0 = some p) {op : BinOp} {K : Dat → Prop} {no : Prop} (h : sxEq op p K no) (xo yo : Operand) :
    no ∨ ∃ d v, K d ∧ (do eqGuard op t xo yo vx vy; binOp op t vx vy).run C.P w = .ok v w ∧ RD B σ η φ w d v := by
  obtain ⟨fs, h1, h2, h3, h4⟩ := (hC.ty he).cmp hc
  obtain ⟨cx, g1, g2⟩ := hx
  obtain ⟨cy, g3, g4⟩ := hy
  obtain ⟨r1, a1⟩ := parts_rep hpx g1
  obtain ⟨r2, a2⟩ := parts_rep hpy g3
  have e1 : vx = .agg cx.toArray := by rw [g2, toVD_load, a1]; rfl
  have e2 : vy = .agg cy.toArray := by rw [g4, toVD_load, a2]; rfl
  obtain ⟨d, q1, _, _, q4, _⟩ := (hC.ty he).desc
  rw [h1] at q1
  cases q1
  have hfo : C.P.fieldsOf t = fs := by simp [Program.fieldsOf, h1]
  have hEq : (Op.equalIn 10000 t vx vy).run C.P w = .ok (@decide p.p p.d) w := by
    rw [e1, e2, show (10000 : Nat) = 9999 + 1 from rfl, run_equalIn_struct w 9999 t _ _ (by rw [hfo]; exact h1) h2, hfo]
    exact eqFlds_ok hC (by simpa using r1) (by simpa using r2) 9998 fs.toList e.flds 0 (q4 fs rfl).1 h4 hp
  have hg : (eqGuard op t xo yo vx vy).run C.P w = .ok () w := by rw [e1, e2]; exact run_eqGuard_agg w op t xo yo _ _ h3
  unfold sxEq at h
  split at h
  · refine .inr ⟨_, _, h, ?_, rd_prop _ _⟩
    rw [Sem.run_bind, hg]
    simp only [Result.andThen_ok]
    rw [e1, e2] at hEq ⊢
    rw [run_eql_struct, hEq]; rfl
  · refine .inr ⟨_, _, h, ?_, rd_prop _ _⟩
    rw [Sem.run_bind, hg]
    simp only [Result.andThen_ok]
    rw [e1, e2] at hEq ⊢
    rw [run_neq_struct, hEq]
    simp only [Result.andThen_ok]
    congr 2
    by_cases hh : p.p <;> simp [hh]
  · exact .inl h
end

end Go.Sx
