/- The walk is sound: literals, append, slices, in a frame. -/
import Derived.Test.YtlpjdngjmknniaaDoorSxk
namespace Go.Sx
open Go Go.RowKit Go.Reg

section
variable {C : Cx} {T : Tab} {B S : List Nat} {w0 w : World} {n : Nat} {fr : Fr} {σ : Sg} {η : Nat → Value} {φ : Nat → List Nat} {a : Act} {v vx vy : Value} {no : Prop}

/-- an operation that hands back a value and may turn memory -/
def Runs (C : Cx) (B S : List Nat) (w0 : World) (n : Nat) (s : Sem Value) (dst : Option Nat) (K : Fr → Sg → Prop) (a : Act) (w : World) : Prop :=
  ∃ v w', s.run C.P w = .ok v w' ∧ Good C B S w0 n K (a.put dst v) w'

theorem sxAppend_ok (hC : C.Ok T) (hM : Models C B S w0 n fr σ η φ a w) {t : TypeId} {x y : Dat} {dst : Option Nat} (hd : dstOk dst n = true) (hx : RD B σ η φ w x vx) (hy : RD B σ η φ w y vy) {K : Fr → Sg → Prop} (ty : TypeId)
    (h : sxAppend T t x y dst fr σ (fun d fr σ => K (putF dst d fr) σ) no) : no ∨ Runs C B S w0 n (Builtin.append_ #[t, t] ty #[vx, vy]) dst K a w := by
  unfold sxAppend at h
  rcases withTy_some h with h | ⟨e, he, h⟩
  · exact .inl h
  rcases withTy_some h with h | ⟨ee, hee, h⟩
  · exact .inl h
  rcases withB_true h with h | ⟨hb, h⟩
  · exact .inl h
  simp only [Bool.and_eq_true, decide_eq_true_eq] at hb
  obtain ⟨⟨hk0, hb0⟩, hk2⟩ := hb
  have hk2 := Nat.eq_of_beq_eq_true hk2
  have ht := hC.ty he
  have ht2 := hC.ty hee
  split at h
  · rename_i i _ _ _
    rcases withO_some h with h | ⟨ow, hg, h⟩
    · exact .inl h
    split at h
    · rename_i E k ds
      rcases withB_true h with h | ⟨hb, h⟩
      · exact .inl h
      simp only [Bool.and_eq_true] at hb
      obtain ⟨⟨hk, hE⟩, hno⟩ := hb
      have hk := Nat.eq_of_beq_eq_true hk
      have hE := Nat.eq_of_beq_eq_true hE
      subst hk; subst hE
      rcases withO_some h with h | ⟨es, hes, hlen, h⟩
      · exact .inl h
      obtain ⟨css, hs, e2, hr, hrk⟩ := own_slice_val hM.mem hg
      have hl := repCss_len hr
      obtain ⟨cs', h1, h2⟩ := hx
      simp only [RepD] at h1
      obtain ⟨hi, rfl⟩ := h1
      have h2 : vx = η i := h2
      have hsrc := elems_ok hM.mem hes hy
      obtain ⟨v', w', css2, g1, g2, g3, g4, g5, g6⟩ := append_any ht hk2 ht2 hk0 hb0 hs hsrc (by rw [hl]; exact hlen) ty
      rw [← e2] at g5
      have hX : ∀ b ∈ φ i, b ∈ φ i := fun _ h => h
      have hF : ∀ b ∈ v'.ownBlock.toList, b ∈ φ i ∨ w.heap.size ≤ b := fun b hb => by
        rcases g6 with g6 | g6
        · left; rw [e2, ← g6]; exact hb
        · right; rw [g6] at hb; simp at hb; omega
      have hlt := Later.turn (σ := σ) B g5 hX hi hF (killO i .undef) (.slice e.elem ee.size (ds ++ es))
      have hm' := hM.mem.turnKill (o := .slice e.elem ee.size (ds ++ es)) (v := v') g5 hX hi hF (by
        refine ⟨css ++ css2, g2, rfl, RepCss.later hlt _ _ (repCss_append hr g3), fun x hx => ?_⟩
        rcases List.mem_append.1 hx with hx | hx
        · exact hrk x hx
        · exact g4 x hx)
      have hfr := hM.fr.kill (x := .undef) rfl hlt (I' := ids (sturn (killO i .undef) i (.slice e.elem ee.size (ds ++ es)) σ)) (η' := upd η i v') (i := i) (fun j hj hne => ⟨by rw [ids_sturn]; exact hj, upd_ne _ _ _ hne⟩) (RepC.undef_ex _ _ _)
      have M' : Models C B S w0 n (killF i .undef fr) (sturn (killO i .undef) i (.slice e.elem ee.size (ds ++ es)) σ) (upd η i v') (upd φ i v'.ownBlock.toList) a w' := ⟨hm', hfr, hM.defers, hM.size⟩
      rw [forceF_eq, forceS_eq] at h
      exact .inr ⟨v', w', by rw [h2]; exact g1, _, _, _, _, M'.put hd ⟨[v'], by simp only [RepD]; exact ⟨by rw [ids_sturn]; exact hi, by rw [upd_eq]⟩, rfl⟩, h⟩
    · exact .inl h
  · rcases withO_some h with h | ⟨es, hes, hlen, h⟩
    · exact .inl h
    rcases withO_some h with h | ⟨t0, ht0, h⟩
    · exact .inl h
    rcases fresh_ok h with h | ⟨j, hj, h⟩
    · exact .inl h
    have hsrc := elems_ok hM.mem hes hy
    obtain ⟨v', w', css2, g1, g2, g3, g4, g5, g6⟩ := append_any (v := .slice none 0 0) (css := []) ht hk2 ht2 hk0 hb0 (by exact World.ownsRow_nil w 0 _ _) hsrc (by simpa using hlen) ty
    rw [hx.nils]
    have := hM.add (o := .slice e.elem ee.size es) (v := v') (F := v'.ownBlock.toList) g5 hj (fun b hb => by
      rcases g6 with g6 | g6
      · rw [g6] at hb; simp [Value.ownBlock] at hb
      · rw [g6] at hb; simp at hb; omega) (fun O' hl => ⟨css2, by simpa using g2, rfl, RepCss.later hl _ _ g3, g4⟩) hd
    rw [forceS_eq] at h
    exact .inr ⟨v', w', g1, _, _, _, _, this.perm (sins_perm _ _ _), h⟩
  · exact .inl h

theorem sxLen_ok (hC : C.Ok T) (hm : Mem C B S w0 σ η φ w) {t : TypeId} {x : Dat} (hx : RD B σ η φ w x vx) {K : Dat → Prop} (ty : TypeId) (h : sxLen T t x σ K no) : no ∨ ∃ d v, K d ∧ (Builtin.len_ #[t] ty #[vx]).run C.P w = .ok v w ∧ RD B σ η φ w d v := by
  unfold sxLen at h
  rcases withTy_some h with h | ⟨e, he, h⟩
  · exact .inl h
  have ht := hC.ty he
  rcases withB_true h with h | ⟨_, h⟩
  · exact .inl h
  obtain ⟨d, h1, h2⟩ := ht.kd_desc
  have run2 : e.kd = 2 → ∀ (a : Option Addr) (l c : Nat), (Builtin.len_ #[t] ty #[.slice a l c]).run C.P w = .ok (.int .i64 l) w := fun hk a l c => by
    rw [hk] at h2
    cases d <;> simp at h2
    simp [Builtin.len_, run_underlying h1, goInt]
  split at h
  · rcases withB_true h with h | ⟨hk, h⟩
    · exact .inl h
    have hk := Nat.eq_of_beq_eq_true hk
    obtain ⟨cs, g1, g2⟩ := hx
    simp only [RepD, RepC] at g1
    obtain ⟨aa, c, css, rfl, _⟩ := g1
    exact .inr ⟨_, _, h, by rw [g2]; exact run2 hk _ _ _, rd_int _ _⟩
  · rcases withB_true h with h | ⟨hk, h⟩
    · exact .inl h
    have hk := Nat.eq_of_beq_eq_true hk
    exact .inr ⟨_, _, h, by rw [hx.nils]; exact run2 hk _ _ _, rd_int _ _⟩
  · rcases withB_true h with h | ⟨hk, h⟩
    · exact .inl h
    have hk := Nat.eq_of_beq_eq_true hk
    rw [hk] at h2
    cases d <;> simp at h2
    exact .inr ⟨_, _, h, by rw [hx.str]; simp [Builtin.len_, run_underlying h1, goInt], rd_int _ _⟩
  · rcases withO_some h with h | ⟨ow, hg, h⟩
    · exact .inl h
    split at h
    · rcases withB_true h with h | ⟨hk, h⟩
      · exact .inl h
      have hk := Nat.eq_of_beq_eq_true hk
      obtain ⟨css, hs, _, hr, _⟩ := own_slice_val hm hg
      have hl := repCss_len hr
      obtain ⟨cs', g1, g2⟩ := hx
      simp only [RepD] at g1
      obtain ⟨_, rfl⟩ := g1
      rcases hs.shape with ⟨he0, hn⟩ | ⟨g, cap, he0, _⟩
      · rw [hn] at hl
        refine .inr ⟨_, _, h, by rw [g2.trans he0]; exact run2 hk _ _ _, ?_⟩
        rw [show (0 : Nat) = _ from hl]; exact rd_int _ _
      · refine .inr ⟨_, _, h, by rw [g2.trans he0]; exact run2 hk _ _ _, ?_⟩
        rw [hl]; exact rd_int _ _
    · exact .inl h
  · exact .inl h

theorem run_sliceBound {P : Program} {k : IntKind} {j y : Nat} (h : j ≤ y) (c : BoundsCode) : (Instr.sliceBound (.int k j) y c).run P w = .ok j w := by
  have : (j : Int) ≤ (y : Int) := by omega
  simp [Instr.sliceBound, asIntOf, this]

theorem run_slice_ok {P : Program} {t : TypeId} {e ee : TyI} (h : TyOk P t e) (hk : e.kd = 2) (h2 : TyOk P e.elem ee) {ad : Option Addr} {len cap : Nat} (hc : len ≤ cap) {lo hi : Option Value} {l m : Nat} (hlo : match lo with | none => l = 0 | some v => ∃ k, v = .int k l) (hhi : match hi with | none => m = len | some v => ∃ k, v = .int k m) (hlm : l ≤ m) (hml : m ≤ len) :
    (Instr.sliceAt t (.slice ad len cap) lo hi none).run P w = .ok (.slice (if cap = l then ad else ad.map (·.add (l * ee.size))) (m - l) (cap - l)) w := by
  obtain ⟨d, h1, _, h3, _, _, _, _, h8⟩ := h.desc
  rw [hk] at h8
  cases d <;> simp at h8
  have he := h3 _ rfl
  subst he
  have hb : (Instr.sliceBounds true len cap lo hi none).run P w = .ok (l, m, cap) w := by
    cases lo with
    | none =>
      simp only at hlo; subst hlo
      cases hi with
      | none => simp only at hhi; subst hhi; simp [Instr.sliceBounds]
      | some v => obtain ⟨k, rfl⟩ := hhi; simp [Instr.sliceBounds, run_sliceBound (w := w) (P := P) (k := k) (show m ≤ cap by omega)]
    | some u =>
      obtain ⟨k', rfl⟩ := hlo
      cases hi with
      | none => simp only at hhi; subst hhi; simp [Instr.sliceBounds, run_sliceBound (w := w) (P := P) (k := k') hlm]
      | some v => obtain ⟨k, rfl⟩ := hhi; simp [Instr.sliceBounds, run_sliceBound (w := w) (P := P) (k := k) (show m ≤ cap by omega), run_sliceBound (w := w) (P := P) (k := k') hlm]
  simp only [Instr.sliceAt, Sem.run_bind, run_underlying h1, Result.andThen_ok, Instr.slice, hb, h2.sizeOf, Sem.run_pure]

theorem slice_list (hC : C.Ok T) {t : TypeId} {e ee : TyI} (he : tyAt t T = some e) (hk : e.kd = 2) (hee : tyAt e.elem T = some ee) {k : Nat} {ds : List Da} (hx : RD B σ η φ w (.d (.list k ds)) vx) (hke : k = ee.size) {lo hi : Option Value} {l m : Nat} (hlo : match lo with | none => l = 0 | some v => ∃ k, v = .int k l) (hhi : match hi with | none => m = ds.length | some v => ∃ k, v = .int k m) (hlm : l ≤ m) (hml : m ≤ ds.length) :
    ∃ v, (Instr.sliceAt t vx lo hi none).run C.P w = .ok v w ∧ RD B σ η φ w (.d (.list k ((ds.take m).drop l))) v := by
  obtain ⟨cs, g1, g2⟩ := hx
  simp only [RepD, RepC] at g1
  obtain ⟨aa, c, css, rfl, q1, q2, q3, q4, q5⟩ := g1
  have hcl := repCss_len q3
  refine ⟨_, by rw [g2]; exact run_slice_ok (hC.ty he) hk (hC.ty hee) q1 hlo hhi hlm hml, [_], ?_, rfl⟩
  simp only [RepD, RepC]
  have hlen : ((ds.take m).drop l).length = m - l := by simp; omega
  refine ⟨_, _, (css.take m).drop l, by rw [hlen], by rw [hlen]; omega, by omega, repCss_drop (repCss_take q3 m) l, fun x hx => q4 x (List.mem_of_mem_take (List.mem_of_mem_drop hx)), ?_⟩
  by_cases hz : m - l = 0
  · left; exact List.eq_nil_of_length_eq_zero (by rw [hlen]; exact hz)
  · right
    rcases q5 with q5 | ⟨b, o, rfl, q6, q7, q8⟩
    · subst q5; simp at hml; omega
    · rw [if_neg (by omega)]
      refine ⟨b, o + l * ee.size, by simp [Addr.add_lit], q6, q7, ?_⟩
      refine Cells.mono q8 (fun j u hj => ?_)
      have hk' : ∀ x ∈ css.take m, x.length = k := fun x hx => (q4 x (List.mem_of_mem_take hx)).1
      rw [flat_drop hk' l, List.getElem?_drop, hke] at hj
      have e1 : css = css.take m ++ css.drop m := (List.take_append_drop m css).symm
      rw [e1, List.flatten_append, List.getElem?_append_left (List.getElem?_eq_some_iff.1 hj).1]
      exact hj

theorem sxSlice_ok (hC : C.Ok T) {t : TypeId} {x : Dat} {lo hi mx : Option Dat} {vlo vhi vmx : Option Value} (hx : RD B σ η φ w x vx) (hlo : ∀ d, lo = some d → ∃ v, vlo = some v ∧ RD B σ η φ w d v) (hlo0 : lo = none → vlo = none) (hhi : ∀ d, hi = some d → ∃ v, vhi = some v ∧ RD B σ η φ w d v) (hhi0 : hi = none → vhi = none) (hmx0 : mx = none → vmx = none) {K : Dat → Prop}
    (h : sxSlice T t x lo hi mx K no) : no ∨ ∃ d v, K d ∧ (Instr.sliceAt t vx vlo vhi vmx).run C.P w = .ok v w ∧ RD B σ η φ w d v := by
  unfold sxSlice at h
  rcases withTy_some h with h | ⟨e, he, h⟩
  · exact .inl h
  rcases withTy_some h with h | ⟨ee, hee, h⟩
  · exact .inl h
  rcases withB_true h with h | ⟨hk2, h⟩
  · exact .inl h
  have hk2 := Nat.eq_of_beq_eq_true hk2
  split at h
  · rcases withB_true h with h | ⟨hk, h⟩
    · exact .inl h
    have hk := Nat.eq_of_beq_eq_true hk
    rw [hmx0 rfl]
    have go := fun (l m : Nat) h1 h2 h3 h4 => slice_list hC he hk2 hee hx hk (lo := vlo) (hi := vhi) (l := l) (m := m) h1 h2 h3 h4
    split at h
    · rw [hlo0 rfl, hhi0 rfl] at go ⊢
      obtain ⟨v, r1, r2⟩ := go 0 _ rfl rfl (Nat.zero_le _) (Nat.le_refl _)
      exact .inr ⟨_, v, h, r1, by simpa using r2⟩
    · obtain ⟨j, rfl, hj, h⟩ := h
      obtain ⟨v1, e1, hv1⟩ := hlo _ rfl
      rw [e1, hhi0 rfl, hv1.int] at go
      rw [e1, hhi0 rfl, hv1.int]
      obtain ⟨v, r1, r2⟩ := go j _ ⟨_, rfl⟩ rfl hj (Nat.le_refl _)
      exact .inr ⟨_, v, h, r1, by simpa using r2⟩
    · obtain ⟨j, rfl, hj, h⟩ := h
      obtain ⟨v1, e1, hv1⟩ := hhi _ rfl
      rw [e1, hlo0 rfl, hv1.int] at go
      rw [e1, hlo0 rfl, hv1.int]
      obtain ⟨v, r1, r2⟩ := go 0 j rfl ⟨_, rfl⟩ (Nat.zero_le _) hj
      exact .inr ⟨_, v, h, r1, by simpa using r2⟩
    · obtain ⟨j, m, rfl, rfl, hj, hm, h⟩ := h
      obtain ⟨v1, e1, hv1⟩ := hlo _ rfl
      obtain ⟨v2, e2, hv2⟩ := hhi _ rfl
      rw [e1, e2, hv1.int, hv2.int] at go
      rw [e1, e2, hv1.int, hv2.int]
      obtain ⟨v, r1, r2⟩ := go j m ⟨_, rfl⟩ ⟨_, rfl⟩ hj hm
      exact .inr ⟨_, v, h, r1, r2⟩
    · exact .inl h
  · rw [hmx0 rfl, hx.nils]
    have go := fun h1 h2 => run_slice_ok (w := w) (hC.ty he) hk2 (hC.ty hee) (ad := none) (len := 0) (cap := 0) (Nat.le_refl _) (lo := vlo) (hi := vhi) (l := 0) (m := 0) h1 h2 (Nat.le_refl _) (Nat.le_refl _)
    have hn : RD B σ η φ w (.d .nils) (.slice none 0 0) := ⟨[_], by simp only [RepD, RepC], rfl⟩
    split at h
    · rw [hlo0 rfl, hhi0 rfl] at go ⊢
      exact .inr ⟨_, _, h, by simpa using go rfl rfl, hn⟩
    · obtain ⟨rfl, h9⟩ := h
      obtain ⟨v1, e1, hv1⟩ := hlo _ rfl
      rw [e1, hhi0 rfl, hv1.int] at go
      rw [e1, hhi0 rfl, hv1.int]
      exact .inr ⟨_, _, h9, by simpa using go ⟨_, rfl⟩ rfl, hn⟩
    · obtain ⟨rfl, h9⟩ := h
      obtain ⟨v1, e1, hv1⟩ := hhi _ rfl
      rw [e1, hlo0 rfl, hv1.int] at go
      rw [e1, hlo0 rfl, hv1.int]
      exact .inr ⟨_, _, h9, by simpa using go rfl ⟨_, rfl⟩, hn⟩
    · obtain ⟨rfl, rfl, h9⟩ := h
      obtain ⟨v1, e1, hv1⟩ := hlo _ rfl
      obtain ⟨v2, e2, hv2⟩ := hhi _ rfl
      rw [e1, e2, hv1.int, hv2.int] at go
      rw [e1, e2, hv1.int, hv2.int]
      exact .inr ⟨_, _, h9, by simpa using go ⟨_, rfl⟩ ⟨_, rfl⟩, hn⟩
    · exact .inl h
  · exact .inl h

/-! ### structs put together -/
theorem partsFit_same {e : TyI} {f : Operand → Dat} {ds ds' : List Dat} (h1 : ∀ j e0, fieldOf j ds = some e0 → ∃ e, fieldOf j ds' = some e ∧ e.size = e0.size ∧ e.isAgg = e0.isAgg) (h2 : ∀ j, prefixD j ds' = prefixD j ds) : ∀ {ps : List (Nat × Operand)}, partsFit T e ps f ds = true → partsFit T e ps f ds' = true
  | [], _ => rfl
  | (i, x) :: ps, h => by
    simp only [partsFit] at h ⊢
    split at h
    · rename_i d off ft hd hfl
      obtain ⟨d', g1, g2, g3⟩ := h1 i d hd
      simp only [g1, hfl, g2, g3, h2]
      split at h
      · simp only [Bool.and_eq_true] at h ⊢
        exact ⟨h.1, partsFit_same h1 h2 h.2⟩
      · cases h
    · cases h
theorem fill_parts {P : Program} {t : TypeId} {e : TyI} (ht : TyOk P t e) (hT : tabB P T = true) {fs : Array Field} (hfs : P.underlying t = some (.struct fs)) (hpl : fs.toList.map (fun f => (f.offset, f.type)) = e.flds) {I O : List Nat} (hη : OneV η I) {pl : Array (Nat × Nat)} (hp : ∀ (i off : Nat) (ft : TypeId) (fe : TyI), e.flds[i]? = some (off, ft) → tyAt ft T = some fe → pl[i]? = some (off, fe.size)) {f : Operand → Dat} {g : Operand → Value} (hfg : ∀ x, ∃ cs, RepD η I O w (f x) cs ∧ g x = toVD (f x) cs) :
    ∀ (ps : List (Nat × Operand)) (ds : List Dat) (cs : List Value), partsFit T e ps f ds = true → RepDs η I O w ds cs → ∃ cs', Instr.fill (pl[·]?) cs.toArray (ps.map fun p => (p.1, g p.2)) = some cs'.toArray ∧ RepDs η I O w (setParts ps f ds) cs'
  | [], ds, cs, _, hr => ⟨cs, rfl, hr⟩
  | (i, x) :: ps, ds, cs, hf, hr => by
    simp only [partsFit] at hf
    split at hf
    · rename_i d off ft hd hfl
      split at hf
      · rename_i fe hfe
        simp only [Bool.and_eq_true, beq_iff_eq] at hf
        obtain ⟨⟨⟨⟨⟨h1, h2⟩, h3⟩, h4⟩, h5⟩, h6⟩ := hf
        have h2 := Nat.eq_of_beq_eq_true h2
        have h3 := Nat.eq_of_beq_eq_true h3
        have h4 := Nat.eq_of_beq_eq_true h4
        obtain ⟨cx, hcx, hg⟩ := hfg x
        have hlx := repD_len _ _ hcx
        obtain ⟨g1, g2⟩ := splice_prefix hcx hr hd h2
        have hcl := (toVD_cells hη hcx h5).1
        have hsz : (g x).cells.size = fe.size := by rw [hg, ← Array.length_toList, hcl]; omega
        have e1 := fill_cons (place := (pl[·]?)) (cells := cs.toArray) (rest := ps.map fun p => (p.1, g p.2)) (hp i off ft fe hfl hfe) hsz (by simp only [List.size_toArray]; omega)
        simp only [List.map_cons, setParts]
        rw [e1, hg, hcl, ← h4]
        obtain ⟨_, q2, q3⟩ := setField_same hd h2 h1
        exact fill_parts ht hT hfs hpl hη hp hfg ps _ _ (partsFit_same q3 q2 h6) g1
      · cases hf
    · cases hf

theorem mapM_places {P : Program} (hT : tabB P T = true) : ∀ (l : List Field), (∀ f ∈ l, ∃ i, P.info? f.type = some i ∧ 0 < i.size) → (l.mapM (fun f => do pure (f.offset, ← Go.sizeOf f.type) : Field → Sem (Nat × Nat))).run P w = .ok (l.map fun f => (f.offset, match P.info? f.type with | some i => i.size | none => 0)) w
  | [], _ => by simp
  | f :: l, h => by
    obtain ⟨i, hi, _⟩ := h f (by simp)
    have hs : (Go.sizeOf f.type).run P w = .ok i.size w := by simp [Go.sizeOf, typeInfo, program, Sem.run, hi]
    have ih := mapM_places hT l (fun g hg => h g (by simp [hg]))
    simp only [List.mapM_cons, Sem.run_bind, hs, Result.andThen_ok, Sem.run_pure, ih, List.map_cons, hi]

theorem build_ok (hC : C.Ok T) (hM : Models C B S w0 n fr σ η φ a w) {t : TypeId} {e : TyI} (he : tyAt t T = some e) (ha : e.agg = true) {ps : List (Nat × Operand)} (hf : partsFit T e ps (ev C.Γ fr) (Dat.cellsOf (.d e.zero)) = true) :
    ∃ v, (Instr.build t (ps.map fun p => (p.1, a.eval p.2)).toArray).run C.P w = .ok v w ∧ RD B σ η φ w (mkAgg (setParts ps (ev C.Γ fr) (Dat.cellsOf (.d e.zero)))) v := by
  have ht := hC.ty he
  obtain ⟨d, h1, _, _, h4, _, h6, _⟩ := ht.desc
  obtain ⟨fs, rfl⟩ := h6 ha
  obtain ⟨hpl, hpos⟩ := h4 fs rfl
  obtain ⟨z, hz, hz1, hz2⟩ := ht.zero
  have hzr : RepDs η (ids σ) (B ++ blocks φ σ) w (Dat.cellsOf (.d e.zero)) z.cells.toList := cellsOf_rep (by simpa only [RepD] using hz2 (B ++ blocks φ σ) w)
  have hmp := mapM_places (w := w) (P := C.P) hC.tab fs.toList hpos
  have hpl2 : ∀ (i off : Nat) (ft : TypeId) (fe : TyI), e.flds[i]? = some (off, ft) → tyAt ft T = some fe → (fs.toList.map fun f => (f.offset, match C.P.info? f.type with | some i => i.size | none => 0)).toArray[i]? = some (off, fe.size) := fun i off ft fe hi hft => by
    rw [← hpl] at hi
    simp only [List.getElem?_map, Option.map_eq_some_iff] at hi
    obtain ⟨f, hf1, hf2⟩ := hi
    simp only [Prod.mk.injEq] at hf2
    obtain ⟨i0, z0, q1, q2, _⟩ := (hC.ty hft).info
    rw [← hf2.2] at q1
    rw [← hf2.1]
    simp only [List.getElem?_toArray, List.getElem?_map, hf1, Option.map_some, q1, q2]
  obtain ⟨cs', g1, g2⟩ := fill_parts ht hC.tab h1 hpl hM.mem.oneV hpl2 (fun x => ev_rep hM x) ps _ _ hf hzr
  refine ⟨.agg cs'.toArray, ?_, ?_⟩
  · have hmp2 : (fs.mapM (fun f => do pure (f.offset, ← Go.sizeOf f.type) : Field → Sem (Nat × Nat))).run C.P w = .ok (fs.toList.map fun f => (f.offset, match C.P.info? f.type with | some i => i.size | none => 0)).toArray w := by
      have e1 : fs.mapM (fun f => do pure (f.offset, ← Go.sizeOf f.type) : Field → Sem (Nat × Nat)) = (List.toArray <$> fs.toList.mapM (fun f => do pure (f.offset, ← Go.sizeOf f.type) : Field → Sem (Nat × Nat))) := by
        rw [Array.mapM_eq_mapM_toList]
      rw [e1, Sem.run_map, hmp]; rfl
    simp only [Instr.build, Sem.run_bind, hz, Result.andThen_ok, run_underlying h1, hmp2]
    simp only [Array.toArray_toList] at g1
    rw [g1]; rfl
  · exact rd_mkAgg g2
end

end Go.Sx
