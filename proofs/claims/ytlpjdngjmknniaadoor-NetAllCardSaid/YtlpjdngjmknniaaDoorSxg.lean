/- The walk is sound: operations on values. -/
import Derived.Test.YtlpjdngjmknniaaDoorSxf
namespace Go.Sx
open Go Go.RowKit Go.Reg

section
variable {C : Cx} {T : Tab} {B S : List Nat} {w0 w : World} {n : Nat} {fr : Fr} {σ : Sg} {η : Nat → Value} {φ : Nat → List Nat} {a : Act} {v vx vy : Value} {no : Prop}

theorem RD.int {k : IntKind} {m : Int} (h : RD B σ η φ w (.d (.int k m)) v) : v = .int k m := by
  obtain ⟨cs, h1, h2⟩ := h; simp only [RepD, RepC] at h1; subst h1; exact h2
theorem RD.bool {b : Bool} (h : RD B σ η φ w (.d (.bool b)) v) : v = .bool b := by
  obtain ⟨cs, h1, h2⟩ := h; simp only [RepD, RepC] at h1; subst h1; exact h2
theorem RD.prop {p : Prop} {i : Decidable p} (h : RD B σ η φ w (.d (.prop p i)) v) : v = .bool (decide p) := by
  obtain ⟨cs, h1, h2⟩ := h; simp only [RepD, RepC] at h1; subst h1; exact h2
theorem RD.str {s : ByteArray} (h : RD B σ η φ w (.d (.str s)) v) : v = .string s := by
  obtain ⟨cs, h1, h2⟩ := h; simp only [RepD, RepC] at h1; subst h1; exact h2
theorem RD.nilp (h : RD B σ η φ w (.d .nilp) v) : v = .pointer none := by
  obtain ⟨cs, h1, h2⟩ := h; simp only [RepD, RepC] at h1; subst h1; exact h2
theorem RD.nils (h : RD B σ η φ w (.d .nils) v) : v = .slice none 0 0 := by
  obtain ⟨cs, h1, h2⟩ := h; simp only [RepD, RepC] at h1; subst h1; exact h2
theorem RD.nilm (h : RD B σ η φ w (.d .nilm) v) : v = .map none := by
  obtain ⟨cs, h1, h2⟩ := h; simp only [RepD, RepC] at h1; subst h1; exact h2
theorem RD.nilf (h : RD B σ η φ w (.d .nilf) v) : v = .nilFunc := by
  obtain ⟨cs, h1, h2⟩ := h; simp only [RepD, RepC] at h1; subst h1; exact h2
theorem RD.nili (h : RD B σ η φ w (.d .nili) v) : v = .nilIface := by
  obtain ⟨cs, h1, h2⟩ := h; simp only [RepD, RepC] at h1; subst h1; exact h2

theorem rd_int (k : IntKind) (m : Int) : RD B σ η φ w (.d (.int k m)) (.int k m) := ⟨[_], by simp [RepD, RepC], rfl⟩
theorem rd_bool (b : Bool) : RD B σ η φ w (.d (.bool b)) (.bool b) := ⟨[_], by simp [RepD, RepC], rfl⟩
theorem rd_prop (p : Prop) (i : Decidable p) : RD B σ η φ w (.d (.prop p i)) (.bool (decide p)) := ⟨[_], by simp [RepD, RepC], rfl⟩
theorem rd_str (s : ByteArray) : RD B σ η φ w (.d (.str s)) (.string s) := ⟨[_], by simp [RepD, RepC], rfl⟩

/-- a value that is reckoned from values -/
def BinOk (P : Program) (op : BinOp) (t : TypeId) (vx vy : Value) (w : World) (B : List Nat) (σ : Sg) (η : Nat → Value) (φ : Nat → List Nat) (K : Dat → Prop) : Prop :=
  ∃ d v, K d ∧ (binOp op t vx vy).run P w = .ok v w ∧ RD B σ η φ w d v

theorem str_beq (s t : ByteArray) : (s.toList == t.toList) = decide (s = t) := by
  by_cases h : s = t
  · subst h; simp
  · have : s.toList ≠ t.toList := fun e => h (by
      rw [ByteArray.toList_eq, ByteArray.toList_eq] at e
      cases s; cases t; simp at e; simp [e])
    simp [h, this]

theorem sxInt_ok {P : Program} {op : BinOp} {t : TypeId} {k : IntKind} {x y : Int} {K : Dat → Prop} (h : sxInt op k x y K no) : no ∨ (BinOk P op t (.int k x) (.int k y) w B σ η φ K ∧ notShift op = true) := by
  unfold sxInt at h
  split at h
  · obtain ⟨m, h1, h2⟩ := h; exact .inr ⟨⟨_, _, h2, by simp [binOp_add, Op.intArith, h1], rd_int k m⟩, rfl⟩
  · obtain ⟨m, h1, h2⟩ := h; exact .inr ⟨⟨_, _, h2, by simp [binOp_sub, Op.intArith, h1], rd_int k m⟩, rfl⟩
  · obtain ⟨m, h1, h2⟩ := h; exact .inr ⟨⟨_, _, h2, by simp [binOp_mul, Op.intArith, h1], rd_int k m⟩, rfl⟩
  · obtain ⟨h0, m, h1, h2⟩ := h; exact .inr ⟨⟨_, _, h2, by simp [binOp_quo, Op.intDiv, h0, h1], rd_int k m⟩, rfl⟩
  · obtain ⟨h0, h2⟩ := h; exact .inr ⟨⟨_, _, h2, by simp [binOp_rem, Op.intDiv, h0], rd_int k _⟩, rfl⟩
  · exact .inr ⟨⟨_, _, h, by simp only [binOp_eql, Sem.run_pure]; rfl, rd_prop _ _⟩, rfl⟩
  · exact .inr ⟨⟨_, _, h, by simp only [binOp_neq, Sem.run_pure]; congr 2; by_cases e : x = y <;> simp [bne, e], rd_prop _ _⟩, rfl⟩
  · exact .inr ⟨⟨_, _, h, by simp only [binOp_lss, Sem.run_pure], rd_prop _ _⟩, rfl⟩
  · exact .inr ⟨⟨_, _, h, by simp only [binOp_leq, Sem.run_pure], rd_prop _ _⟩, rfl⟩
  · exact .inr ⟨⟨_, _, h, by simp only [binOp_gtr, Sem.run_pure], rd_prop _ _⟩, rfl⟩
  · exact .inr ⟨⟨_, _, h, by simp only [binOp_geq, Sem.run_pure], rd_prop _ _⟩, rfl⟩
  · exact .inl h

theorem sxStr_ok {P : Program} {op : BinOp} {t : TypeId} {x y : ByteArray} {K : Dat → Prop} (h : sxStr op x y K no) : no ∨ BinOk P op t (.string x) (.string y) w B σ η φ K := by
  unfold sxStr at h
  split at h
  · exact .inr ⟨_, _, h, by rw [binOp_string_eql, str_beq]; rfl, rd_prop _ _⟩
  · exact .inr ⟨_, _, h, by rw [binOp_string_neq, str_beq]; simp only [Sem.run_pure]; congr 2; simp, rd_prop _ _⟩
  · obtain ⟨h1, h2⟩ := h; exact .inr ⟨_, _, h2, by rw [binOp_string_add]; exact run_string_add_sum _ _ _ h1, rd_str _⟩
  · exact .inl h

theorem sxBool2_ok {P : Program} {op : BinOp} {t : TypeId} {x y : Bool} {p q : Prop} {ip : Decidable p} {iq : Decidable q} (hp : x = decide p) (hq : y = decide q) (ht : P.underlying t = some .bool) {K : Dat → Prop} (h : sxBool2 op p q K no) : no ∨ (BinOk P op t (.bool x) (.bool y) w B σ η φ K ∧ isEq op = true) := by
  subst hp; subst hq
  unfold sxBool2 at h
  split at h
  · refine .inr ⟨⟨_, _, h, ?_, rd_prop _ _⟩, rfl⟩
    simp only [binOp, Sem.run_bind, run_equal_bool w t _ _ ht, Result.andThen_ok, Sem.run_pure]
    congr 2
    by_cases h1 : p <;> by_cases h2 : q <;> simp [h1, h2]
  · refine .inr ⟨⟨_, _, h, ?_, rd_prop _ _⟩, rfl⟩
    simp only [binOp, Sem.run_bind, run_equal_bool w t _ _ ht, Result.andThen_ok, Sem.run_pure]
    congr 2
    by_cases h1 : p <;> by_cases h2 : q <;> simp [h1, h2]
  · exact .inl h

theorem TyOk.kd_desc {P : Program} {t : TypeId} {e : TyI} (h : TyOk P t e) : ∃ d, P.underlying t = some d ∧ e.kd = (match d with | .pointer _ => 1 | .slice _ => 2 | .map _ _ => 3 | .func _ _ _ => 4 | .interface _ => 5 | .struct _ => 6 | .string => 7 | .int _ => 8 | .bool => 9 | _ => 0) := by
  obtain ⟨d, h1, _, _, _, _, _, _, h2⟩ := h.desc
  exact ⟨d, h1, h2⟩
theorem TyOk.bool_desc {P : Program} {t : TypeId} {e : TyI} (h : TyOk P t e) (hk : e.kd = 9) : P.underlying t = some .bool := by
  obtain ⟨d, h1, h2⟩ := h.kd_desc
  rw [hk] at h2
  cases d <;> first | exact h1 | (simp at h2; done)

/-- how a nil value of a kind stands -/
def nilV : Nat → Value → Prop
  | 1, v => v = .pointer none
  | 2, v => v = .slice none 0 0
  | 3, v => v = .map none
  | 4, v => v = .nilFunc
  | 5, v => v = .nilIface
  | _, _ => False
def someV : Nat → Value → Prop
  | 1, v => ∃ a, v = .pointer (some a)
  | 2, v => ∃ a l c, v = .slice (some a) l c
  | 3, v => ∃ a, v = .map (some a)
  | 4, v => ∃ f p q, v = .func f p q
  | 5, v => ∃ t u, v = .iface t u
  | _, _ => False

theorem isNilLit_ok {kd : Nat} {y : Dat} (h : isNilLit kd y = true) (hy : RD B σ η φ w y vy) : nilV kd vy := by
  unfold isNilLit at h
  split at h
  · exact hy.nilp
  · exact hy.nils
  · exact hy.nilm
  · exact hy.nilf
  · exact hy.nili
  · cases h

theorem own_cells_val (hm : Mem C B S w0 σ η φ w) {i : Nat} {t : TypeId} {ds : List Dat} (h : sget i σ = some (.cells t ds)) : ∃ b cs, η i = .pointer (some ⟨b, 0, none⟩) ∧ φ i = [b] ∧ Blk w b t cs ∧ RepDs η (ids σ) (B ++ blocks φ σ) w ds cs := by
  obtain ⟨b, cs, h1, h2, h3, h4⟩ := hm.own _ (sget_mem h)
  exact ⟨b, cs, h1, h2, h3, h4⟩
theorem own_slice_val (hm : Mem C B S w0 σ η φ w) {i : Nat} {E k : Nat} {ds : List Da} (h : sget i σ = some (.slice E k ds)) : ∃ css, Sl E k id w (η i) css ∧ φ i = (η i).ownBlock.toList ∧ RepCss (B ++ blocks φ σ) w ds css ∧ (∀ x ∈ css, RowOk k x) := by
  obtain ⟨css, h1, h2, h3, h4⟩ := hm.own _ (sget_mem h)
  exact ⟨css, h1, h2, h3, h4⟩
theorem repCss_len {O : List Nat} {w : World} : ∀ {ds : List Da} {css : List (List Value)}, RepCss O w ds css → css.length = ds.length
  | [], css, h => by simp only [RepCss] at h; subst h; rfl
  | d :: ds, css, h => by
    simp only [RepCss] at h
    obtain ⟨c1, c2, rfl, _, h3⟩ := h
    simp [repCss_len h3]

theorem nilOf_ok (hm : Mem C B S w0 σ η φ w) {kd : Nat} {x : Dat} {b : Bool} (h : nilOf kd x σ = some b) (hx : RD B σ η φ w x vx) : (b = true ∧ nilV kd vx) ∨ (b = false ∧ someV kd vx) := by
  unfold nilOf at h
  split at h
  · split at h
    · simp at h; exact .inl ⟨h, hx.nilp⟩
    · simp at h
      obtain ⟨cs, h1, h2⟩ := hx
      simp only [RepD, RepC] at h1
      obtain ⟨bb, o, c, rfl, _⟩ := h1
      exact .inr ⟨h, _, h2⟩
    · simp at h
      obtain ⟨cs, h1, h2⟩ := hx
      simp only [RepD] at h1
      obtain ⟨_, bb, _, rfl⟩ := h1
      exact .inr ⟨h, _, h2⟩
    · simp at h
      obtain ⟨cs, h1, h2⟩ := hx
      simp only [RepD] at h1
      obtain ⟨_, bb, l, c, _, rfl⟩ := h1
      exact .inr ⟨h, _, h2⟩
    · split at h
      · rename_i hg
        simp at h
        obtain ⟨bb, cs, h1, _⟩ := own_cells_val hm hg
        obtain ⟨cs', h3, h4⟩ := hx
        simp only [RepD] at h3
        obtain ⟨_, rfl⟩ := h3
        refine .inr ⟨h, _, h4.trans h1⟩
      · cases h
    · cases h
  · split at h
    · simp at h; exact .inl ⟨h, hx.nils⟩
    · simp at h
      obtain ⟨cs, h1, h2⟩ := hx
      simp only [RepD, RepC] at h1
      obtain ⟨aa, c, css, rfl, _, _, _, _, h6⟩ := h1
      rcases h6 with h6 | ⟨b, o, rfl, _⟩
      · cases h6
      · exact .inr ⟨h, _, _, _, h2⟩
    · split at h
      · rename_i hg
        simp at h
        obtain ⟨css, hs, _, hr, _⟩ := own_slice_val hm hg
        obtain ⟨cs', h3, h4⟩ := hx
        simp only [RepD] at h3
        obtain ⟨_, rfl⟩ := h3
        have hl := repCss_len hr
        rcases hs.shape with ⟨_, he⟩ | ⟨g, cap, he, _⟩
        · rw [he] at hl; simp at hl
        · exact .inr ⟨h, _, _, _, h4.trans he⟩
      · cases h
    · cases h
  · split at h
    · simp at h; exact .inl ⟨h, hx.nilm⟩
    · cases h
  · split at h
    · simp at h; exact .inl ⟨h, hx.nilf⟩
    · simp at h
      obtain ⟨cs, h1, h2⟩ := hx
      simp only [RepD, RepC] at h1
      obtain ⟨fs, c, _, _, rfl⟩ := h1
      exact .inr ⟨h, _, _, _, h2⟩
    · simp at h
      obtain ⟨cs, h1, h2⟩ := hx
      simp only [RepD] at h1
      obtain ⟨fs, c, _, _, rfl⟩ := h1
      exact .inr ⟨h, _, _, _, h2⟩
    · cases h
  · split at h
    · simp at h; exact .inl ⟨h, hx.nili⟩
    · simp at h
      obtain ⟨cs, h1, h2⟩ := hx
      simp only [RepD, RepC] at h1
      obtain ⟨c, _, rfl⟩ := h1
      exact .inr ⟨h, _, _, h2⟩
    · simp at h
      obtain ⟨cs, h1, h2⟩ := hx
      simp only [RepD] at h1
      obtain ⟨c, _, rfl⟩ := h1
      exact .inr ⟨h, _, _, h2⟩
    · cases h
  · cases h

theorem equal_nil {P : Program} {t : TypeId} {e : TyI} (ht : TyOk P t e) {b : Bool} (hx : (b = true ∧ nilV e.kd vx) ∨ (b = false ∧ someV e.kd vx)) (hy : nilV e.kd vy) : (Op.equal t vx vy).run P w = .ok b w := by
  obtain ⟨d, h1, h2⟩ := ht.kd_desc
  unfold Op.equal
  rw [show Op.maxDepth = 9999 + 1 from rfl, Op.equalIn]
  simp only [Sem.run_bind, run_underlying h1, Result.andThen_ok]
  rcases hx with ⟨rfl, hx⟩ | ⟨rfl, hx⟩
  · cases d <;> simp only at h2 <;> rw [h2] at hx hy <;> simp only [nilV] at hx hy <;> subst hx <;> subst hy <;> rfl
  · cases d <;> simp only at h2 <;> rw [h2] at hx hy <;> simp only [nilV, someV] at hx hy <;> subst hy <;> (first | (obtain ⟨_, rfl⟩ := hx; rfl) | (obtain ⟨_, _, rfl⟩ := hx; rfl) | (obtain ⟨_, _, _, rfl⟩ := hx; rfl))

theorem sxNil_ok (hm : Mem C B S w0 σ η φ w) {t : TypeId} {e : TyI} (ht : TyOk C.P t e) {op : BinOp} {x y : Dat} (hx : RD B σ η φ w x vx) (hy : RD B σ η φ w y vy) {K : Dat → Prop} (h : sxNil e.kd op x y σ K no) :
    no ∨ (BinOk C.P op t vx vy w B σ η φ K ∧ isEq op = true ∧ (nilV e.kd vx ∨ someV e.kd vx) ∧ nilV e.kd vy) := by
  unfold sxNil at h
  split at h
  · rename_i h1 h2
    have g1 := isNilLit_ok h1 hy
    have g2 := nilOf_ok hm h2 hx
    have g3 := equal_nil (w := w) ht g2 g1
    refine .inr ⟨⟨_, _, h, ?_, rd_bool _⟩, rfl, g2.elim (fun h => .inl h.2) (fun h => .inr h.2), g1⟩
    have : binOp .eql t vx vy = (do pure (.bool (← Op.equal t vx vy))) := by
      generalize e.kd = kd at g1 g2
      match kd, g1 with
      | 1, h => simp only [nilV] at h; subst h; rcases g2 with ⟨_, g⟩ | ⟨_, g⟩ <;> simp only [nilV, someV] at g <;> (first | subst g | (obtain ⟨_, rfl⟩ := g)) <;> rfl
      | 2, h => simp only [nilV] at h; subst h; rcases g2 with ⟨_, g⟩ | ⟨_, g⟩ <;> simp only [nilV, someV] at g <;> (first | subst g | (obtain ⟨_, _, _, rfl⟩ := g)) <;> rfl
      | 3, h => simp only [nilV] at h; subst h; rcases g2 with ⟨_, g⟩ | ⟨_, g⟩ <;> simp only [nilV, someV] at g <;> (first | subst g | (obtain ⟨_, rfl⟩ := g)) <;> rfl
      | 4, h => simp only [nilV] at h; subst h; rcases g2 with ⟨_, g⟩ | ⟨_, g⟩ <;> simp only [nilV, someV] at g <;> (first | subst g | (obtain ⟨_, _, _, rfl⟩ := g)) <;> rfl
      | 5, h => simp only [nilV] at h; subst h; rcases g2 with ⟨_, g⟩ | ⟨_, g⟩ <;> simp only [nilV, someV] at g <;> (first | subst g | (obtain ⟨_, _, rfl⟩ := g)) <;> rfl
    rw [this]
    simp [g3]
  · rename_i h1 h2
    have g1 := isNilLit_ok h1 hy
    have g2 := nilOf_ok hm h2 hx
    have g3 := equal_nil (w := w) ht g2 g1
    refine .inr ⟨⟨_, _, h, ?_, rd_bool _⟩, rfl, g2.elim (fun h => .inl h.2) (fun h => .inr h.2), g1⟩
    have : binOp .neq t vx vy = (do pure (.bool (!(← Op.equal t vx vy)))) := by
      generalize e.kd = kd at g1 g2
      match kd, g1 with
      | 1, h => simp only [nilV] at h; subst h; rcases g2 with ⟨_, g⟩ | ⟨_, g⟩ <;> simp only [nilV, someV] at g <;> (first | subst g | (obtain ⟨_, rfl⟩ := g)) <;> rfl
      | 2, h => simp only [nilV] at h; subst h; rcases g2 with ⟨_, g⟩ | ⟨_, g⟩ <;> simp only [nilV, someV] at g <;> (first | subst g | (obtain ⟨_, _, _, rfl⟩ := g)) <;> rfl
      | 3, h => simp only [nilV] at h; subst h; rcases g2 with ⟨_, g⟩ | ⟨_, g⟩ <;> simp only [nilV, someV] at g <;> (first | subst g | (obtain ⟨_, rfl⟩ := g)) <;> rfl
      | 4, h => simp only [nilV] at h; subst h; rcases g2 with ⟨_, g⟩ | ⟨_, g⟩ <;> simp only [nilV, someV] at g <;> (first | subst g | (obtain ⟨_, _, _, rfl⟩ := g)) <;> rfl
      | 5, h => simp only [nilV] at h; subst h; rcases g2 with ⟨_, g⟩ | ⟨_, g⟩ <;> simp only [nilV, someV] at g <;> (first | subst g | (obtain ⟨_, _, rfl⟩ := g)) <;> rfl
    rw [this]
    simp [g3]
  · exact .inl h

theorem withTy_some {t : TypeId} {K : TyI → Prop} (h : withTy T t no K) : no ∨ ∃ e, tyAt t T = some e ∧ K e := by
  unfold withTy at h
  split at h
  · rename_i e he; exact .inr ⟨e, he, h⟩
  · exact .inl h
theorem withO_some {α : Type} {o : Option α} {K : α → Prop} (h : withO o no K) : no ∨ ∃ x, o = some x ∧ K x := by
  unfold withO at h
  split at h
  · rename_i x; exact .inr ⟨x, rfl, h⟩
  · exact .inl h
theorem withB_true {b : Bool} {K : Prop} (h : withB b no K) : no ∨ (b = true ∧ K) := by
  cases b
  · exact .inl h
  · exact .inr ⟨rfl, h⟩

theorem eqGuard_ok {P : Program} {op : BinOp} {t : TypeId} {x y : Operand} {kd : Nat} (hx : nilV kd vx ∨ someV kd vx) (hy : nilV kd vy) (hc : kd = 5 → y = .const .nilIface) : (eqGuard op t x y vx vy).run P w = .ok () w := by
  match kd, hy with
  | 1, h => simp only [nilV, someV] at h hx; subst h; rcases hx with rfl | ⟨_, rfl⟩ <;> simp [eqGuard]
  | 2, h => simp only [nilV, someV] at h hx; subst h; rcases hx with rfl | ⟨_, _, _, rfl⟩ <;> simp [eqGuard]
  | 3, h => simp only [nilV, someV] at h hx; subst h; rcases hx with rfl | ⟨_, rfl⟩ <;> simp [eqGuard]
  | 4, h => simp only [nilV, someV] at h hx; subst h; rcases hx with rfl | ⟨_, _, _, rfl⟩ <;> simp [eqGuard]
  | 5, h => simp only [nilV, someV] at h hx; subst h; rw [hc rfl]; rcases hx with rfl | ⟨_, _, rfl⟩ <;> simp [eqGuard]

theorem plain_nil {op : BinOp} {kd : Nat} {y : Operand} (ho : isEq op = true) (hx : nilV kd vx ∨ someV kd vx) (hy : nilV kd vy) (hc : kd = 5 → y = .const .nilIface) : (plain2 op vx vy || nilBoth op vx y) = true := by
  match kd, hy with
  | 1, h => simp only [nilV, someV] at h hx; subst h; rcases hx with rfl | ⟨_, rfl⟩ <;> simp [plain2, ho]
  | 2, h => simp only [nilV, someV] at h hx; subst h; rcases hx with rfl | ⟨_, _, _, rfl⟩ <;> simp [plain2, ho]
  | 3, h => simp only [nilV, someV] at h hx; subst h; rcases hx with rfl | ⟨_, rfl⟩ <;> simp [plain2, ho]
  | 4, h => simp only [nilV, someV] at h hx; subst h; rcases hx with rfl | ⟨_, _, _, rfl⟩ <;> simp [plain2, ho]
  | 5, h => simp only [nilV, someV] at h hx; subst h; rw [hc rfl]; rcases hx with rfl | ⟨_, _, rfl⟩ <;> simp [plain2, nilBoth, ho]

theorem sxBin_ok (hC : C.Ok T) (hm : Mem C B S w0 σ η φ w) {op : BinOp} {t : TypeId} {x y : Dat} {yo xo : Operand} (hx : RD B σ η φ w x vx) (hy : RD B σ η φ w y vy) {K : Dat → Prop} (h : sxBin T t op (isNilC yo) x y σ K no) :
    no ∨ (∃ d v, K d ∧ (do eqGuard op t xo yo vx vy; binOp op t vx vy).run C.P w = .ok v w ∧ RD B σ η φ w d v) ∧ (plain2 op vx vy || nilBoth op vx yo) = true := by
  have fin : ∀ {vx vy}, BinOk C.P op t vx vy w B σ η φ K → (eqGuard op t xo yo vx vy).run C.P w = .ok () w → (plain2 op vx vy || nilBoth op vx yo) = true → no ∨ (∃ d v, K d ∧ (do eqGuard op t xo yo vx vy; binOp op t vx vy).run C.P w = .ok v w ∧ RD B σ η φ w d v) ∧ (plain2 op vx vy || nilBoth op vx yo) = true := by
    rintro vx vy ⟨d, v, h1, h2, h3⟩ hg hp
    exact .inr ⟨⟨d, v, h1, by rw [Sem.run_bind, hg]; exact h2, h3⟩, hp⟩
  have hb : ∀ b : Bool, b = decide (b = true) := by simp
  unfold sxBin at h
  split at h
  · rcases withB_true h with h | ⟨hk, h1⟩
    · exact .inl h
    · simp at hk; subst hk
      rw [hx.int, hy.int]
      rcases sxInt_ok (w := w) (B := B) (σ := σ) (η := η) (φ := φ) (P := C.P) (t := t) h1 with h | ⟨h, h2⟩
      · exact .inl h
      · exact fin h (by rw [eqGuard_at_int]; rfl) (by simp [plain2, h2])
  · rw [hx.str, hy.str]
    rcases sxStr_ok (w := w) (B := B) (σ := σ) (η := η) (φ := φ) (P := C.P) (t := t) h with h | h
    · exact .inl h
    · exact fin h (by rw [eqGuard_at_string]; rfl) (by simp [plain2])
  · rcases withTy_some h with h | ⟨e, he, h⟩
    · exact .inl h
    rcases withB_true h with h | ⟨hk, h⟩
    · exact .inl h
    rw [hx.bool, hy.bool]
    rcases sxBool2_ok (w := w) (B := B) (σ := σ) (η := η) (φ := φ) (P := C.P) (t := t) (hb _) (hb _) ((hC.ty he).bool_desc (Nat.eq_of_beq_eq_true hk)) h with h | ⟨h, h2⟩
    · exact .inl h
    · exact fin h (by rw [eqGuard_at_bool]; rfl) (by simp [plain2, h2])
  · rcases withTy_some h with h | ⟨e, he, h⟩
    · exact .inl h
    rcases withB_true h with h | ⟨hk, h⟩
    · exact .inl h
    rw [hx.bool, hy.prop]
    rcases sxBool2_ok (w := w) (B := B) (σ := σ) (η := η) (φ := φ) (P := C.P) (t := t) (hb _) rfl ((hC.ty he).bool_desc (Nat.eq_of_beq_eq_true hk)) h with h | ⟨h, h2⟩
    · exact .inl h
    · exact fin h (by rw [eqGuard_at_bool]; rfl) (by simp [plain2, h2])
  · rcases withTy_some h with h | ⟨e, he, h⟩
    · exact .inl h
    rcases withB_true h with h | ⟨hk, h⟩
    · exact .inl h
    rw [hx.prop, hy.bool]
    rcases sxBool2_ok (w := w) (B := B) (σ := σ) (η := η) (φ := φ) (P := C.P) (t := t) rfl (hb _) ((hC.ty he).bool_desc (Nat.eq_of_beq_eq_true hk)) h with h | ⟨h, h2⟩
    · exact .inl h
    · exact fin h (by rw [eqGuard_at_bool]; rfl) (by simp [plain2, h2])
  · rcases withTy_some h with h | ⟨e, he, h⟩
    · exact .inl h
    rcases withB_true h with h | ⟨hk, h⟩
    · exact .inl h
    rw [hx.prop, hy.prop]
    rcases sxBool2_ok (w := w) (B := B) (σ := σ) (η := η) (φ := φ) (P := C.P) (t := t) rfl rfl ((hC.ty he).bool_desc (Nat.eq_of_beq_eq_true hk)) h with h | ⟨h, h2⟩
    · exact .inl h
    · exact fin h (by rw [eqGuard_at_bool]; rfl) (by simp [plain2, h2])
  · rcases withTy_some h with h | ⟨e, he, h⟩
    · exact .inl h
    rcases withB_true h with h | ⟨hk, h⟩
    · exact .inl h
    have hc : e.kd = 5 → yo = .const .nilIface := fun h5 => by
      rw [h5] at hk
      have : isNilC yo = true := by simpa using hk
      unfold isNilC at this
      split at this
      · rfl
      · cases this
    rcases sxNil_ok hm (hC.ty he) hx hy h with h | ⟨h, h2, h3, h4⟩
    · exact .inl h
    · exact fin h (eqGuard_ok h3 h4 hc) (plain_nil h2 h3 h4 hc)

theorem sxUn_ok {P : Program} {op : UnOp} {x : Dat} (hx : RD B σ η φ w x vx) {K : Dat → Prop} (h : sxUn op x K no) : no ∨ ∃ d v, K d ∧ (Op.unary op vx).run P w = .ok v w ∧ RD B σ η φ w d v := by
  unfold sxUn at h
  split at h
  · rw [hx.bool]; exact .inr ⟨_, _, h, rfl, rd_bool _⟩
  · rw [hx.prop]; exact .inr ⟨_, _, h, by simp [Op.unary], rd_prop _ _⟩
  · rw [hx.int]; obtain ⟨m, h1, h2⟩ := h; exact .inr ⟨_, _, h2, by simp [Op.unary, Op.intArith, h1], rd_int _ _⟩
  · exact .inl h
end

end Go.Sx
