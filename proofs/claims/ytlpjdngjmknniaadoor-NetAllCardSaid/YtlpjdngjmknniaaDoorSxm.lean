/- The walk is sound: every operation. -/
import Derived.Test.YtlpjdngjmknniaaDoorSxl
namespace Go.Sx
open Go Go.RowKit Go.Reg

section
variable {C : Cx} {T : Tab} {B S : List Nat} {w0 w : World} {n kd : Nat} {fr : Fr} {σ : Sg} {η : Nat → Value} {φ : Nat → List Nat} {a : Act} {v vx vy : Value} {no : Prop} {o : Oper} {K : Fr → Sg → Prop}

theorem opSem_or (hk : kd ≠ 5) (hk2 : kd ≠ 2) (h : ∀ (B S : List Nat) (w0 : World) (η : Nat → Value) (φ : Nat → List Nat) (a : Act) (w : World), Models C B S w0 n fr σ η φ a w →
    OpSem C n kd o K fr σ ∨ ((kd = 0 → dynPure a o = true) ∧ ((∃ v w', (execOp a.eval o).run C.P w = .ok (.value v) w' ∧ Good C B S w0 n K (a.put o.dst v) w') ∨ (∃ w', (execOp a.eval o).run C.P w = .ok .skip w' ∧ Good C B S w0 n K (a.put o.dst Go.undef) w')))) : OpSem C n kd o K fr σ := by
  by_cases hh : OpSem C n kd o K fr σ
  · exact hh
  · exact opSem_val hk hk2 (fun B S w0 η φ a w hM => (h B S w0 η φ a w hM).resolve_left hh)

theorem run_v {P : Program} {s : Sem Value} {w w' : World} (h : s.run P w = .ok v w') : (do pure (Next.value (← s)) : Sem Next).run P w = .ok (.value v) w' := run_val h
theorem run_u {P : Program} {s : Sem Unit} {w w' : World} (h : s.run P w = .ok () w') : (do s; pure Next.skip : Sem Next).run P w = .ok .skip w' := run_unit h

/-- an operation that reckons a value -/
theorem opSem_calc (hk : kd ≠ 5) (hk2 : kd ≠ 2) (hd : dstOk o.dst n = true) (h : ∀ (B S : List Nat) (w0 : World) (η : Nat → Value) (φ : Nat → List Nat) (a : Act) (w : World), Models C B S w0 n fr σ η φ a w →
    OpSem C n kd o K fr σ ∨ ∃ d v, K (putF o.dst d fr) σ ∧ (execOp a.eval o).run C.P w = .ok (.value v) w ∧ RD B σ η φ w d v ∧ (kd = 0 → dynPure a o = true)) : OpSem C n kd o K fr σ :=
  opSem_or hk hk2 fun B S w0 η φ a w hM => (h B S w0 η φ a w hM).imp id fun ⟨_, v, h1, h2, h3, h4⟩ => ⟨h4, .inl ⟨v, w, h2, good_put hM hd h3 h1⟩⟩

theorem force_if {d : Dat} {yes no' : Dat → Prop} {bad : Prop} (h : sxIf d yes no' bad) : bad ∨ (d = .d (.bool true) ∧ yes (.d (.bool true))) ∨ (d = .d (.bool false) ∧ no' (.d (.bool false))) ∨ ∃ p i, d = .d (.prop p i) ∧ (p → yes (.d (.bool true))) ∧ (¬ p → no' (.d (.bool false))) := by
  unfold sxIf at h
  split at h
  · exact .inr (.inl ⟨rfl, h⟩)
  · exact .inr (.inr (.inl ⟨rfl, h⟩))
  · exact .inr (.inr (.inr ⟨_, _, rfl, h.1, h.2⟩))
  · exact .inl h

theorem datas_rep {η : Nat → Value} {I O : List Nat} {w : World} : ∀ {xs : List Da} {css : List (List Value)}, RepDss η I O w (datas xs) css ↔ RepCss O w xs css
  | [], css => by simp [datas, RepDss, RepCss]
  | x :: xs, css => by simp only [datas, RepDss, RepCss, RepD, datas_rep (xs := xs)]
theorem datas_zip : ∀ (xs : List Da) (css : List (List Value)), List.zipWith toVD (datas xs) css = List.zipWith toV xs css
  | [], css => by simp [datas]
  | x :: xs, [] => by simp [datas]
  | x :: xs, c :: css => by simp [datas, toVD, datas_zip xs css]
theorem repDss_append {η : Nat → Value} {I O : List Nat} {w : World} : ∀ {xs ys : List Dat} {c1 c2 : List (List Value)}, RepDss η I O w xs c1 → RepDss η I O w ys c2 → RepDss η I O w (xs ++ ys) (c1 ++ c2) ∧ List.zipWith toVD (xs ++ ys) (c1 ++ c2) = List.zipWith toVD xs c1 ++ List.zipWith toVD ys c2
  | [], ys, c1, c2, h1, h2 => by simp only [RepDss] at h1; subst h1; simpa using h2
  | x :: xs, ys, c1, c2, h1, h2 => by
    simp only [RepDss] at h1
    obtain ⟨a1, a2, rfl, h3, h4⟩ := h1
    obtain ⟨g1, g2⟩ := repDss_append h4 h2
    exact ⟨⟨a1, a2 ++ c2, rfl, h3, g1⟩, by simp [g2]⟩

theorem rd_mkFunc {fn : Fn} {f c : List Dat} {fs cs : List (List Value)} (h1 : RepDss η (ids σ) (B ++ blocks φ σ) w f fs) (h2 : RepDss η (ids σ) (B ++ blocks φ σ) w c cs) : RD B σ η φ w (mkFunc fn f c) (.func fn (List.zipWith toVD f fs).toArray (List.zipWith toVD c cs).toArray) := by
  unfold mkFunc
  split
  · rename_i xs ys hx hy
    rw [allD_datas hx] at h1 ⊢
    rw [allD_datas hy] at h2 ⊢
    exact ⟨[_], by simp only [RepD, RepC]; exact ⟨fs, cs, datas_rep.1 h1, datas_rep.1 h2, by rw [datas_zip, datas_zip]⟩, rfl⟩
  · exact ⟨[_], by simp only [RepD]; exact ⟨fs, cs, h1, h2, rfl⟩, rfl⟩
theorem rd_mkIface {t : TypeId} {d : Dat} (h : RD B σ η φ w d v) : RD B σ η φ w (mkIface t d) (.iface t v) := by
  obtain ⟨cs, h1, rfl⟩ := h
  unfold mkIface
  split
  · rename_i x; exact ⟨[_], by simp only [RepD, RepC]; exact ⟨cs, by simpa only [RepD] using h1, rfl⟩, rfl⟩
  · exact ⟨[_], by simp only [RepD]; exact ⟨cs, h1, rfl⟩, rfl⟩

theorem rd_nth {ds : List Dat} {css : List (List Value)} (h : RepDss η (ids σ) (B ++ blocks φ σ) w ds css) : ∀ {m : Nat} {d : Dat}, fieldOf m ds = some d → ∃ v, (List.zipWith toVD ds css)[m]? = some v ∧ RD B σ η φ w d v := by
  induction ds generalizing css with
  | nil => intro m d hd; simp [fieldOf] at hd
  | cons x ds ih =>
    intro m d hd
    simp only [RepDss] at h
    obtain ⟨c1, c2, rfl, h1, h2⟩ := h
    cases m with
    | zero => simp only [fieldOf, Option.some.injEq] at hd; subst hd; exact ⟨_, rfl, c1, h1, rfl⟩
    | succ m => simp only [fieldOf] at hd; obtain ⟨v, g1, g2⟩ := ih h2 hd; exact ⟨v, by simpa using g1, g2⟩
theorem rd_dnth {ds : List Da} {css : List (List Value)} (h : RepCss (B ++ blocks φ σ) w ds css) : ∀ {m : Nat} {d : Da}, dfieldOf m ds = some d → ∃ v, (List.zipWith toV ds css)[m]? = some v ∧ RD B σ η φ w (.d d) v := by
  induction ds generalizing css with
  | nil => intro m d hd; simp [dfieldOf] at hd
  | cons x ds ih =>
    intro m d hd
    simp only [RepCss] at h
    obtain ⟨c1, c2, rfl, h1, h2⟩ := h
    cases m with
    | zero => simp only [dfieldOf, Option.some.injEq] at hd; subst hd; exact ⟨_, rfl, c1, by simpa only [RepD] using h1, rfl⟩
    | succ m => simp only [dfieldOf] at hd; obtain ⟨v, g1, g2⟩ := ih h2 hd; exact ⟨v, by simpa using g1, g2⟩

theorem kind5 {P : Program} {G : List FuncId} {o : Oper} (h : kindOf P G o = 5) : ∃ t x i c, o.op = .lookup t x i c := by
  unfold kindOf at h
  split at h <;> first | (cases h; done) | skip
  all_goals first | exact ⟨_, _, _, _, ‹_›⟩ | (exfalso; (repeat' split at h) <;> simp at h)
theorem kind2 {P : Program} {G : List FuncId} {o : Oper} (h : kindOf P G o = 2) : ∃ c f, o.op = .call c ∧ c.callee = .value (.func f) := by
  unfold kindOf at h
  split at h <;> first | (cases h; done) | skip
  all_goals first | (exfalso; (repeat' split at h) <;> simp at h; done) | skip
  rename_i c hc
  split at h
  · exfalso; (repeat' split at h) <;> simp at h
  · exact ⟨c, _, hc, ‹_›⟩
  · cases h

theorem call_ok {c : Call} (ho : o.op = .call c) {f : Operand} (hf : c.callee = .value f) {g : FuncId} {fs cs : List Dat} (hfun : ∀ (B S : List Nat) (w0 : World) (η : Nat → Value) (φ : Nat → List Nat) (a : Act) (w : World), Models C B S w0 n fr σ η φ a w → ∃ c1 c2, RepDss η (ids σ) (B ++ blocks φ σ) w fs c1 ∧ RepDss η (ids σ) (B ++ blocks φ σ) w cs c2 ∧ a.eval f = .func (.func g) (List.zipWith toVD fs c1).toArray (List.zipWith toVD cs c2).toArray)
    (hd : dstOk o.dst n = true) {q : Bool} (h : SxCall C q g (fs ++ (evs C.Γ fr c.args.toList ++ cs)) (fun d fr σ => K (putF o.dst d fr) σ) fr σ) (hM : Models C B S w0 n fr σ η φ a w) :
    o.wp C.P a w (fun a' w' => (q = true → Ext w w') ∧ Good C B S w0 n K a' w') No := by
  unfold SxCall at h
  obtain ⟨c1, c2, r1, r2, r3⟩ := hfun B S w0 η φ a w hM
  obtain ⟨c3, r4, r5⟩ := evs_rep hM c.args.toList
  obtain ⟨p1, p2⟩ := repDss_append r4 r2
  obtain ⟨p3, p4⟩ := repDss_append r1 p1
  obtain ⟨g1, g2⟩ := h B S w0 η φ n a w _ hM ⟨_, p3, rfl⟩
  rw [p4, p2, ← r5] at g1 g2
  have e : (List.zipWith toVD fs c1 ++ (List.map a.eval c.args.toList ++ List.zipWith toVD cs c2)).toArray = (List.zipWith toVD fs c1).toArray ++ c.args.map a.eval ++ (List.zipWith toVD cs c2).toArray := by
    apply Array.ext'; simp
  rw [e] at g1 g2
  unfold Oper.wp
  have hr : (execOp a.eval o).run C.P w = .ok (.enter g ((List.zipWith toVD fs c1).toArray ++ c.args.map a.eval ++ (List.zipWith toVD cs c2).toArray)) w := by
    simp only [execOp, ho, resolve, hf, r3, Deferred.ofValue, Sem.run_bind, Sem.run_pure, Result.andThen_ok, invoke]
    exact g1
  rw [hr, Oper.upon_enter]
  refine g2.mono ?_
  rintro e w' ⟨v, d, fr', σ', η', φ', rfl, hK, hM', hd', hq⟩
  exact ⟨hq, _, _, _, _, hM'.put hd hd', hK⟩

theorem sxOper_sound (hC : C.Ok T) {G : List FuncId} (hk : kindOf C.P G o = kd ∨ kd = 3) (h : sxOper C T n kd o K fr σ) : OpSem C n kd o K fr σ := by
  unfold sxOper at h
  rcases withB_true h with h | ⟨hd, h⟩
  · exact h
  have k5 : (∀ t x i c, o.op ≠ .lookup t x i c) → kd ≠ 5 := fun hn => by
    rintro rfl
    rcases hk with hk | hk
    · obtain ⟨t, x, i, c, e⟩ := kind5 hk; exact hn _ _ _ _ e
    · cases hk
  have k2 : (∀ c, o.op ≠ .call c) → kd ≠ 2 := fun hn => by
    rintro rfl
    rcases hk with hk | hk
    · obtain ⟨c, f, e, _⟩ := kind2 hk; exact hn _ e
    · cases hk
  have k2' : ∀ c, o.op = .call c → (∀ f, c.callee ≠ .value (.func f)) → kd ≠ 2 := fun c hc hn => by
    rintro rfl
    rcases hk with hk | hk
    · obtain ⟨c', f, e, e2⟩ := kind2 hk; rw [hc] at e; cases e; exact hn _ e2
    · cases hk
  split at h
  · -- move
    rename_i x ho
    refine opSem_calc (k5 (by simp [ho])) (k2 (by simp [ho])) hd fun B S w0 η φ a w hM => .inr ⟨_, a.eval x, RD.force h, ?_, ev_rep hM x, fun _ => by simp [dynPure, ho]⟩
    simp [execOp, ho]
  · -- assign
    rename_i x ho
    refine opSem_calc (k5 (by simp [ho])) (k2 (by simp [ho])) hd fun B S w0 η φ a w hM => .inr ⟨_, a.eval x, RD.force h, ?_, ev_rep hM x, fun _ => by simp [dynPure, ho]⟩
    simp [execOp, ho]
  · -- pick
    rename_i c x y ho
    refine opSem_calc (k5 (by simp [ho])) (k2 (by simp [ho])) hd fun B S w0 η φ a w hM => ?_
    have hc := ev_rep hM c
    have run : ∀ b : Bool, a.eval c = .bool b → (execOp a.eval o).run C.P w = .ok (.value (if b then a.eval x else a.eval y)) w := fun b hb => by simp [execOp, ho, hb, asBool]
    have dyn : kd = 0 → dynPure a o = true := fun _ => by simp [dynPure, ho]
    rcases force_if h with h | ⟨e, h⟩ | ⟨e, h⟩ | ⟨p, i, e, h1, h2⟩
    · exact .inl h
    · rw [e] at hc
      exact .inr ⟨_, _, RD.force h, run true hc.bool, by simpa using ev_rep hM x, dyn⟩
    · rw [e] at hc
      exact .inr ⟨_, _, RD.force h, run false hc.bool, by simpa using ev_rep hM y, dyn⟩
    · rw [e] at hc
      by_cases hp : p
      · exact .inr ⟨_, _, RD.force (h1 hp), run _ hc.prop, by simpa [hp] using ev_rep hM x, dyn⟩
      · exact .inr ⟨_, _, RD.force (h2 hp), run _ hc.prop, by simpa [hp] using ev_rep hM y, dyn⟩
  · -- alloc
    rename_i t ho
    rcases withTy_some h with h | ⟨e, he, h⟩
    · exact h
    rcases withO_some h with h | ⟨t0, ht0, h⟩
    · exact h
    rcases fresh_ok h with h | ⟨j, hj, h⟩
    · exact h
    refine opSem_or (k5 (by simp [ho])) (k2 (by simp [ho])) fun B S w0 η φ a w hM => .inr ⟨fun _ => by simp [dynPure, ho], .inl ?_⟩
    obtain ⟨z, hz, hz1, hz2⟩ := (hC.ty he).zero
    have hr : RepDs η (ids σ) (B ++ blocks φ σ) w (Dat.cellsOf (.d e.zero)) z.cells.toList := cellsOf_rep (by simpa only [RepD] using hz2 (B ++ blocks φ σ) w)
    obtain ⟨η', φ', M'⟩ := hM.newCells (t := t) hr hj hd
    rw [forceS_eq] at h
    refine ⟨_, _, ?_, _, _, _, _, M', h⟩
    simp only [execOp, ho]
    exact run_v (by simp [Instr.alloc, hz, newVar, newRow])
  · -- box
    rename_i t x ho
    rcases withB_true h with h | ⟨hst, h⟩
    · exact h
    rcases withO_some h with h | ⟨t0, ht0, h⟩
    · exact h
    rcases fresh_ok h with h | ⟨j, hj, h⟩
    · exact h
    refine opSem_or (k5 (by simp [ho])) (k2 (by simp [ho])) fun B S w0 η φ a w hM => .inr ⟨fun _ => by simp [dynPure, ho], .inl ?_⟩
    obtain ⟨cs, h1, h2⟩ := ev_rep hM x
    obtain ⟨η', φ', M'⟩ := hM.newCells (t := t) (cellsOf_rep h1) hj hd
    have hcl := (toVD_cells hM.mem.oneV h1 hst).1
    have h := RD.force h
    rw [forceS_eq] at h
    refine ⟨_, _, ?_, _, _, _, _, M', h⟩
    simp only [execOp, ho]
    have e1 : (a.eval x).cells = cs.toArray := by apply Array.ext'; rw [h2, hcl]
    exact run_v (by simp [Instr.box, newVar, newRow, e1])
  · -- build
    rename_i t ps ho
    rcases withTy_some h with h | ⟨e, he, h⟩
    · exact h
    rcases withB_true h with h | ⟨hb, h⟩
    · exact h
    simp only [Bool.and_eq_true] at hb
    refine opSem_calc (k5 (by simp [ho])) (k2 (by simp [ho])) hd fun B S w0 η φ a w hM => ?_
    obtain ⟨v, r1, r2⟩ := build_ok hC hM he hb.1 hb.2
    refine .inr ⟨_, v, RD.force h, ?_, r2, fun _ => by simp [dynPure, ho]⟩
    simp only [execOp, ho]
    refine run_v ?_
    have : (ps.map fun (x : Nat × Operand) => (x.1, a.eval x.2)) = (ps.toList.map fun p => (p.1, a.eval p.2)).toArray := by apply Array.ext'; simp
    rw [← this] at r1
    exact r1
  · -- buildSlice
    rename_i t m ps ho
    rcases withTy_some h with h | ⟨e, he, h⟩
    · exact h
    rcases withTy_some h with h | ⟨ee, hee, h⟩
    · exact h
    rcases withB_true h with h | ⟨hb, h⟩
    · exact h
    simp only [Bool.and_eq_true, decide_eq_true_eq, List.all_eq_true, beq_iff_eq] at hb
    obtain ⟨⟨⟨⟨⟨hk2, hm⟩, hm1⟩, hs1⟩, hix⟩, hall⟩ := hb
    have hk2 := Nat.eq_of_beq_eq_true hk2
    have hm := Nat.eq_of_beq_eq_true hm
    rcases withO_some h with h | ⟨xs, hxs, h⟩
    · exact h
    rcases withO_some h with h | ⟨t0, ht0, h⟩
    · exact h
    rcases fresh_ok h with h | ⟨j, hj, h⟩
    · exact h
    refine opSem_or (k5 (by simp [ho])) (k2 (by simp [ho])) fun B S w0 η φ a w hM => .inr ⟨fun _ => by simp [dynPure, ho], .inl ?_⟩
    have reps : ∀ l : List (Nat × Operand), (∀ p ∈ l, (ev C.Γ fr p.2).fits ee = true ∧ (ev C.Γ fr p.2).stor = true) → ∀ ys, allD (l.map fun p => ev C.Γ fr p.2) = some ys → ∃ css, RepCss (B ++ blocks φ σ) w ys css ∧ (l.map fun p => (a.eval p.2).cells.toList) = css ∧ ∀ x ∈ css, RowOk ee.size x := by
      intro l
      induction l with
      | nil => intro _ ys hy; simp [allD] at hy; subst hy; exact ⟨[], by simp [RepCss], rfl, by simp⟩
      | cons p l ih =>
        intro hl ys hy
        obtain ⟨f1, f2⟩ := hl p (by simp)
        obtain ⟨cs, h1, h2⟩ := ev_rep hM p.2
        have hcl := (toVD_cells hM.mem.oneV h1 f2).1
        have hone := repD_one hM.mem.oneV _ _ f2 h1
        have hlen := repD_len _ _ h1
        have hfit := fitsD_spec f1
        simp only [List.map_cons] at hy
        cases hev : ev C.Γ fr p.2 with
        | d x =>
          rw [hev] at hy h1
          simp only [allD] at hy
          split at hy
          · rename_i zs hz
            simp at hy; subst hy
            obtain ⟨css, q1, q2, q3⟩ := ih (fun p hp => hl p (by simp [hp])) zs hz
            refine ⟨cs :: css, ⟨cs, css, rfl, by simpa only [RepD] using h1, q1⟩, by simp [q2, h2, hcl], fun y hy => ?_⟩
            rcases List.mem_cons.1 hy with rfl | hy
            · exact ⟨by omega, hone⟩
            · exact q3 y hy
          · cases hy
        | _ => rw [hev] at hy; simp [allD] at hy
    obtain ⟨css, q1, q2, q3⟩ := reps ps.toList (fun p hp => by have := hall p hp; simpa using this) xs hxs
    have hcl : css.length = m := by rw [← q2]; simp; exact hm.symm
    have hvs : ∀ v ∈ ps.toList.map (fun p => a.eval p.2), v.cells.size = ee.size := fun v hv => by
      obtain ⟨p, hp, rfl⟩ := List.mem_map.1 hv
      have := (q3 (a.eval p.2).cells.toList (by rw [← q2]; exact List.mem_map.2 ⟨p, hp, rfl⟩)).1
      simpa using this
    have hr := run_buildSlice_ok (w := w) (hC.ty he) hk2 (hC.ty hee) hvs (by simp; omega) hs1
    have hlen : (ps.toList.map (fun p => a.eval p.2)).length = m := by simp; exact hm.symm
    have hpar : (((ps.toList.map (fun p => a.eval p.2)).zipIdx 0).map fun p => (p.2, p.1)).toArray = ps.map fun (x : Nat × Operand) => (x.1, a.eval x.2) := by
      apply Array.ext'
      simp only [Array.toList_map]
      have g : ∀ (l : List (Nat × Operand)) (i : Nat), l.map (·.1) = List.range' i l.length → ((l.map (fun p => a.eval p.2)).zipIdx i).map (fun p => (p.2, p.1)) = l.map (fun x => (x.1, a.eval x.2)) := by
        intro l
        induction l with
        | nil => intro i _; rfl
        | cons p l ih =>
          intro i hi
          simp only [List.map_cons, List.length_cons, List.range'_succ, List.cons.injEq] at hi
          simp only [List.map_cons, List.zipIdx_cons, hi.1, ih (i + 1) hi.2]
      refine g ps.toList 0 ?_
      rw [hix, List.range_eq_range', hm]; simp
    rw [hlen, hpar] at hr
    have e3 : (List.map (·.cells.toList) (ps.toList.map (fun p => a.eval p.2))) = css := by rw [← q2]; simp
    rw [e3] at hr
    have hsl := sl_new (E := e.elem) q3 (by rw [hcl]; unfold maxLen; omega) w
    rw [hcl] at hsl
    have M' := hM.add (o := .slice e.elem ee.size xs) (v := .slice (some ⟨w.heap.size, 0, none⟩) m m) (F := [w.heap.size]) (Tch.alloc w _ []) hj (by simp) (fun O' hl => ⟨css, hsl, rfl, RepCss.later hl _ _ q1, q3⟩) hd
    rw [forceS_eq] at h
    refine ⟨_, _, ?_, _, _, _, _, M'.perm (sins_perm _ _ _), h⟩
    simp only [execOp, ho]
    exact run_v hr
  · -- makeSlice
    rename_i t l c ho
    rcases withTy_some h with h | ⟨e, he, h⟩
    · exact h
    rcases withTy_some h with h | ⟨ee, hee, h⟩
    · exact h
    rcases withB_true h with h | ⟨hb, h⟩
    · exact h
    simp only [Bool.and_eq_true, decide_eq_true_eq] at hb
    obtain ⟨⟨hk2, hst⟩, hby⟩ := hb
    have hk2 := Nat.eq_of_beq_eq_true hk2
    split at h
    · rename_i k1 x k2' y hx hy
      obtain ⟨m, rfl, rfl, hm, h⟩ := h
      rcases withO_some h with h | ⟨t0, ht0, h⟩
      · exact h
      rcases fresh_ok h with h | ⟨j, hj, h⟩
      · exact h
      refine opSem_or (k5 (by simp [ho])) (k2 (by simp [ho])) fun B S w0 η φ a w hM => .inr ⟨fun _ => by simp [dynPure, ho], .inl ?_⟩
      obtain ⟨z, g1, g2, g3, g4⟩ := run_makeSlice_ok (w := w) (hC.ty he) hk2 (hC.ty hee) hst hby (k1 := k1) (k2 := k2') hm
      have ex : a.eval l = .int k1 m := by have := ev_rep hM l; rw [hx] at this; obtain ⟨cs, r1, r2⟩ := this; simp only [RepD, RepC] at r1; subst r1; exact r2
      have ey : a.eval c = .int k2' m := by have := ev_rep hM c; rw [hy] at this; obtain ⟨cs, r1, r2⟩ := this; simp only [RepD, RepC] at r1; subst r1; exact r2
      have hsl := sl_new (E := e.elem) (k := ee.size) (css := List.replicate m z) (fun x hx => by rw [List.eq_of_mem_replicate hx]; exact g2) (by simp; unfold mostLen at hm; unfold maxLen; omega) w
      rw [List.length_replicate] at hsl
      have M' := hM.add (o := .slice e.elem ee.size (List.replicate m ee.zero)) (v := .slice (some ⟨w.heap.size, 0, none⟩) m m) (F := [w.heap.size]) (Tch.alloc w _ []) hj (by simp) (fun O' hl => ⟨List.replicate m z, hsl, rfl, repCss_replicate (g3 _ _) m, fun x hx => by rw [List.eq_of_mem_replicate hx]; exact g2⟩) hd
      rw [forceS_eq] at h
      refine ⟨_, _, ?_, _, _, _, _, M'.perm (sins_perm _ _ _), h⟩
      simp only [execOp, ho, ex, ey]
      exact run_v g1
    · exact h
  · -- load
    rename_i t x ho
    refine opSem_calc (k5 (by simp [ho])) (k2 (by simp [ho])) hd fun B S w0 η φ a w hM => ?_
    rcases sxLoad_ok hC hM.mem (ev_rep hM x) h with h | ⟨d, v, h1, h2, h3⟩
    · exact .inl h
    · refine .inr ⟨d, v, h1, ?_, h3, fun _ => by simp [dynPure, ho]⟩
      simp only [execOp, ho]; exact run_v h2
  · -- store
    rename_i t x y ho
    refine opSem_or (k5 (by simp [ho])) (k2 (by simp [ho])) fun B S w0 η φ a w hM => ?_
    rcases sxStore_ok hC hM.mem (ev_rep hM x) (ev_rep hM y) h with h | ⟨σ', w', h1, h2, h3⟩
    · exact .inl h
    · refine .inr ⟨fun _ => by simp [dynPure, ho], .inr ⟨w', ?_, ?_⟩⟩
      · simp only [execOp, ho]; exact run_u h2
      · have M' : Models C B S w0 n fr σ' η φ a w' := ⟨h3.1, h3.frame hM.fr, hM.defers, hM.size⟩
        rw [forceS_eq] at h1
        exact ⟨_, _, _, _, M'.put hd ⟨[Go.undef], by simp [RepD, RepC], rfl⟩, h1⟩
  · -- nilCheck
    rename_i x ho
    refine opSem_calc (k5 (by simp [ho])) (k2 (by simp [ho])) hd fun B S w0 η φ a w hM => ?_
    have hx := ev_rep hM x
    have run : ∀ b off, a.eval x = .pointer (some ⟨b, off, none⟩) → (execOp a.eval o).run C.P w = .ok (.value (a.eval x)) w ∧ (kd = 0 → dynPure a o = true) := fun b off e => ⟨by simp [execOp, ho, e], fun _ => by simp [dynPure, ho, e]⟩
    have h := RD.force h
    split at h
    · rename_i y hev
      rw [hev] at hx
      obtain ⟨cs, g1, g2⟩ := id hx
      simp only [RepD, RepC] at g1
      obtain ⟨b, off, c, rfl, _⟩ := g1
      obtain ⟨r1, r2⟩ := run b off g2
      exact .inr ⟨_, _, h, r1, by rw [hev]; exact hx, r2⟩
    · rename_i i off hev
      rw [hev] at hx
      obtain ⟨cs, g1, g2⟩ := id hx
      simp only [RepD] at g1
      obtain ⟨_, b, _, rfl⟩ := g1
      obtain ⟨r1, r2⟩ := run b off g2
      exact .inr ⟨_, _, h, r1, by rw [hev]; exact hx, r2⟩
    · rename_i i k m off hev
      rw [hev] at hx
      obtain ⟨cs, g1, g2⟩ := id hx
      simp only [RepD] at g1
      obtain ⟨_, b, l, c, _, rfl⟩ := g1
      obtain ⟨r1, r2⟩ := run b _ g2
      exact .inr ⟨_, _, h, r1, by rw [hev]; exact hx, r2⟩
    · rename_i i hev
      rw [hev] at hx
      rcases withO_some h with h | ⟨ow, hg, h⟩
      · exact .inl h
      split at h
      · obtain ⟨b, cs, e1, _⟩ := own_cells_val hM.mem hg
        obtain ⟨cs', g1, g2⟩ := id hx
        simp only [RepD] at g1
        obtain ⟨_, rfl⟩ := g1
        obtain ⟨r1, r2⟩ := run b 0 (g2.trans (by rw [e1]; rfl))
        exact .inr ⟨_, _, h, r1, by rw [hev]; exact hx, r2⟩
      · exact .inl h
    · exact .inl h
  · -- binOp
    rename_i op t x y t' ho
    split at h
    · rename_i dx dy hpx hpy
      rcases withTy_some h with h | ⟨e, he, h⟩
      · exact h
      rcases withB_true h with h | ⟨hb, h⟩
      · exact h
      rcases withO_some h with h | ⟨p, hp, h⟩
      · exact h
      simp only [Bool.and_eq_true] at hb
      have hk0 : kd ≠ 0 := fun e => by rw [e] at hb; simp at hb
      refine opSem_calc (k5 (by simp [ho])) (k2 (by simp [ho])) hd fun B S w0 η φ a w hM => ?_
      rcases eq_ok hC he hb.1 hpx hpy (ev_rep hM x) (ev_rep hM y) hp h x y with h | ⟨d, v, h1, h2, h3⟩
      · exact .inl h
      · refine .inr ⟨d, v, h1, ?_, h3, fun e => absurd e hk0⟩
        simp only [execOp, ho]
        exact run_v h2
    refine opSem_calc (k5 (by simp [ho])) (k2 (by simp [ho])) hd fun B S w0 η φ a w hM => ?_
    rcases sxBin_ok (xo := x) hC hM.mem (ev_rep hM x) (ev_rep hM y) h with h | ⟨⟨d, v, h1, h2, h3⟩, h4⟩
    · exact .inl h
    · refine .inr ⟨d, v, h1, ?_, h3, fun _ => by simp only [dynPure, ho]; exact h4⟩
      simp only [execOp, ho]
      exact run_v h2
  · -- unOp
    rename_i op t x ho
    refine opSem_calc (k5 (by simp [ho])) (k2 (by simp [ho])) hd fun B S w0 η φ a w hM => ?_
    rcases sxUn_ok (w := w) (P := C.P) (ev_rep hM x) h with h | ⟨d, v, h1, h2, h3⟩
    · exact .inl h
    · refine .inr ⟨d, v, h1, ?_, h3, fun _ => by simp [dynPure, ho]⟩
      simp only [execOp, ho]; exact run_v h2
  · -- convert
    rename_i s t x ho
    rcases withTy_some h with h | ⟨e, he, h⟩
    · exact h
    rcases withTy_some h with h | ⟨e', he', h⟩
    · exact h
    refine opSem_calc (k5 (by simp [ho])) (k2 (by simp [ho])) hd fun B S w0 η φ a w hM => ?_
    split at h
    · rename_i k k' m hik hev
      obtain ⟨b, h1, h2⟩ := h
      have hx := ev_rep hM x
      rw [hev] at hx
      obtain ⟨d, g1, _, _, _, _, _, g2, _⟩ := (hC.ty he).desc
      obtain ⟨d', g3, _⟩ := (hC.ty he').desc
      have := g2 k hik
      subst this
      refine .inr ⟨_, .int k b, h2, ?_, rd_int k b, fun _ => by simp [dynPure, ho, hx.int]⟩
      simp only [execOp, ho]
      refine run_v ?_
      rw [hx.int]
      simp only [convert, Sem.run_bind, run_underlying g3, run_underlying g1, Result.andThen_ok]
      simp [Conv.intToInt, h1]
    · exact .inl h
  · -- makeInterface
    rename_i t x ho
    rcases withTy_some h with h | ⟨e, he, h⟩
    · exact h
    rcases withB_true h with h | ⟨hb, h⟩
    · exact h
    refine opSem_calc (k5 (by simp [ho])) (k2 (by simp [ho])) hd fun B S w0 η φ a w hM => ?_
    refine .inr ⟨_, .iface t (a.eval x), RD.force h, ?_, rd_mkIface (ev_rep hM x), fun _ => by simp [dynPure, ho]⟩
    simp only [execOp, ho]
    refine run_v ?_
    obtain ⟨d, h1, h2⟩ := (hC.ty he).kd_desc
    simp only [Instr.makeInterface, Sem.run_bind, run_underlying h1, Result.andThen_ok]
    have hne : e.kd ≠ 5 := fun h => by rw [h] at hb; cases hb
    split
    · rename_i ms; exact absurd h2 hne
    · rfl
  · -- makeFunc
    rename_i f p q ho
    refine opSem_calc (k5 (by simp [ho])) (k2 (by simp [ho])) hd fun B S w0 η φ a w hM => ?_
    obtain ⟨c1, r1, r2⟩ := evs_rep hM p.toList
    obtain ⟨c2, r3, r4⟩ := evs_rep hM q.toList
    refine .inr ⟨_, _, RD.force h, ?_, rd_mkFunc r1 r3, fun _ => by simp [dynPure, ho]⟩
    simp only [execOp, ho]
    refine run_v ?_
    rw [← r2, ← r4]
    simp only [Instr.makeFunc, Sem.run_pure]
    congr 2 <;> (apply Array.ext'; simp)
  · -- fieldAddr
    rename_i t x m ho
    refine opSem_calc (k5 (by simp [ho])) (k2 (by simp [ho])) hd fun B S w0 η φ a w hM => ?_
    rcases sxFieldAddr_ok hC hM.mem (ev_rep hM x) h with h | ⟨d, v, h1, h2, h3⟩
    · exact .inl h
    · refine .inr ⟨d, v, h1, ?_, h3, fun _ => by simp [dynPure, ho]⟩
      simp only [execOp, ho]; exact run_v h2
  · -- indexAddr
    rename_i t x ix ho
    refine opSem_calc (k5 (by simp [ho])) (k2 (by simp [ho])) hd fun B S w0 η φ a w hM => ?_
    rcases sxIndexAddr_ok hC hM.mem (ev_rep hM x) (ev_rep hM ix) h with h | ⟨d, v, h1, h2, h3⟩
    · exact .inl h
    · refine .inr ⟨d, v, h1, ?_, h3, fun _ => by simp [dynPure, ho]⟩
      simp only [execOp, ho]; exact run_v h2
  · -- index
    rename_i t x ix ho
    rcases withTy_some h with h | ⟨e, he, h⟩
    · exact h
    rcases withB_true h with h | ⟨hb, h⟩
    · exact h
    refine opSem_calc (k5 (by simp [ho])) (k2 (by simp [ho])) hd fun B S w0 η φ a w hM => ?_
    split at h
    · rename_i s k i hev hev2
      obtain ⟨j, rfl, hj, h⟩ := h
      have hx := ev_rep hM x
      have hi := ev_rep hM ix
      rw [hev] at hx
      rw [hev2] at hi
      obtain ⟨d, g1, g2⟩ := (hC.ty he).kd_desc
      have hne := Nat.eq_of_beq_eq_true hb
      rw [hne] at g2
      cases d <;> simp at g2
      refine .inr ⟨_, _, h, ?_, rd_int _ _, fun _ => by simp [dynPure, ho]⟩
      simp only [execOp, ho]
      refine run_v ?_
      rw [hx.str, hi.int]
      simp only [Instr.index, asIntOf, Sem.run_bind, Sem.run_pure, Result.andThen_ok, run_underlying g1]
      simp [hj]
    · exact .inl h
  · -- field
    rename_i t x m ho
    refine opSem_calc (k5 (by simp [ho])) (k2 (by simp [ho])) hd fun B S w0 η φ a w hM => ?_
    rcases sxField_ok hC (ev_rep hM x) h with h | ⟨d, v, h1, h2, h3⟩
    · exact .inl h
    · refine .inr ⟨d, v, h1, ?_, h3, fun _ => by simp [dynPure, ho]⟩
      simp only [execOp, ho]; exact run_v h2
  · -- slice
    rename_i t x lo hi mx ho
    refine opSem_calc (k5 (by simp [ho])) (k2 (by simp [ho])) hd fun B S w0 η φ a w hM => ?_
    have hopt : ∀ (q : Option Operand) (d : Dat), q.map (ev C.Γ fr) = some d → ∃ v, q.map a.eval = some v ∧ RD B σ η φ w d v := fun q d hq => by
      cases q with
      | none => cases hq
      | some x => simp at hq; subst hq; exact ⟨_, rfl, ev_rep hM x⟩
    have hopt0 : ∀ (q : Option Operand), q.map (ev C.Γ fr) = none → q.map a.eval = none := fun q hq => by
      cases q with
      | none => rfl
      | some x => cases hq
    rcases sxSlice_ok hC (vlo := lo.map a.eval) (vhi := hi.map a.eval) (vmx := mx.map a.eval) (ev_rep hM x) (hopt lo) (hopt0 lo) (hopt hi) (hopt0 hi) (hopt0 mx) h with h | ⟨d, v, h1, h2, h3⟩
    · exact .inl h
    · refine .inr ⟨d, v, h1, ?_, h3, fun _ => by simp [dynPure, ho]⟩
      simp only [execOp, ho]; exact run_v h2
  · -- extract
    rename_i x m ho
    refine opSem_calc (k5 (by simp [ho])) (k2 (by simp [ho])) hd fun B S w0 η φ a w hM => ?_
    have hx := ev_rep hM x
    have run : ∀ (vs : List Value) v, a.eval x = .tuple vs.toArray → vs[m]? = some v → (execOp a.eval o).run C.P w = .ok (.value v) w := fun vs v e e2 => by
      simp only [execOp, ho, e, Instr.extract]
      simp [e2]
    split at h
    · rename_i ds hev
      rw [hev] at hx
      rcases withO_some h with h | ⟨d, hdd, h⟩
      · exact .inl h
      obtain ⟨cs, g1, g2⟩ := hx
      simp only [RepD, RepC] at g1
      obtain ⟨css, g3, rfl⟩ := g1
      obtain ⟨v, q1, q2⟩ := rd_dnth (η := η) g3 hdd
      exact .inr ⟨_, v, h, run _ v g2 q1, q2, fun _ => by simp [dynPure, ho]⟩
    · rename_i ds hev
      rw [hev] at hx
      rcases withO_some h with h | ⟨d, hdd, h⟩
      · exact .inl h
      obtain ⟨cs, g1, g2⟩ := hx
      simp only [RepD] at g1
      obtain ⟨css, g3, rfl⟩ := g1
      obtain ⟨v, q1, q2⟩ := rd_nth g3 hdd
      exact .inr ⟨_, v, RD.force h, run _ v g2 q1, q2, fun _ => by simp [dynPure, ho]⟩
    · exact .inl h
  · -- call
    rename_i c ho
    have exec : ∀ (b : Builtin) (w w' : World) (a : Act) (v : Value), c.callee = .builtin b → (builtin b c.argTypes o.type (c.args.map fun | .const _ => true | _ => false) (c.args.map a.eval)).run C.P w = .ok (.value v) w' → (execOp a.eval o).run C.P w = .ok (.value v) w' := fun b w w' a v hb hr => by
      simp only [execOp, ho, resolve, hb, Sem.run_bind, Sem.run_pure, Result.andThen_ok, invoke]
      exact hr
    split at h
    · rename_i hc
      split at h
      · rename_i x t hx ht
        refine opSem_calc (k5 (by simp [ho])) (k2' c ho (by simp [hc])) hd fun B S w0 η φ a w hM => ?_
        rcases sxLen_ok hC hM.mem (ev_rep hM x) o.type h with h | ⟨d, v, h1, h2, h3⟩
        · exact .inl h
        · have e1 : c.args = #[x] := by apply Array.ext'; simpa using hx
          have e2 : c.argTypes = #[t] := by apply Array.ext'; simpa using ht
          refine .inr ⟨d, v, h1, exec .len w w a v hc ?_, h3, fun _ => by simp [dynPure, ho]⟩
          simp only [builtin, e1, e2, List.map_toArray, List.map_cons, List.map_nil]
          exact run_v h2
      · exact h
    · rename_i hc
      split at h
      · rename_i x y t t' hx ht
        rcases withB_true h with h | ⟨hb, h9⟩
        · exact h
        have hb := Nat.eq_of_beq_eq_true hb
        subst hb
        refine opSem_or (k5 (by simp [ho])) (k2' c ho (by simp [hc])) fun B S w0 η φ a w hM => ?_
        rcases sxAppend_ok hC hM hd (ev_rep hM x) (ev_rep hM y) o.type h9 with h | ⟨v, w', h1, h2⟩
        · exact .inl h
        · have e1 : c.args = #[x, y] := by apply Array.ext'; simpa using hx
          have e2 : c.argTypes = #[t, t] := by apply Array.ext'; simpa using ht
          refine .inr ⟨fun _ => by simp [dynPure, ho], .inl ⟨v, w', exec .append w w' a v hc ?_, h2⟩⟩
          simp only [builtin, e1, e2, List.map_toArray, List.map_cons, List.map_nil]
          exact run_v h1
      · exact h
    · rename_i hc
      refine opSem_calc (k5 (by simp [ho])) (k2' c ho (by simp [hc])) hd fun B S w0 η φ a w hM => ?_
      split at h
      · rename_i k x k' y hl
        obtain ⟨p, q, hpq⟩ : ∃ p q, c.args.toList = [p, q] := by
          have := congrArg List.length hl
          simp at this
          have this : c.args.toList.length = 2 := by simpa using this
          generalize c.args.toList = l at this
          rcases l with _ | ⟨p, _ | ⟨q, _ | ⟨r, l⟩⟩⟩ <;> simp at this
          exact ⟨p, q, rfl⟩
        rw [hpq] at hl
        simp at hl
        have hp := ev_rep hM p
        have hq := ev_rep hM q
        rw [hl.1] at hp
        rw [hl.2] at hq
        have e1 : c.args = #[p, q] := by apply Array.ext'; simpa using hpq
        refine .inr ⟨_, .int k (min x y), h, exec .min w w a _ hc ?_, rd_int _ _, fun _ => by simp [dynPure, ho]⟩
        simp only [builtin, e1, List.map_toArray, List.map_cons, List.map_nil, hp.int, hq.int]
        refine run_v ?_
        simp [Builtin.min_, Builtin.min2]
        omega
      · exact .inl h
    · rename_i hc
      refine opSem_calc (k5 (by simp [ho])) (k2' c ho (by simp [hc])) hd fun B S w0 η φ a w hM => ?_
      split at h
      · rename_i k x k' y hl
        obtain ⟨p, q, hpq⟩ : ∃ p q, c.args.toList = [p, q] := by
          have := congrArg List.length hl
          simp at this
          have this : c.args.toList.length = 2 := by simpa using this
          generalize c.args.toList = l at this
          rcases l with _ | ⟨p, _ | ⟨q, _ | ⟨r, l⟩⟩⟩ <;> simp at this
          exact ⟨p, q, rfl⟩
        rw [hpq] at hl
        simp at hl
        have hp := ev_rep hM p
        have hq := ev_rep hM q
        rw [hl.1] at hp
        rw [hl.2] at hq
        have e1 : c.args = #[p, q] := by apply Array.ext'; simpa using hpq
        refine .inr ⟨_, .int k (max x y), h, exec .max w w a _ hc ?_, rd_int _ _, fun _ => by simp [dynPure, ho]⟩
        simp only [builtin, e1, List.map_toArray, List.map_cons, List.map_nil, hp.int, hq.int]
        refine run_v ?_
        simp [Builtin.max_, Builtin.max2]
        omega
      · exact .inl h
    · rename_i f hc
      have fin : ∀ {g : FuncId} {fs cs : List Dat}, SxCall C (Nat.beq kd 2) g (fs ++ (evs C.Γ fr c.args.toList ++ cs)) (fun d fr σ => K (putF o.dst d fr) σ) fr σ → (∀ (B S : List Nat) (w0 : World) (η : Nat → Value) (φ : Nat → List Nat) (a : Act) (w : World), Models C B S w0 n fr σ η φ a w → ∃ c1 c2, RepDss η (ids σ) (B ++ blocks φ σ) w fs c1 ∧ RepDss η (ids σ) (B ++ blocks φ σ) w cs c2 ∧ a.eval f = .func (.func g) (List.zipWith toVD fs c1).toArray (List.zipWith toVD cs c2).toArray) → OpSem C n kd o K fr σ := by
        intro g fs cs h hfun
        unfold OpSem
        intro B S w0 η φ a w hM
        have hw := call_ok ho hc hfun hd h hM
        have h5 := k5 (by simp [ho])
        split
        · refine ⟨by simp [dynPure, ho], ?_⟩
          exact Oper.wp_imp (fun a w h => h.2) hw
        · exact absurd rfl h5
        · exact Oper.wp_imp (fun a w h => ⟨h.1 rfl, h.2⟩) hw
        · exact Oper.wp_imp (fun a w h => h.2) hw
      split at h
      · rename_i g fs cs hev
        refine fin h fun B S w0 η φ a w hM => ?_
        have hx := ev_rep hM f
        rw [hev] at hx
        obtain ⟨cc, g1, g2⟩ := hx
        simp only [RepD, RepC] at g1
        obtain ⟨c1, c2, r1, r2, rfl⟩ := g1
        exact ⟨c1, c2, datas_rep.2 r1, datas_rep.2 r2, by rw [datas_zip, datas_zip]; exact g2⟩
      · rename_i g fs cs hev
        refine fin h fun B S w0 η φ a w hM => ?_
        have hx := ev_rep hM f
        rw [hev] at hx
        obtain ⟨cc, g1, g2⟩ := hx
        simp only [RepD] at g1
        obtain ⟨c1, c2, r1, r2, rfl⟩ := g1
        exact ⟨c1, c2, r1, r2, g2⟩
      · exact h
    · exact h
  · exact h
end

end Go.Sx
