/- The walk is sound: operands, tests, operations on values. -/
import Derived.Test.YtlpjdngjmknniaaDoorSxe
import Derived.WalkKit
import Derived.WalkSpells
import Derived.WalkLawsBesides
namespace Go.Sx
open Go Go.RowKit Go.Reg

/-! ### checks by the kernel: the table -/
def valB : Value → Value → Bool
  | .int k n, .int k' n' => decide (k = k') && decide (n = n')
  | .bool b, .bool c => b == c
  | .string s, .string t => decide (s = t)
  | .pointer none, .pointer none => true
  | .slice none 0 0, .slice none 0 0 => true
  | .map none, .map none => true
  | .nilFunc, .nilFunc => true
  | .nilIface, .nilIface => true
  | _, _ => false
theorem valB_eq {a b : Value} (h : valB a b = true) : a = b := by
  unfold valB at h
  split at h <;> simp at h <;> simp [h]
def valsB : List Value → List Value → Bool
  | [], [] => true
  | a :: as, b :: bs => valB a b && valsB as bs
  | _, _ => false
theorem valsB_eq : ∀ {a b : List Value}, valsB a b = true → a = b
  | [], [], _ => rfl
  | a :: as, b :: bs, h => by
    simp only [valsB, Bool.and_eq_true] at h
    rw [valB_eq h.1, valsB_eq h.2]
  | [], _ :: _, h => by simp [valsB] at h
  | _ :: _, [], h => by simp [valsB] at h

mutual
def zcells : Da → Option (List Value)
  | .int k n => some [.int k n]
  | .bool b => some [.bool b]
  | .str s => some [.string s]
  | .nilp => some [.pointer none]
  | .nils => some [.slice none 0 0]
  | .nilm => some [.map none]
  | .nilf => some [.nilFunc]
  | .nili => some [.nilIface]
  | .agg ds => zcellss ds
  | _ => none
def zcellss : List Da → Option (List Value)
  | [] => some []
  | d :: ds => match zcells d, zcellss ds with
    | some a, some b => some (a ++ b)
    | _, _ => none
end
mutual
theorem repC_zcells {O : List Nat} {w : World} : ∀ (d : Da) (cs : List Value), zcells d = some cs → RepC O w d cs
  | .int k n, cs, h => by simp only [zcells, Option.some.injEq] at h; simp only [RepC]; exact h.symm
  | .bool b, cs, h => by simp only [zcells, Option.some.injEq] at h; simp only [RepC]; exact h.symm
  | .str s, cs, h => by simp only [zcells, Option.some.injEq] at h; simp only [RepC]; exact h.symm
  | .nilp, cs, h => by simp only [zcells, Option.some.injEq] at h; simp only [RepC]; exact h.symm
  | .nils, cs, h => by simp only [zcells, Option.some.injEq] at h; simp only [RepC]; exact h.symm
  | .nilm, cs, h => by simp only [zcells, Option.some.injEq] at h; simp only [RepC]; exact h.symm
  | .nilf, cs, h => by simp only [zcells, Option.some.injEq] at h; simp only [RepC]; exact h.symm
  | .nili, cs, h => by simp only [zcells, Option.some.injEq] at h; simp only [RepC]; exact h.symm
  | .agg ds, cs, h => by simp only [zcells] at h; simp only [RepC]; exact repCs_zcells ds cs h
  | .undef, cs, h => by simp [zcells] at h
  | .prop _ _, cs, h => by simp [zcells] at h
  | .tuple _, cs, h => by simp [zcells] at h
  | .iface _ _, cs, h => by simp [zcells] at h
  | .ref _, cs, h => by simp [zcells] at h
  | .list _ _, cs, h => by simp [zcells] at h
  | .func _ _ _, cs, h => by simp [zcells] at h
  | .raw _, cs, h => by simp [zcells] at h
theorem repCs_zcells {O : List Nat} {w : World} : ∀ (ds : List Da) (cs : List Value), zcellss ds = some cs → RepCs O w ds cs
  | [], cs, h => by simp only [zcellss, Option.some.injEq] at h; simp only [RepCs]; exact h.symm
  | d :: ds, cs, h => by
    simp only [zcellss] at h
    cases h1 : zcells d with
    | none => rw [h1] at h; cases h
    | some a =>
      cases h2 : zcellss ds with
      | none => rw [h1, h2] at h; cases h
      | some b =>
        rw [h1, h2] at h
        simp only [Option.some.injEq] at h
        exact ⟨a, b, h.symm, repC_zcells d a h1, repCs_zcells ds b h2⟩
end

def vAgg : Value → Bool
  | .agg _ => true
  | _ => false
/-- an entry of the table, held against the program by the kernel -/
def tyB (P : Program) (t : TypeId) (e : TyI) : Bool :=
  match P.info? t, P.underlying t with
  | some i, some d => Nat.beq i.size e.size && Nat.beq i.bytes e.bytes &&
      (match i.zero, zcells e.zero with
        | some z, some cs => valsB z.cells.toList cs && (vAgg z == e.agg)
        | _, _ => false) && ((e.zero.isAgg == e.agg) && Nat.beq e.zero.size e.size) &&
      (match d with
        | .struct fs => e.agg && decide (fs.toList.map (fun f => (f.offset, f.type)) = e.flds) && fs.toList.all (fun f => match P.info? f.type with | some i => Nat.blt 0 i.size | none => false)
        | .array _ _ => false
        | .slice el => !e.agg && Nat.beq el e.elem
        | .int k => !e.agg && decide (e.ik = some k)
        | _ => !e.agg) &&
      ((match d with | .int _ => false | _ => true) == e.ik.isNone) &&
      Nat.beq e.kd (match d with | .pointer _ => 1 | .slice _ => 2 | .map _ _ => 3 | .func _ _ _ => 4 | .interface _ => 5 | .struct _ => 6 | .string => 7 | .int _ => 8 | .bool => 9 | _ => 0) &&
      (!e.cmp || (match d with | .struct fs => !(P.stoodInHeld t) && !(P.eqGuardType P.depth t) && fs.toList.all (fun f => f.name != "_") | _ => false))
  | _, _ => false
def tabB (P : Program) : Tab → Bool
  | [] => true
  | (t, e) :: l => tyB P t e && tabB P l

theorem tabB_at {P : Program} : ∀ {T : Tab}, tabB P T = true → ∀ {t : TypeId} {e : TyI}, tyAt t T = some e → tyB P t e = true
  | [], _, t, e, h => by simp [tyAt] at h
  | (u, x) :: l, hT, t, e, h => by
    simp only [tabB, Bool.and_eq_true] at hT
    rcases beq_cases u t with ⟨hb, he⟩ | ⟨hb, he⟩
    · simp only [tyAt, hb, Option.some.injEq] at h
      subst he; subst h; exact hT.1
    · simp only [tyAt, hb] at h
      exact tabB_at hT.2 h

structure TyOk (P : Program) (t : TypeId) (e : TyI) : Prop where
  zsize : e.zero.size = e.size
  cmp : e.cmp = true → ∃ fs, P.underlying t = some (.struct fs) ∧ P.stoodInHeld t = false ∧ P.eqGuardType P.depth t = false ∧ ∀ f ∈ fs.toList, f.name ≠ "_"
  info : ∃ i z, P.info? t = some i ∧ i.size = e.size ∧ i.bytes = e.bytes ∧ i.zero = some z ∧ z = toV e.zero z.cells.toList ∧ (∀ O w, RepC O w e.zero z.cells.toList)
  desc : ∃ d, P.underlying t = some d ∧ (match d with | .struct _ | .array _ _ => true | _ => false) = e.agg ∧ (∀ el, d = .slice el → el = e.elem) ∧
    (∀ fs, d = .struct fs → fs.toList.map (fun f => (f.offset, f.type)) = e.flds ∧ ∀ f ∈ fs.toList, ∃ i, P.info? f.type = some i ∧ 0 < i.size) ∧
    (∀ n el, d ≠ .array n el) ∧ (e.agg = true → ∃ fs, d = .struct fs) ∧ (∀ k, e.ik = some k → d = .int k) ∧ e.kd = (match d with | .pointer _ => 1 | .slice _ => 2 | .map _ _ => 3 | .func _ _ _ => 4 | .interface _ => 5 | .struct _ => 6 | .string => 7 | .int _ => 8 | .bool => 9 | _ => 0)

theorem toV_agg_cells {z : Value} {d : Da} {cs : List Value} (h1 : z.cells.toList = cs) (h2 : vAgg z = d.isAgg) (h3 : d.isAgg = false → z = toV d [z]) : z = toV d cs := by
  cases z with
  | agg xs =>
    cases d <;> first | (simp [Da.isAgg, vAgg] at h2; done) | (simp only [Value.cells] at h1; subst h1; simp [toV])
  | _ =>
    simp only [Value.cells] at h1
    subst h1
    exact h3 (by simpa [vAgg] using h2.symm)

theorem tyB_ok {P : Program} {t : TypeId} {e : TyI} (h : tyB P t e = true) : TyOk P t e := by
  unfold tyB at h
  cases hi : P.info? t with
  | none => rw [hi] at h; cases h
  | some i =>
    cases hd : P.underlying t with
    | none => rw [hi, hd] at h; cases h
    | some d =>
      rw [hi, hd] at h
      simp only [Bool.and_eq_true] at h
      obtain ⟨⟨⟨⟨⟨⟨⟨h1, h2⟩, h3⟩, h4⟩, h5⟩, h6⟩, h7⟩, h8⟩ := h
      refine ⟨by simp only [Bool.and_eq_true, beq_iff_eq] at h4; exact Nat.eq_of_beq_eq_true h4.2, ?_, ?_, ?_⟩
      · intro hc
        rw [hc] at h8
        simp only [Bool.not_true, Bool.false_or] at h8
        split at h8
        · rename_i fs
          simp only [Bool.and_eq_true, Bool.not_eq_true', List.all_eq_true] at h8
          exact ⟨fs, hd, h8.1.1, h8.1.2, fun f hf => by simpa using h8.2 f hf⟩
        · cases h8
      · cases hz : i.zero with
        | none => rw [hz] at h3; cases h3
        | some z =>
          cases hc : zcells e.zero with
          | none => rw [hz, hc] at h3; cases h3
          | some cs =>
            rw [hz, hc] at h3
            simp only [Bool.and_eq_true] at h3
            have e1 := valsB_eq h3.1
            refine ⟨i, z, hi, Nat.eq_of_beq_eq_true h1, Nat.eq_of_beq_eq_true h2, hz, ?_, fun O w => by rw [e1]; exact repC_zcells _ _ hc⟩
            rw [e1]
            refine toV_agg_cells e1 ?_ (fun hn => ?_)
            · have h4' : e.zero.isAgg = e.agg := by simp only [Bool.and_eq_true, beq_iff_eq] at h4; exact h4.1
              rw [h4']; simpa using h3.2
            · cases hh : e.zero <;> simp [toV] <;> rw [hh] at hn <;> simp [Da.isAgg] at hn
      · refine ⟨d, hd, ?_, ?_, ?_, ?_, ?_, ?_, ?_⟩
        · cases d <;> simp at h5 <;> simp [h5]
        · rintro el rfl
          simp only [Bool.and_eq_true] at h5
          exact Nat.eq_of_beq_eq_true h5.2
        · rintro fs rfl
          simp only [Bool.and_eq_true, decide_eq_true_eq, List.all_eq_true] at h5
          refine ⟨h5.1.2, fun f hf => ?_⟩
          have := h5.2 f hf
          cases hfi : P.info? f.type with
          | none => rw [hfi] at this; cases this
          | some j =>
            rw [hfi] at this
            exact ⟨j, rfl, by simpa [Nat.blt_eq] using this⟩
        · rintro n el rfl; simp at h5
        · intro ha
          cases d <;> simp [ha] at h5
          exact ⟨_, rfl⟩
        · intro k hk
          rw [hk] at h6 h5
          cases d <;> simp at h6
          simp at h5
          rw [h5.2]
        · exact Nat.eq_of_beq_eq_true h7

/-- what a proof knows of the program -/
structure Cx.Ok (C : Cx) (T : Tab) : Prop where
  tab : tabB C.P T = true
  mixed : C.P.follows .mixedOrders = true

theorem Cx.Ok.ty {C : Cx} {T : Tab} (h : C.Ok T) {t : TypeId} {e : TyI} (ht : tyAt t T = some e) : TyOk C.P t e := tyB_ok (tabB_at h.tab ht)

section
variable {P : Program} {t : TypeId} {e : TyI}
theorem TyOk.sizeOf (h : TyOk P t e) (w : World) : (sizeOf t).run P w = .ok e.size w := by
  obtain ⟨i, z, h1, h2, _⟩ := h.info
  simp [Go.sizeOf, typeInfo, program, Sem.run, h1, h2]
theorem TyOk.isAgg (h : TyOk P t e) (w : World) : (isAgg t).run P w = .ok e.agg w := by
  obtain ⟨d, h1, h2, _⟩ := h.desc
  simp only [Go.isAgg, Sem.run_bind, run_underlying h1, Result.andThen_ok]
  rw [← h2]
  cases d <;> simp
theorem TyOk.zero (h : TyOk P t e) : ∃ z, (∀ w, (zeroValue t).run P w = .ok z w) ∧ z = toV e.zero z.cells.toList ∧ ∀ O w, RepC O w e.zero z.cells.toList := by
  obtain ⟨i, z, h1, h2, h3, h4, h5, h6⟩ := h.info
  exact ⟨z, fun w => by simp [zeroValue, typeInfo, program, Sem.run, h1, h4], h5, h6⟩
end

/-! ### operands -/
section
variable {C : Cx} {B S : List Nat} {w0 w : World} {n : Nat} {fr : Fr} {σ : Sg} {η : Nat → Value} {φ : Nat → List Nat} {a : Act}

abbrev RD (B : List Nat) (σ : Sg) (η : Nat → Value) (φ : Nat → List Nat) (w : World) (d : Dat) (v : Value) : Prop := ∃ cs, RepD η (ids σ) (B ++ blocks φ σ) w d cs ∧ v = toVD d cs

theorem ofVal1_rep (O : List Nat) (w : World) (v : Value) : RepC O w (ofVal1 v) [v] := by
  unfold ofVal1
  split <;> simp [RepC]
theorem toV_ofVal1 (v : Value) : toV (ofVal1 v) [v] = v := by
  unfold ofVal1
  split <;> simp [toV]
theorem ofVal_rep (O : List Nat) (w : World) (v : Value) : ∃ cs, RepC O w (ofVal v) cs ∧ v = toV (ofVal v) cs := by
  unfold ofVal
  split
  · rename_i cs
    refine ⟨cs.toList, ?_, by simp [toV]⟩
    simp only [RepC]
    generalize cs.toList = l
    induction l with
    | nil => simp [RepCs]
    | cons x l ih => exact ⟨[x], l, rfl, ofVal1_rep O w x, ih⟩
  · exact ⟨[v], ofVal1_rep O w v, (toV_ofVal1 v).symm⟩

theorem glob_rep {O : List Nat} {w : World} {g : Nat} : ∀ {Γ : List (Nat × Da)}, (∀ p ∈ Γ, Rep O w (.ref p.2) (.pointer (some ⟨p.1, 0, none⟩))) → ∃ cs, RepC O w (glob g Γ) cs ∧ Value.pointer (some ⟨g, 0, none⟩) = toV (glob g Γ) cs
  | [], _ => ⟨[.pointer (some ⟨g, 0, none⟩)], by simp [glob, RepC], by simp [glob, toV]⟩
  | (h, x) :: Γ, hh => by
    rcases beq_cases h g with ⟨hb, he⟩ | ⟨hb, he⟩
    · simp only [glob, hb]
      have := hh (h, x) (by simp)
      subst he; exact this
    · simp only [glob, hb]
      exact glob_rep (fun p hp => hh p (List.mem_cons_of_mem _ hp))

theorem ev_rep (h : Models C B S w0 n fr σ η φ a w) (x : Operand) : RD B σ η φ w (ev C.Γ fr x) (a.eval x) := by
  cases x with
  | tmp t => obtain ⟨cs, h1, h2⟩ := h.fr t; exact ⟨cs, h1, h2⟩
  | const v => obtain ⟨cs, h1, h2⟩ := ofVal_rep (B ++ blocks φ σ) w v; exact ⟨cs, h1, h2⟩
  | «global» g => obtain ⟨cs, h1, h2⟩ := glob_rep (g := g) h.mem.glob; exact ⟨cs, h1, h2⟩
  | func f => exact ⟨[.func (.func f) #[] #[]], by simp [ev, RepD, RepC, RepCss], by simp [ev, toVD, toV, Act.eval]⟩

theorem evs_rep (h : Models C B S w0 n fr σ η φ a w) : ∀ xs : List Operand, ∃ css, RepDss η (ids σ) (B ++ blocks φ σ) w (evs C.Γ fr xs) css ∧ xs.map a.eval = List.zipWith toVD (evs C.Γ fr xs) css
  | [] => ⟨[], by simp [evs, RepDss], by simp [evs]⟩
  | x :: xs => by
    obtain ⟨cs, h1, h2⟩ := ev_rep h x
    obtain ⟨css, h3, h4⟩ := evs_rep h xs
    exact ⟨cs :: css, ⟨cs, css, rfl, h1, h3⟩, by simp [evs, h2, h4]⟩

theorem Models.put (h : Models C B S w0 n fr σ η φ a w) {t : Option Nat} (ht : dstOk t n = true) {d : Dat} {v : Value} (hd : RD B σ η φ w d v) : Models C B S w0 n (putF t d fr) σ η φ (a.put t v) w := by
  obtain ⟨cs, h1, h2⟩ := hd
  cases t with
  | none => exact h
  | some t =>
    have : t < a.tmps.size := by rw [h.size]; simpa [dstOk, Nat.blt_eq] using ht
    exact ⟨h.mem, h.fr.put this h1 h2, h.defers, by simp [Act.put, h.size]⟩

theorem RD.d {x : Da} {v : Value} (h : RD B σ η φ w (.d x) v) : Rep (B ++ blocks φ σ) w x v := h

/-- an operation that hands back a value -/
theorem opSem_val {kd : Nat} {o : Oper} {K : Fr → Sg → Prop} (hk : kd ≠ 5) (hk2 : kd ≠ 2) (h : ∀ (B S : List Nat) (w0 : World) (η : Nat → Value) (φ : Nat → List Nat) (a : Act) (w : World), Models C B S w0 n fr σ η φ a w →
    (kd = 0 → dynPure a o = true) ∧ ((∃ v w', (execOp a.eval o).run C.P w = .ok (.value v) w' ∧ Good C B S w0 n K (a.put o.dst v) w') ∨ (∃ w', (execOp a.eval o).run C.P w = .ok .skip w' ∧ Good C B S w0 n K (a.put o.dst Go.undef) w'))) : OpSem C n kd o K fr σ := by
  unfold OpSem
  intro B S w0 η φ a w hm
  obtain ⟨h0, h1⟩ := h B S w0 η φ a w hm
  have hw : o.wp C.P a w (Good C B S w0 n K) No := by
    rcases h1 with ⟨v, w', hr, hg⟩ | ⟨w', hr, hg⟩
    · exact wp_val hr hg
    · exact wp_skip' hr hg
  split
  · exact ⟨h0 rfl, hw⟩
  · exact absurd rfl hk
  · exact absurd rfl hk2
  · exact hw

/-- a value reckoned, memory as it was -/
theorem good_put {K : Fr → Sg → Prop} {o : Oper} (h : Models C B S w0 n fr σ η φ a w) (ht : dstOk o.dst n = true) {d : Dat} {v : Value} (hd : RD B σ η φ w d v) (hK : K (putF o.dst d fr) σ) : Good C B S w0 n K (a.put o.dst v) w :=
  ⟨_, σ, η, φ, h.put ht hd, hK⟩
end

end Go.Sx
