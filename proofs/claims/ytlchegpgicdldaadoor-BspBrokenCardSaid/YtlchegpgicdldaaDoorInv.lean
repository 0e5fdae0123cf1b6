/- A method called through an interface value whose type is known. -/
import Derived.Test.YtlchegpgicdldaaDoorSxu
namespace Go.Sx
open Go Go.RowKit Go.Reg
section
variable {C : Cx} {T : Tab} {fr : Fr} {σ : Sg}
theorem call_turnq {i : Nat} {r r0 : Absn} {f : FuncId} {args : List Dat} {xs : List Da} {y0 : Da} {K : KD} (hg : sget i σ = some r.own) (ha : allD args = some xs) (hp : TurnObj C f r xs (fun y r' => y = y0 ∧ r' = r0)) (hK : forceS (sturn id i r0.own σ) fun σ => K (.d y0) fr σ) : SxCall C false f (.own i :: args) K fr σ :=
  call_turn hg ha hp fun y r' ⟨h1, h2⟩ => by subst h1; subst h2; exact hK
theorem call_lookq {i : Nat} {q : Bool} {r : Absn} {f : FuncId} {args : List Dat} {xs : List Da} {y0 : Da} {K : KD} (hg : sget i σ = some r.own) (ha : allD args = some xs) (hp : LookObj C f r xs (fun y => y = y0)) (hK : K (.d y0) fr σ) : SxCall C q f (.own i :: args) K fr σ :=
  call_look hg ha hp fun y h1 => by subst h1; exact hK
theorem op_nilIf {n kd : Nat} {o : Oper} {K : Fr → Sg → Prop} {x : Operand} {t : TypeId} {d : Da} (ho : o.op = .nilCheck x) (hx : ev C.Γ fr x = .d (.iface t d)) (hkd : kd = 0) (hd : dstOk o.dst n = true) (hK : K (putF o.dst (.d (.iface t d)) fr) σ) : OpSem C n kd o K fr σ := by
  subst hkd
  refine opSem_calc (by decide) (by decide) hd fun B S w0 η φ a w hM => ?_
  have hr := ev_rep hM x
  rw [hx] at hr
  obtain ⟨cs, r1, r2⟩ := hr
  have r3 := r1
  simp only [RepD, RepC] at r1
  obtain ⟨c1, r1, rfl⟩ := r1
  have ex : a.eval x = .iface t (toV d c1) := r2
  refine .inr ⟨_, _, hK, ?_, ⟨_, r3, r2⟩, fun _ => ?_⟩
  · simp only [execOp, ho]
    rw [ex]
    rfl
  · simp only [dynPure, ho]
    rw [ex]
theorem op_invoke {n kd : Nat} {o : Oper} {K : Fr → Sg → Prop} {c : Call} {recv : Operand} {name : String} {t : TypeId} {x : Da} {g : FuncId} (ho : o.op = .call c) (hc : c.callee = .invoke recv name) (hx : ev C.Γ fr recv = .d (.iface t x))
    (hm : ∀ (v : Value) (args : Array Value) (w : World), (callMethod (.iface t v) name args).run C.P w = (callFunc g (#[v] ++ args)).run C.P w) (hkd : kd = 3) (hd : dstOk o.dst n = true)
    (h : SxCall C false g (.d x :: evs C.Γ fr c.args.toList) (fun d fr σ => K (putF o.dst d fr) σ) fr σ) : OpSem C n kd o K fr σ := by
  subst hkd
  unfold OpSem
  intro B S w0 η φ a w hM
  show o.wp C.P a w (Good C B S w0 n K) No
  unfold SxCall at h
  obtain ⟨cs0, r1, r2⟩ := ev_rep hM recv
  rw [hx] at r1 r2
  simp only [RepD, RepC] at r1
  obtain ⟨c1, r1, rfl⟩ := r1
  have ex : a.eval recv = .iface t (toV x c1) := r2
  obtain ⟨c3, r4, r5⟩ := evs_rep hM c.args.toList
  obtain ⟨g1, g2⟩ := h B S w0 η φ n a w _ hM ⟨c1 :: c3, (show ∃ c1 c2, _ ∧ _ ∧ _ from ⟨c1, c3, rfl, r1, r4⟩), rfl⟩
  rw [List.zipWith_cons_cons, ← r5] at g1 g2
  have e : (toVD (.d x) c1 :: List.map a.eval c.args.toList).toArray = #[toV x c1] ++ c.args.map a.eval := by
    apply Array.ext'; simp [toVD]
  rw [e] at g1 g2
  unfold Oper.wp
  have e2 : (#[Value.iface t (toV x c1)] ++ c.args.map a.eval)[0]? = some (Value.iface t (toV x c1)) := by
    rw [Array.getElem?_append_left (by simp)]; rfl
  have e3 : (#[Value.iface t (toV x c1)] ++ c.args.map a.eval).extract 1 (#[Value.iface t (toV x c1)] ++ c.args.map a.eval).size = c.args.map a.eval := by
    apply Array.ext'; simp
    exact List.take_of_length_le (by simp)
  have hr : (execOp a.eval o).run C.P w = .ok (.enter g (#[toV x c1] ++ c.args.map a.eval)) w := by
    simp only [execOp, ho, resolve, hc, ex, Sem.run_bind, Sem.run_pure, Result.andThen_ok, invoke, e2, e3]
    rw [hm]
    exact g1
  rw [hr, Oper.upon_enter]
  refine g2.mono ?_
  rintro e w' ⟨v, d, fr', σ', η', φ', rfl, hK, hM', hd', hq⟩
  exact ⟨_, _, _, _, hM'.put hd hd', hK⟩
end
end Go.Sx
