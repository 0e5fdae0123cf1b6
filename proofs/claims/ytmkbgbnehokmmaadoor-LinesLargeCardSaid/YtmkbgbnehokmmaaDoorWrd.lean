/- errors.Unwrap; fault.Words. -/
import Derived.Test.YtmkbgbnehokmmaaDoorFsu
namespace Go.Proofs.YtmkbgbnehokmmaaDoor
open Go.Sx Go.RowKit Go.Reg

noncomputable def wantUn : Array (String × TypeId) := match Tryd.prog.underlying 133 with | some (.interface w) => w | _ => #[]
theorem faultSome : (Tryd.prog.info? 84).isSome = true := by kernel_rfl
noncomputable def gotFault : Array Method := ((Tryd.prog.info? 84).get faultSome).methods
theorem missUn : (wantUn.toList.filter fun x => !gotFault.any fun m => m.name == x.1 && m.sig == x.2).map (·.1) = ["Unwrap"] := by kernel_rfl
theorem missUn2 : ∃ s, Instr.missingMethod wantUn gotFault = some s := by
  unfold Instr.missingMethod
  have h := missUn
  generalize hl : (wantUn.toList.filter fun x => !gotFault.any fun m => m.name == x.1 && m.sig == x.2).map (·.1) = l at h
  subst h
  simp only [List.partition, List.partition.loop]
  cases ("Unwrap".contains '.') <;> simp [Instr.least]
theorem huUn (w : World) : (underlying 133).run Tryd.prog w = .ok (.interface wantUn) w := by kernel_rfl
theorem hiFault (w : World) : (typeInfo 84).run Tryd.prog w = .ok ((Tryd.prog.info? 84).get faultSome) w := by kernel_rfl
theorem hzUn (w : World) : (zeroValue 133).run Tryd.prog w = .ok .nilIface w := by kernel_rfl
set_option maxRecDepth 100000 in
theorem x_noUnwrap (b o : Nat) (w : World) : (Instr.typeAssert (.iface 84 (.pointer (some ⟨b,o,none⟩))) 26 133 true).run Tryd.prog w = .ok (.tuple #[.nilIface, .bool false]) w := by
  obtain ⟨s, hs⟩ := missUn2
  unfold gotFault at hs
  simp [Instr.typeAssert, huUn, hiFault, hzUn, hs]
  split
  · rename_i hn
    have hn' : some s = none := hs.symm.trans hn
    cases hn'
  · simp [hzUn]
theorem x_isStep (b o : Nat) (w : World) : (Instr.typeAssert (.iface 115 (.pointer (some ⟨b,o,none⟩))) 26 115 true).run Tryd.prog w = .ok (.tuple #[.pointer (some ⟨b,o,none⟩), .bool true]) w := by kernel_rfl
theorem x_noStep (b o : Nat) (w : World) : (Instr.typeAssert (.iface 84 (.pointer (some ⟨b,o,none⟩))) 26 115 true).run Tryd.prog w = .ok (.tuple #[.pointer none, .bool false]) w := by kernel_rfl

set_option maxRecDepth 100000 in
theorem eunwrap_step (s so : Nat) (x : Value) (w : World) (hc : w.cell? ⟨s, so + 1, none⟩ = some x) : Calls Tryd.prog 65 #[.iface 115 (.pointer (some ⟨s, so, none⟩))] w fun e w' => e = .returned x ∧ w = w' := by
  have HC := hid hc
  clear hc
  have s3 := x_mUnwrap
  have s5 := x_isUnwrap
  go_enter Tryd.func65, Tryd.ntmps65
  go_wp2_with (go_at_call 173; refine (unwrap_any s so _ _ HC.out).mono ?_; rintro e w' ⟨rfl, rfl⟩)
  go_ret
  exact ⟨rfl, rfl⟩
set_option maxRecDepth 100000 in
theorem eunwrap_fault (f o : Nat) (w : World) : Calls Tryd.prog 65 #[.iface 84 (.pointer (some ⟨f, o, none⟩))] w fun e w' => e = .returned .nilIface ∧ w = w' := by
  have s5 := x_noUnwrap
  go_enter Tryd.func65, Tryd.ntmps65
  go_wp2_with fail
  go_ret
  exact ⟨rfl, rfl⟩
end Go.Proofs.YtmkbgbnehokmmaaDoor
namespace Go.Sx
open Go Go.RowKit Go.Reg Go.Proofs.YtmkbgbnehokmmaaDoor
section
variable {C : Cx} {fr : Fr} {σ : Sg}
/-- 'x.(T)' of a known answer -/
theorem op_assert {n kd : Nat} {o : Oper} {K : Fr → Sg → Prop} {x : Operand} {xt ty : TypeId} {d z : Da} (ho : o.op = .typeAssert x xt ty true) (hx : ev C.Γ fr x = .d d) (hr : ∀ O w v, Rep O w d v → ∃ u, (Instr.typeAssert v xt ty true).run C.P w = .ok u w ∧ Rep O w z u) (hkd : kd = 3) (hd : dstOk o.dst n = true)
    (hK : K (putF o.dst (.d z) fr) σ) : OpSem C n kd o K fr σ := by
  subst hkd
  refine opSem_calc (by decide) (by decide) hd fun B S w0 η φ a' w hM => ?_
  obtain ⟨u, h1, h2⟩ := hr _ w _ (rd_da (ev_rep hM x) hx)
  refine .inr ⟨_, u, hK, ?_, rd_of h2, fun h => by cases h⟩
  simp only [execOp, ho]
  exact run_v h1
end
end Go.Sx
namespace Go.Proofs.YtmkbgbnehokmmaaDoor
open Go.Sx Go.RowKit Go.Reg

set_option maxRecDepth 100000
theorem as_step_yes {x : Da} (O : List Nat) (w : World) (v : Value) (h : Rep O w (.iface 115 (.ref x)) v) : ∃ u, (Instr.typeAssert v 26 115 true).run C1.P w = .ok u w ∧ Rep O w (.tuple [.ref x, .bool true]) u := by
  obtain ⟨cs, r, rfl⟩ := h
  simp only [RepC] at r
  obtain ⟨_, ⟨b, o, c, rfl, r1, r2, r3, r4⟩, rfl⟩ := r
  refine ⟨_, x_isStep b o w, [_], ?_, rfl⟩
  simp only [RepC, RepCss]
  exact ⟨[[.pointer (some ⟨b, o, none⟩)], [.bool true]], ⟨_, _, rfl, ⟨b, o, c, rfl, r1, r2, r3, r4⟩, _, _, rfl, rfl, rfl⟩, rfl⟩
theorem as_step_no {x : Da} (O : List Nat) (w : World) (v : Value) (h : Rep O w (.iface 84 (.ref x)) v) : ∃ u, (Instr.typeAssert v 26 115 true).run C1.P w = .ok u w ∧ Rep O w (.tuple [.nilp, .bool false]) u := by
  obtain ⟨cs, r, rfl⟩ := h
  simp only [RepC] at r
  obtain ⟨_, ⟨b, o, c, rfl, r1, r2, r3, r4⟩, rfl⟩ := r
  refine ⟨_, x_noStep b o w, [_], ?_, rfl⟩
  simp only [RepC, RepCss]
  exact ⟨[[.pointer none], [.bool false]], ⟨_, _, rfl, rfl, _, _, rfl, rfl, rfl⟩, rfl⟩
theorem unwrap_dS (z : ByteArray) (c a : Int) (s : ByteArray) : Pure C1 65 [dS z (dF c a s)] (fun y => y = dF c a s) := by
  intro O w us hO hg hr
  obtain ⟨v, vs, rfl, h1, h2⟩ := reps_inv hr
  obtain rfl := reps_inv0 h2
  obtain ⟨cs, r, rfl⟩ := h1
  simp only [dS, dF, RepC, RepCs] at r
  obtain ⟨_, ⟨b, o, c3, rfl, hb, hbl, ⟨_, _, rfl, rfl, _, _, rfl, ⟨_, ⟨b2, o2, c4, rfl, hb2, hbl2, r3, r4⟩, rfl⟩, rfl⟩, hc⟩, rfl⟩ := r
  refine ⟨by kernel_rfl, (eunwrap_step b o _ w (hc 1 _ rfl)).mono ?_⟩
  rintro e w' ⟨rfl, rfl⟩
  refine ⟨_, _, rfl, rfl, ⟨[_], ?_, rfl⟩, Tch.refl _ _⟩
  simp only [dF, RepC, RepCs]
  exact ⟨_, ⟨b2, o2, c4, rfl, hb2, hbl2, r3, r4⟩, rfl⟩
theorem unwrap_dF (c a : Int) (s : ByteArray) : Pure C1 65 [dF c a s] (fun y => y = .nili) := by
  intro O w us hO hg hr
  obtain ⟨v, vs, rfl, h1, h2⟩ := reps_inv hr
  obtain rfl := reps_inv0 h2
  obtain ⟨cs, r, rfl⟩ := h1
  simp only [dF, RepC] at r
  obtain ⟨c2, ⟨b, o, c3, rfl, r1, r2, r3, r4⟩, rfl⟩ := r
  refine ⟨by kernel_rfl, (eunwrap_fault b o w).mono ?_⟩
  rintro e w' ⟨rfl, rfl⟩
  exact ⟨_, _, rfl, rfl, ⟨[_], by simp only [RepC], rfl⟩, Tch.refl _ _⟩
def wE (z : ByteArray) (c a : Int) (s : ByteArray) : Nat → Da
  | 0 => dS z (dF c a s)
  | 1 => dF c a s
  | _ => .nili
def wL (z : ByteArray) : Nat → List Da
  | 0 => []
  | _ => [.str z]
def pl_wrd : List (Nat × Plan) := []
def G_wrd : List FuncId := [65]
theorem cok_wrd : codeOk Tryd.prog G_wrd pl_wrd (Tryd.f36.body.getD .skip) = true := by kernel_rfl
theorem run_wrd (vs : Array Value) (w : World) : (callFunc 36 vs).run C1.P w = .ok (.enter 36 vs) w := by kernel_rfl
theorem words_dS (z : ByteArray) (c a : Int) (s : ByteArray) : Pure C1 36 [dS z (dF c a s)] (fun y => y = .list 1 [.str z]) := by
  refine pure_of c1_ok (pl := pl_wrd) (G := G_wrd) Tryd.func36 rfl Tryd.ntmps36 run_wrd cok_wrd (by simp) ?_
  ((conv => whnf); repeat' ((first | refine odw ?_ | refine ify ?_ | refine ifn ?_ | refine i6 ?_ | refine ati ?_ | refine mst ?_ | refine rmd ?_ | refine ibo (fun _ => ?_) (fun _ => ?_)) <;> conv => whnf))
  refine loop_lo (ι := Nat) (fun i => i ≤ 2) (fun i => [(3, .own 300), (0, .d (wE z c a s i))]) (fun i => [(300, .slice 9 1 (wL z i))]) (fun i => 2 - i) 0 (fun _ => rfl) (Nat.zero_le _) (.own 3 300 9 1 rfl rfl (.refl _ _)) ⟨rfl, rfl, trivial⟩ ⟨rfl, trivial⟩ ?_
  intro i hi
  obtain rfl | rfl | rfl : i = 0 ∨ i = 1 ∨ i = 2 := by omega
  · show CodeSem C1 _ _ _ [(3, .own 300), (0, .d (dS z (dF c a s)))] [(300, .slice 9 1 [])]
    refine sxCode_sound c1_ok (G := G_wrd) (pl := pl_wrd) _ _ _ _ (by kernel_rfl) ?_
    ((conv => whnf); repeat' ((first | refine odw ?_ | refine ify ?_ | refine ifn ?_ | refine i6 ?_ | refine ati ?_ | refine mst ?_ | refine rmd ?_ | refine ibo (fun _ => ?_) (fun _ => ?_)) <;> conv => whnf))
    refine op_assert rfl rfl as_step_yes rfl rfl ?_
    ((conv => whnf); repeat' ((first | refine odw ?_ | refine ify ?_ | refine ifn ?_ | refine i6 ?_ | refine ati ?_ | refine mst ?_ | refine rmd ?_ | refine ibo (fun _ => ?_) (fun _ => ?_)) <;> conv => whnf))
    refine call_eq rfl (unwrap_dS z c a s) ?_
    ((conv => whnf); repeat' ((first | refine odw ?_ | refine ify ?_ | refine ifn ?_ | refine i6 ?_ | refine ati ?_ | refine mst ?_ | refine rmd ?_ | refine ibo (fun _ => ?_) (fun _ => ?_)) <;> conv => whnf))
    exact ⟨1, _, _, by omega, .refl _ _, ⟨rfl, rfl, trivial⟩, ⟨rfl, trivial⟩, by omega⟩
  · show CodeSem C1 _ _ _ [(3, .own 300), (0, .d (dF c a s))] [(300, .slice 9 1 [.str z])]
    refine sxCode_sound c1_ok (G := G_wrd) (pl := pl_wrd) _ _ _ _ (by kernel_rfl) ?_
    ((conv => whnf); repeat' ((first | refine odw ?_ | refine ify ?_ | refine ifn ?_ | refine i6 ?_ | refine ati ?_ | refine mst ?_ | refine rmd ?_ | refine ibo (fun _ => ?_) (fun _ => ?_)) <;> conv => whnf))
    refine op_assert rfl rfl as_step_no rfl rfl ?_
    ((conv => whnf); repeat' ((first | refine odw ?_ | refine ify ?_ | refine ifn ?_ | refine i6 ?_ | refine ati ?_ | refine mst ?_ | refine rmd ?_ | refine ibo (fun _ => ?_) (fun _ => ?_)) <;> conv => whnf))
    refine call_eq rfl (unwrap_dF c a s) ?_
    ((conv => whnf); repeat' ((first | refine odw ?_ | refine ify ?_ | refine ifn ?_ | refine i6 ?_ | refine ati ?_ | refine mst ?_ | refine rmd ?_ | refine ibo (fun _ => ?_) (fun _ => ?_)) <;> conv => whnf))
    exact ⟨2, _, _, by omega, .refl _ _, ⟨rfl, rfl, trivial⟩, ⟨rfl, trivial⟩, by omega⟩
  · show CodeSem C1 _ _ _ [(3, .own 300), (0, .d .nili)] [(300, .slice 9 1 [.str z])]
    refine sxCode_sound c1_ok (G := G_wrd) (pl := pl_wrd) _ _ _ _ (by kernel_rfl) ?_
    ((conv => whnf); repeat' ((first | refine odw ?_ | refine ify ?_ | refine ifn ?_ | refine i6 ?_ | refine ati ?_ | refine mst ?_ | refine rmd ?_ | refine ibo (fun _ => ?_) (fun _ => ?_)) <;> conv => whnf))
    exact rfl
end Go.Proofs.YtmkbgbnehokmmaaDoor
