/- The machine of a job that tells an error, of one that sends to nobody; nobody's machine; New's errors. -/
import Derived.Test.YtlchegpgicdldaaDoorFsu
import Derived.Test.YtlchegpgicdldaaDoorBdx
import Derived.Test.YtlchegpgicdldaaDoorBmq
namespace Go.Proofs.YtlchegpgicdldaaDoor
open Go.Sx Go.RowKit Go.Reg

noncomputable def wantUn : Array (String × TypeId) := match Tryd.prog.underlying 109 with | some (.interface w) => w | _ => #[]
theorem faultSome : (Tryd.prog.info? 69).isSome = true := by kernel_rfl
noncomputable def gotFault : Array Method := ((Tryd.prog.info? 69).get faultSome).methods
theorem missUn : (wantUn.toList.filter fun x => !gotFault.any fun m => m.name == x.1 && m.sig == x.2).map (·.1) = ["Unwrap"] := by kernel_rfl
theorem missUn2 : ∃ s, Instr.missingMethod wantUn gotFault = some s := by
  unfold Instr.missingMethod
  have h := missUn
  generalize hl : (wantUn.toList.filter fun x => !gotFault.any fun m => m.name == x.1 && m.sig == x.2).map (·.1) = l at h
  subst h
  simp only [List.partition, List.partition.loop]
  cases ("Unwrap".contains '.') <;> simp [Instr.least]
theorem huUn (w : World) : (underlying 109).run Tryd.prog w = .ok (.interface wantUn) w := by kernel_rfl
theorem hiFault (w : World) : (typeInfo 69).run Tryd.prog w = .ok ((Tryd.prog.info? 69).get faultSome) w := by kernel_rfl
theorem hzUn (w : World) : (zeroValue 109).run Tryd.prog w = .ok .nilIface w := by kernel_rfl
set_option maxRecDepth 100000 in
theorem x_noUnwrap (b o : Nat) (w : World) : (Instr.typeAssert (.iface 69 (.pointer (some ⟨b,o,none⟩))) 26 109 true).run Tryd.prog w = .ok (.tuple #[.nilIface, .bool false]) w := by
  obtain ⟨s, hs⟩ := missUn2
  unfold gotFault at hs
  simp [Instr.typeAssert]
  split
  · rename_i hn
    have hn' : some s = none := hs.symm.trans hn
    cases hn'
  · simp
theorem x_isStep (b o : Nat) (w : World) : (Instr.typeAssert (.iface 87 (.pointer (some ⟨b,o,none⟩))) 26 87 true).run Tryd.prog w = .ok (.tuple #[.pointer (some ⟨b,o,none⟩), .bool true]) w := by kernel_rfl
theorem x_noStep (b o : Nat) (w : World) : (Instr.typeAssert (.iface 69 (.pointer (some ⟨b,o,none⟩))) 26 87 true).run Tryd.prog w = .ok (.tuple #[.pointer none, .bool false]) w := by kernel_rfl

set_option maxRecDepth 100000 in
theorem eunwrap_step (s so : Nat) (x : Value) (w : World) (hc : w.cell? ⟨s, so + 1, none⟩ = some x) : Calls Tryd.prog 43 #[.iface 87 (.pointer (some ⟨s, so, none⟩))] w fun e w' => e = .returned x ∧ w = w' := by
  have HC := hid hc
  clear hc
  have s3 := x_mUnwrap
  have s5 := x_isUnwrap
  go_enter Tryd.func43, Tryd.ntmps43
  go_wp2_with (go_at_call 104; refine (unwrap_any s so _ _ HC.out).mono ?_; rintro e w' ⟨rfl, rfl⟩)
  go_ret
  exact ⟨rfl, rfl⟩
set_option maxRecDepth 100000 in
theorem eunwrap_fault (f o : Nat) (w : World) : Calls Tryd.prog 43 #[.iface 69 (.pointer (some ⟨f, o, none⟩))] w fun e w' => e = .returned .nilIface ∧ w = w' := by
  have s5 := x_noUnwrap
  go_enter Tryd.func43, Tryd.ntmps43
  go_wp2_with fail
  go_ret
  exact ⟨rfl, rfl⟩
end Go.Proofs.YtlchegpgicdldaaDoor
namespace Go.Sx
open Go Go.RowKit Go.Reg Go.Proofs.YtlchegpgicdldaaDoor
section
variable {C : Cx} {fr : Fr} {σ : Sg}
/-- 'x.(T)' of a known answer -/
theorem op_assert {n kd : Nat} {o : Oper} {K : Fr → Sg → Prop} {x : Operand} {xt ty : TypeId} {d z : Da} (ho : o.op = .typeAssert x xt ty true) (hx : ev C.Γ fr x = .d d) (hr : ∀ O w v, Rep O w d v → ∃ u, (Instr.typeAssert v xt ty true).run C.P w = .ok u w ∧ Rep O w z u) (hkd : kd = 3) (hd : dstOk o.dst n = true)
    (hK : K (putF o.dst (.d z) fr) σ) : OpSem C n kd o K fr σ := by
  subst hkd
  refine opSem_calc (by decide) (by decide) hd fun B S w0 η φ a' w hM => ?_
  obtain ⟨u, h1, h2⟩ := hr _ w _ (rd_da (ev_rep hM x) hx)
  refine .inr ⟨_, u, hK, ?_, rd_of h2, fun h => by cases h⟩
  simp only [execOp, ho]
  exact run_v h1
end
end Go.Sx
namespace Go.Proofs.YtlchegpgicdldaaDoor
open Go.Sx Go.RowKit Go.Reg

set_option maxRecDepth 100000
theorem as_step_yes {x : Da} (O : List Nat) (w : World) (v : Value) (h : Rep O w (.iface 87 (.ref x)) v) : ∃ u, (Instr.typeAssert v 26 87 true).run C1.P w = .ok u w ∧ Rep O w (.tuple [.ref x, .bool true]) u := by
  obtain ⟨cs, r, rfl⟩ := h
  simp only [RepC] at r
  obtain ⟨_, ⟨b, o, c, rfl, r1, r2, r3, r4⟩, rfl⟩ := r
  refine ⟨_, x_isStep b o w, [_], ?_, rfl⟩
  simp only [RepC, RepCss]
  exact ⟨[[.pointer (some ⟨b, o, none⟩)], [.bool true]], ⟨_, _, rfl, ⟨b, o, c, rfl, r1, r2, r3, r4⟩, _, _, rfl, rfl, rfl⟩, rfl⟩
theorem as_step_no {x : Da} (O : List Nat) (w : World) (v : Value) (h : Rep O w (.iface 69 (.ref x)) v) : ∃ u, (Instr.typeAssert v 26 87 true).run C1.P w = .ok u w ∧ Rep O w (.tuple [.nilp, .bool false]) u := by
  obtain ⟨cs, r, rfl⟩ := h
  simp only [RepC] at r
  obtain ⟨_, ⟨b, o, c, rfl, r1, r2, r3, r4⟩, rfl⟩ := r
  refine ⟨_, x_noStep b o w, [_], ?_, rfl⟩
  simp only [RepC, RepCss]
  exact ⟨[[.pointer none], [.bool false]], ⟨_, _, rfl, rfl, _, _, rfl, rfl, rfl⟩, rfl⟩
theorem unwrap_dS (z : ByteArray) (c a : Int) (s : ByteArray) : Pure C1 43 [dS z (dF c a s)] (fun y => y = dF c a s) := by
  intro O w us hO hg hr
  obtain ⟨v, vs, rfl, h1, h2⟩ := reps_inv hr
  obtain rfl := reps_inv0 h2
  obtain ⟨cs, r, rfl⟩ := h1
  simp only [dS, dF, RepC, RepCs] at r
  obtain ⟨_, ⟨b, o, c3, rfl, hb, hbl, ⟨_, _, rfl, rfl, _, _, rfl, ⟨_, ⟨b2, o2, c4, rfl, hb2, hbl2, r3, r4⟩, rfl⟩, rfl⟩, hc⟩, rfl⟩ := r
  refine ⟨by kernel_rfl, (eunwrap_step b o _ w (hc 1 _ rfl)).mono ?_⟩
  rintro e w' ⟨rfl, rfl⟩
  refine ⟨_, _, rfl, rfl, ⟨[_], ?_, rfl⟩, Tch.refl _ _⟩
  simp only [dF, RepC, RepCs]
  exact ⟨_, ⟨b2, o2, c4, rfl, hb2, hbl2, r3, r4⟩, rfl⟩
theorem unwrap_dF (c a : Int) (s : ByteArray) : Pure C1 43 [dF c a s] (fun y => y = .nili) := by
  intro O w us hO hg hr
  obtain ⟨v, vs, rfl, h1, h2⟩ := reps_inv hr
  obtain rfl := reps_inv0 h2
  obtain ⟨cs, r, rfl⟩ := h1
  simp only [dF, RepC] at r
  obtain ⟨c2, ⟨b, o, c3, rfl, r1, r2, r3, r4⟩, rfl⟩ := r
  refine ⟨by kernel_rfl, (eunwrap_fault b o w).mono ?_⟩
  rintro e w' ⟨rfl, rfl⟩
  exact ⟨_, _, rfl, rfl, ⟨[_], by simp only [RepC], rfl⟩, Tch.refl _ _⟩
def wE (z : ByteArray) (c a : Int) (s : ByteArray) : Nat → Da
  | 0 => dS z (dF c a s)
  | 1 => dF c a s
  | _ => .nili
def wL (z : ByteArray) : Nat → List Da
  | 0 => []
  | _ => [.str z]
def pl_wrd : List (Nat × Plan) := []
def G_wrd : List FuncId := [43]
theorem cok_wrd : codeOk Tryd.prog G_wrd pl_wrd (Tryd.f25.body.getD .skip) = true := by kernel_rfl
theorem run_wrd (vs : Array Value) (w : World) : (callFunc 25 vs).run C1.P w = .ok (.enter 25 vs) w := by kernel_rfl
theorem words_dS (z : ByteArray) (c a : Int) (s : ByteArray) : Pure C1 25 [dS z (dF c a s)] (fun y => y = .list 1 [.str z]) := by
  refine pure_of c1_ok (pl := pl_wrd) (G := G_wrd) Tryd.func25 rfl Tryd.ntmps25 run_wrd cok_wrd (by simp) ?_
  ((conv => whnf); repeat' ((first | refine odw ?_ | refine ify ?_ | refine ifn ?_ | refine i6 ?_ | refine ati ?_ | refine mst ?_ | refine rmd ?_ | refine ibo (fun _ => ?_) (fun _ => ?_)) <;> conv => whnf))
  refine loop_lo (ι := Nat) (fun i => i ≤ 2) (fun i => [(3, .own 300), (0, .d (wE z c a s i))]) (fun i => [(300, .slice 9 1 (wL z i))]) (fun i => 2 - i) 0 (fun _ => rfl) (Nat.zero_le _) (.own 3 300 9 1 rfl rfl (.refl _ _)) ⟨rfl, rfl, trivial⟩ ⟨rfl, trivial⟩ ?_
  intro i hi
  obtain rfl | rfl | rfl : i = 0 ∨ i = 1 ∨ i = 2 := by omega
  · show CodeSem C1 _ _ _ [(3, .own 300), (0, .d (dS z (dF c a s)))] [(300, .slice 9 1 [])]
    refine sxCode_sound c1_ok (G := G_wrd) (pl := pl_wrd) _ _ _ _ (by kernel_rfl) ?_
    ((conv => whnf); repeat' ((first | refine odw ?_ | refine ify ?_ | refine ifn ?_ | refine i6 ?_ | refine ati ?_ | refine mst ?_ | refine rmd ?_ | refine ibo (fun _ => ?_) (fun _ => ?_)) <;> conv => whnf))
    refine op_assert rfl rfl as_step_yes rfl rfl ?_
    ((conv => whnf); repeat' ((first | refine odw ?_ | refine ify ?_ | refine ifn ?_ | refine i6 ?_ | refine ati ?_ | refine mst ?_ | refine rmd ?_ | refine ibo (fun _ => ?_) (fun _ => ?_)) <;> conv => whnf))
    refine call_eq rfl (unwrap_dS z c a s) ?_
    ((conv => whnf); repeat' ((first | refine odw ?_ | refine ify ?_ | refine ifn ?_ | refine i6 ?_ | refine ati ?_ | refine mst ?_ | refine rmd ?_ | refine ibo (fun _ => ?_) (fun _ => ?_)) <;> conv => whnf))
    exact ⟨1, _, _, by omega, .refl _ _, ⟨rfl, rfl, trivial⟩, ⟨rfl, trivial⟩, by omega⟩
  · show CodeSem C1 _ _ _ [(3, .own 300), (0, .d (dF c a s))] [(300, .slice 9 1 [.str z])]
    refine sxCode_sound c1_ok (G := G_wrd) (pl := pl_wrd) _ _ _ _ (by kernel_rfl) ?_
    ((conv => whnf); repeat' ((first | refine odw ?_ | refine ify ?_ | refine ifn ?_ | refine i6 ?_ | refine ati ?_ | refine mst ?_ | refine rmd ?_ | refine ibo (fun _ => ?_) (fun _ => ?_)) <;> conv => whnf))
    refine op_assert rfl rfl as_step_no rfl rfl ?_
    ((conv => whnf); repeat' ((first | refine odw ?_ | refine ify ?_ | refine ifn ?_ | refine i6 ?_ | refine ati ?_ | refine mst ?_ | refine rmd ?_ | refine ibo (fun _ => ?_) (fun _ => ?_)) <;> conv => whnf))
    refine call_eq rfl (unwrap_dF c a s) ?_
    ((conv => whnf); repeat' ((first | refine odw ?_ | refine ify ?_ | refine ifn ?_ | refine i6 ?_ | refine ati ?_ | refine mst ?_ | refine rmd ?_ | refine ibo (fun _ => ?_) (fun _ => ?_)) <;> conv => whnf))
    exact ⟨2, _, _, by omega, .refl _ _, ⟨rfl, rfl, trivial⟩, ⟨rfl, trivial⟩, by omega⟩
  · show CodeSem C1 _ _ _ [(3, .own 300), (0, .d .nili)] [(300, .slice 9 1 [.str z])]
    refine sxCode_sound c1_ok (G := G_wrd) (pl := pl_wrd) _ _ _ _ (by kernel_rfl) ?_
    ((conv => whnf); repeat' ((first | refine odw ?_ | refine ify ?_ | refine ifn ?_ | refine i6 ?_ | refine ati ?_ | refine mst ?_ | refine rmd ?_ | refine ibo (fun _ => ?_) (fun _ => ?_)) <;> conv => whnf))
    exact rfl
end Go.Proofs.YtlchegpgicdldaaDoor
namespace Go.Proofs.YtlchegpgicdldaaDoor
open Go.Sx Go.RowKit Go.Reg

set_option maxRecDepth 100000
def workS : ByteArray := ⟨#[119, 111, 114, 107]⟩
def jobS : ByteArray := ⟨#[106, 111, 98]⟩
def workersS : ByteArray := ⟨#[119, 111, 114, 107, 101, 114, 115]⟩
def netS : ByteArray := ⟨#[110, 101, 116]⟩
def emp (k : Nat) : List ByteArray := List.replicate k ⟨#[]⟩
theorem emp_len (k : Nat) : (emp k).length = k := by simp [emp]
section
variable (M : Mach) {B : Nat} (hM : MachOk M B) (g : FuncId) (meth : ∀ (v : Value) (args : Array Value) (w : World), (callMethod (.iface M.jt v) "Work" args).run C1.P w = (callFunc g (#[v] ++ args)).run C1.P w) (w : Nat) (s : ByteArray) (l : List ByteArray) (hs : M.states[w]? = some s) (hl : M.inbox[w]? = some l) (h0 : M.worked[w]? = some false)
include hM meth hs hl h0
theorem mwork_one (ns : ByteArray) (ms : List (Int × ByteArray)) (hla : Pure C1 g [M.jx, .int .i64 w, .int .i64 M.round, .str s, .list 1 (l.map dTx)] (fun y => y = .tuple [.str ns, .list 2 (ms.map dMB), .nili]))
    (hm : ∀ m ∈ ms, 0 ≤ m.1 ∧ m.1 < M.states.length) (hB : B + ms.length ≤ 4294967296) :
    RecCall C1 14 [.own 900, .d (.int .i64 w)] (sM M) [900] (fun d σ => d = .d .nili ∧ σ = sM (M.did w ns ms)) := by
  have hlen := hM.len
  have hinb := hM.inb
  have hnxt := hM.nxt
  have hwkd := hM.wkd
  have hwl : w < M.states.length := (List.getElem?_eq_some_iff.1 hs).1
  obtain ⟨hl1, hl2⟩ := hM.box l (List.mem_of_getElem? hl)
  have hsd : (M.states.map dTx)[w]? = some (.str s) := by rw [List.getElem?_map, hs]; rfl
  have hld : (M.inbox.map dTs)[w]? = some (.list 1 (l.map dTx)) := by rw [List.getElem?_map, hl]; rfl
  have hwd : (M.worked.map dB)[w]? = some (.bool false) := by rw [List.getElem?_map, h0]; rfl
  have k1 : (M.states.map dTx).length = M.states.length := List.length_map _
  have k2 : (M.inbox.map dTs).length = M.inbox.length := List.length_map _
  have k3 : (M.next.map dTx).length = M.next.length := List.length_map _
  have k4 : (M.worked.map dB).length = M.worked.length := List.length_map _
  have g1 : w < (M.states.map dTx).length := by omega
  have g2 : w < (M.inbox.map dTs).length := by omega
  have g4 : w < (M.worked.map dB).length := by omega
  have hcl := sclone_pure l (by omega)
  have k5 : (ms.map dMB).length = ms.length := List.length_map _
  refine rec_of c1_ok (pl := pl_mwork) (G := G_mwork) Tryd.func14 rfl Tryd.ntmps14 run_mwork cok_mwork (by simp) 999 rfl ?_
  intro vs
  (conv => whnf)
  (repeat' ((first | refine ord_ok (by (conv => whnf); (repeat' ((first | refine call_req [] [900, 901, 902, 903, 904, 905] (mhas_ok M w (by omega) (by omega)) rfl rfl rfl rfl rfl rfl rfl ?_ | refine el_at (i := w) rfl g1 ?_ | refine el_is hsd ?_ | refine el_at (i := w) rfl g2 ?_ | refine el_is hld ?_ | refine el_at (i := w) rfl g4 ?_ | refine el_is hwd ?_ | refine call_eq rfl hcl ?_ | refine op_nilIf rfl rfl rfl rfl ?_ | refine op_invoke rfl rfl rfl meth rfl rfl ?_ | refine call_eq rfl hla ?_ | refine ify ?_ | refine ifn ?_ | refine i6 ?_ | refine ati ?_ | refine mst ?_ | refine rmd ?_ | refine ibo (fun _ => ?_) (fun _ => ?_)) <;> conv => whnf)); (all_goals (repeat' (first | exact trivial | exact rfl | refine And.intro ?_ ?_)))) ?_ | refine call_req [] [900, 901, 902, 903, 904, 905] (mhas_ok M w (by omega) (by omega)) rfl rfl rfl rfl rfl rfl rfl ?_ | refine el_at (i := w) rfl g1 ?_ | refine el_is hsd ?_ | refine el_at (i := w) rfl g2 ?_ | refine el_is hld ?_ | refine el_at (i := w) rfl g4 ?_ | refine el_is hwd ?_ | refine call_eq rfl hcl ?_ | refine op_nilIf rfl rfl rfl rfl ?_ | refine op_invoke rfl rfl rfl meth rfl rfl ?_ | refine call_eq rfl hla ?_ | refine ify ?_ | refine ifn ?_ | refine i6 ?_ | refine ati ?_ | refine mst ?_ | refine rmd ?_ | refine ibo (fun _ => ?_) (fun _ => ?_)) <;> conv => whnf))
  refine loop_lo (ι := Nat) (fun i => i ≤ ms.length) (fun i => [(66, .d (.int .i64 (i : Nat))), (65, .d (.int .i64 (ms.map dMB).length)), (64, .d (.list 2 (ms.map dMB))), (7, .d (.list 2 (ms.map dMB))), (6, .d (.str ns)), (1, .d (.int .i64 w)), (0, .own 900)])
    (fun _ => (999, .ghost vs [.own 900]) :: sM M) (fun i => ms.length - i) 0 (fun _ => rfl) (by simp) (.refl _ _) ⟨rfl, rfl, rfl, rfl, rfl, rfl, rfl, trivial⟩ ⟨rfl, rfl, rfl, rfl, rfl, rfl, rfl, trivial⟩ ?_
  intro i hi
  refine sxCode_sound c1_ok (G := G_mwork) (pl := pl_mwork) _ _ _ _ (by kernel_rfl) ?_
  by_cases hil : i < ms.length
  · have hy : ms[i]? = some ms[i] := List.getElem?_eq_getElem hil
    obtain ⟨m1, m2⟩ := hm _ (List.getElem_mem hil)
    generalize ms[i] = y at hy m1 m2
    have hyd : (ms.map dMB)[i]? = some (.agg [.int .i64 y.1, .str y.2]) := by rw [List.getElem?_map, hy]; rfl
    (conv => whnf)
    (repeat' ((first | refine ord_ok (by (conv => whnf); (repeat' ((first | refine at_da hyd rfl ?_ | refine call_req [] [900, 901, 902, 903, 904, 905] (mhas_ok M y.1 m1 m2) rfl rfl rfl rfl rfl rfl rfl ?_ | refine ify ?_ | refine ifn ?_ | refine i6 ?_ | refine ati ?_ | refine mst ?_ | refine rmd ?_ | refine ibo (fun _ => ?_) (fun _ => ?_)) <;> conv => whnf)); (all_goals (repeat' (first | exact trivial | exact rfl | refine And.intro ?_ ?_)))) ?_ | refine at_da hyd rfl ?_ | refine call_req [] [900, 901, 902, 903, 904, 905] (mhas_ok M y.1 m1 m2) rfl rfl rfl rfl rfl rfl rfl ?_ | refine ify ?_ | refine ifn ?_ | refine i6 ?_ | refine ati ?_ | refine mst ?_ | refine rmd ?_ | refine ibo (fun _ => ?_) (fun _ => ?_)) <;> conv => whnf))
    exact ⟨i + 1, _, _, hil, .refl _ _, ⟨rfl, rfl, rfl, rfl, rfl, rfl, rfl, trivial⟩, ⟨rfl, rfl, rfl, rfl, rfl, rfl, rfl, trivial⟩, by omega⟩
  · ((conv => whnf); repeat' ((first | refine odw ?_ | refine ify ?_ | refine ifn ?_ | refine i6 ?_ | refine ati ?_ | refine mst ?_ | refine rmd ?_ | refine ibo (fun _ => ?_) (fun _ => ?_)) <;> conv => whnf))
    refine loop_lo (ι := Nat) (fun i => i ≤ ms.length) (fun i => [(80, .d (.int .i64 (i : Nat))), (79, .d (.int .i64 (ms.map dMB).length)), (78, .d (.list 2 (ms.map dMB))), (6, .d (.str ns)), (1, .d (.int .i64 w)), (0, .own 900)])
      (fun i => (999, .ghost vs [.own 900]) :: sM { M with net := sendsN M.net w (ms.take i) }) (fun i => ms.length - i) 0 (fun _ => rfl) (by simp) (.refl _ _) ⟨rfl, rfl, rfl, rfl, rfl, rfl, trivial⟩ ⟨rfl, rfl, rfl, rfl, rfl, rfl, rfl, trivial⟩ ?_
    intro i hi
    refine sxCode_sound c1_ok (G := G_mwork) (pl := pl_mwork) _ _ _ _ (by kernel_rfl) ?_
    by_cases hil : i < ms.length
    · have hy : ms[i]? = some ms[i] := List.getElem?_eq_getElem hil
      obtain ⟨m1, m2⟩ := hm _ (List.getElem_mem hil)
      have htk : ms.take (i + 1) = ms.take i ++ [ms[i]] := by rw [List.take_add_one, hy]; rfl
      generalize ms[i] = y at hy m1 m2 htk
      have hyd : (ms.map dMB)[i]? = some (.agg [.int .i64 y.1, .str y.2]) := by rw [List.getElem?_map, hy]; rfl
      have hwk := hM.wks
      have hok := sendsN_ok hM.net (w := w) (by omega) (l := ms.take i) (fun m hmm => by have := hm m (List.mem_of_mem_take hmm); omega)
      rw [List.length_take] at hok
      have hwk2 := sendsN_workers M.net w (ms.take i)
      have hsn := send_obj (sendsN M.net w (ms.take i)) w y.1 y.2 (by omega) (by omega) m1 (by omega) (Nat.le_trans hok.fly (by omega)) ⟨hok.all0, by have := hok.all; omega⟩ (by have := hok.next w y.1; omega)
      (conv => whnf)
      (repeat' ((first | refine ord_ok (by (conv => whnf); (repeat' ((first | refine at_da hyd rfl ?_ | refine call_turnq rfl rfl hsn ?_ | refine ify ?_ | refine ifn ?_ | refine i6 ?_ | refine ati ?_ | refine mst ?_ | refine rmd ?_ | refine ibo (fun _ => ?_) (fun _ => ?_)) <;> conv => whnf)); (all_goals (repeat' (first | exact trivial | exact rfl | refine And.intro ?_ ?_)))) ?_ | refine at_da hyd rfl ?_ | refine call_turnq rfl rfl hsn ?_ | refine ify ?_ | refine ifn ?_ | refine i6 ?_ | refine ati ?_ | refine mst ?_ | refine rmd ?_ | refine ibo (fun _ => ?_) (fun _ => ?_)) <;> conv => whnf))
      exact ⟨i + 1, _, _, hil, .refl _ _, ⟨rfl, rfl, rfl, rfl, rfl, rfl, trivial⟩, ⟨rfl, rfl, rfl, rfl, rfl, rfl, by rw [htk, sendsN_snoc]; rfl, trivial⟩, by omega⟩
    · have hii : ms.take i = ms := List.take_of_length_le (by omega)
      rw [hii]
      have g3 : w < (M.next.map dTx).length := by omega
      have hnx := List.getElem?_eq_getElem (show w < M.next.length by omega)
      generalize M.next[w] = z at hnx
      have hnd : (M.next.map dTx)[w]? = some (.str z) := by rw [List.getElem?_map, hnx]; rfl
      have e1 : (M.next.set w ns).map dTx = (M.next.map dTx).set w (.str ns) := List.map_set
      have e2 : (M.worked.set w true).map dB = (M.worked.map dB).set w (.bool true) := List.map_set
      (conv => whnf)
      (repeat' ((first | refine ord_ok (by (conv => whnf); (repeat' ((first | refine el_at (i := w) rfl g3 ?_ | refine el_at (i := w) rfl g4 ?_ | refine el_is hnd ?_ | refine el_is hwd ?_ | refine ify ?_ | refine ifn ?_ | refine i6 ?_ | refine ati ?_ | refine mst ?_ | refine rmd ?_ | refine ibo (fun _ => ?_) (fun _ => ?_)) <;> conv => whnf)); (all_goals (repeat' (first | exact trivial | exact rfl | refine And.intro ?_ ?_)))) ?_ | refine el_at (i := w) rfl g3 ?_ | refine el_at (i := w) rfl g4 ?_ | refine el_is hnd ?_ | refine el_is hwd ?_ | refine ify ?_ | refine ifn ?_ | refine i6 ?_ | refine ati ?_ | refine mst ?_ | refine rmd ?_ | refine ibo (fun _ => ?_) (fun _ => ?_)) <;> conv => whnf))
      refine ⟨_, _, [], [(900, _), (901, _), (902, _), (903, _), (904, _), (905, _)], .lo (.refl _ _), rfl, ⟨rfl, rfl, rfl, rfl, rfl, rfl, trivial⟩, rfl, rfl, ?_⟩
      simp only [sM, Mach.did, e1, e2]
      rfl
theorem mwork_err (e0 : ByteArray) (c a : Int) (z : ByteArray) (hla : Pure C1 g [M.jx, .int .i64 w, .int .i64 M.round, .str s, .list 1 (l.map dTx)] (fun y => y = .tuple [.str e0, .nils, dF c a z])) :
    RecCall C1 14 [.own 900, .d (.int .i64 w)] (sM M) [900] (fun d σ => d = .d (dS workS (dF c a z)) ∧ σ = sM M) := by
  have hlen := hM.len
  have hinb := hM.inb
  have hwkd := hM.wkd
  have hwl : w < M.states.length := (List.getElem?_eq_some_iff.1 hs).1
  obtain ⟨hl1, hl2⟩ := hM.box l (List.mem_of_getElem? hl)
  have hsd : (M.states.map dTx)[w]? = some (.str s) := by rw [List.getElem?_map, hs]; rfl
  have hld : (M.inbox.map dTs)[w]? = some (.list 1 (l.map dTx)) := by rw [List.getElem?_map, hl]; rfl
  have hwd : (M.worked.map dB)[w]? = some (.bool false) := by rw [List.getElem?_map, h0]; rfl
  have k1 : (M.states.map dTx).length = M.states.length := List.length_map _
  have k2 : (M.inbox.map dTs).length = M.inbox.length := List.length_map _
  have k4 : (M.worked.map dB).length = M.worked.length := List.length_map _
  have g1 : w < (M.states.map dTx).length := by omega
  have g2 : w < (M.inbox.map dTs).length := by omega
  have g4 : w < (M.worked.map dB).length := by omega
  have hcl := sclone_pure l (by omega)
  refine rec_of c1_ok (pl := pl_mwork) (G := G_mwork) Tryd.func14 rfl Tryd.ntmps14 run_mwork cok_mwork (by simp) 999 rfl ?_
  intro vs
  (conv => whnf)
  (repeat' ((first | refine ord_ok (by (conv => whnf); (repeat' ((first | refine call_req [] [900, 901, 902, 903, 904, 905] (mhas_ok M w (by omega) (by omega)) rfl rfl rfl rfl rfl rfl rfl ?_ | refine el_at (i := w) rfl g1 ?_ | refine el_is hsd ?_ | refine el_at (i := w) rfl g2 ?_ | refine el_is hld ?_ | refine el_at (i := w) rfl g4 ?_ | refine el_is hwd ?_ | refine call_eq rfl hcl ?_ | refine op_nilIf rfl rfl rfl rfl ?_ | refine op_invoke rfl rfl rfl meth rfl rfl ?_ | refine call_eq rfl hla ?_ | refine call_eq rfl (in_f_pure workS c a z) ?_ | refine ify ?_ | refine ifn ?_ | refine i6 ?_ | refine ati ?_ | refine mst ?_ | refine rmd ?_ | refine ibo (fun _ => ?_) (fun _ => ?_)) <;> conv => whnf)); (all_goals (repeat' (first | exact trivial | exact rfl | refine And.intro ?_ ?_)))) ?_ | refine call_req [] [900, 901, 902, 903, 904, 905] (mhas_ok M w (by omega) (by omega)) rfl rfl rfl rfl rfl rfl rfl ?_ | refine el_at (i := w) rfl g1 ?_ | refine el_is hsd ?_ | refine el_at (i := w) rfl g2 ?_ | refine el_is hld ?_ | refine el_at (i := w) rfl g4 ?_ | refine el_is hwd ?_ | refine call_eq rfl hcl ?_ | refine op_nilIf rfl rfl rfl rfl ?_ | refine op_invoke rfl rfl rfl meth rfl rfl ?_ | refine call_eq rfl hla ?_ | refine call_eq rfl (in_f_pure workS c a z) ?_ | refine ify ?_ | refine ifn ?_ | refine i6 ?_ | refine ati ?_ | refine mst ?_ | refine rmd ?_ | refine ibo (fun _ => ?_) (fun _ => ?_)) <;> conv => whnf))
  exact ⟨_, _, [], sM M, .lo (.refl _ _), rfl, ⟨rfl, rfl, rfl, rfl, rfl, rfl, trivial⟩, rfl, rfl, rfl⟩
theorem mwork_mail (ns : ByteArray) (m0 : Int × ByteArray) (ms : List (Int × ByteArray)) (hla : Pure C1 g [M.jx, .int .i64 w, .int .i64 M.round, .str s, .list 1 (l.map dTx)] (fun y => y = .tuple [.str ns, .list 2 ((m0 :: ms).map dMB), .nili]))
    (hno : m0.1 < 0 ∨ M.states.length ≤ m0.1) :
    RecCall C1 14 [.own 900, .d (.int .i64 w)] (sM M) [900] (fun d σ => d = .d (dF 3 0 workerS) ∧ σ = sM M) := by
  have hlen := hM.len
  have hinb := hM.inb
  have hwkd := hM.wkd
  have hwl : w < M.states.length := (List.getElem?_eq_some_iff.1 hs).1
  obtain ⟨hl1, hl2⟩ := hM.box l (List.mem_of_getElem? hl)
  have hsd : (M.states.map dTx)[w]? = some (.str s) := by rw [List.getElem?_map, hs]; rfl
  have hld : (M.inbox.map dTs)[w]? = some (.list 1 (l.map dTx)) := by rw [List.getElem?_map, hl]; rfl
  have hwd : (M.worked.map dB)[w]? = some (.bool false) := by rw [List.getElem?_map, h0]; rfl
  have k1 : (M.states.map dTx).length = M.states.length := List.length_map _
  have k2 : (M.inbox.map dTs).length = M.inbox.length := List.length_map _
  have k4 : (M.worked.map dB).length = M.worked.length := List.length_map _
  have g1 : w < (M.states.map dTx).length := by omega
  have g2 : w < (M.inbox.map dTs).length := by omega
  have g4 : w < (M.worked.map dB).length := by omega
  have hcl := sclone_pure l (by omega)
  have hlm : ((m0 :: ms).map dMB).length = ms.length + 1 := by simp
  refine rec_of c1_ok (pl := pl_mwork) (G := G_mwork) Tryd.func14 rfl Tryd.ntmps14 run_mwork cok_mwork (by simp) 999 rfl ?_
  intro vs
  (conv => whnf)
  (repeat' ((first | refine ord_ok (by (conv => whnf); (repeat' ((first | refine call_req [] [900, 901, 902, 903, 904, 905] (mhas_ok M w (by omega) (by omega)) rfl rfl rfl rfl rfl rfl rfl ?_ | refine el_at (i := w) rfl g1 ?_ | refine el_is hsd ?_ | refine el_at (i := w) rfl g2 ?_ | refine el_is hld ?_ | refine el_at (i := w) rfl g4 ?_ | refine el_is hwd ?_ | refine call_eq rfl hcl ?_ | refine op_nilIf rfl rfl rfl rfl ?_ | refine op_invoke rfl rfl rfl meth rfl rfl ?_ | refine call_eq rfl hla ?_ | refine ify ?_ | refine ifn ?_ | refine i6 ?_ | refine ati ?_ | refine mst ?_ | refine rmd ?_ | refine ibo (fun _ => ?_) (fun _ => ?_)) <;> conv => whnf)); (all_goals (repeat' (first | exact trivial | exact rfl | refine And.intro ?_ ?_)))) ?_ | refine call_req [] [900, 901, 902, 903, 904, 905] (mhas_ok M w (by omega) (by omega)) rfl rfl rfl rfl rfl rfl rfl ?_ | refine el_at (i := w) rfl g1 ?_ | refine el_is hsd ?_ | refine el_at (i := w) rfl g2 ?_ | refine el_is hld ?_ | refine el_at (i := w) rfl g4 ?_ | refine el_is hwd ?_ | refine call_eq rfl hcl ?_ | refine op_nilIf rfl rfl rfl rfl ?_ | refine op_invoke rfl rfl rfl meth rfl rfl ?_ | refine call_eq rfl hla ?_ | refine ify ?_ | refine ifn ?_ | refine i6 ?_ | refine ati ?_ | refine mst ?_ | refine rmd ?_ | refine ibo (fun _ => ?_) (fun _ => ?_)) <;> conv => whnf))
  refine loop_lo (ι := Unit) (fun _ => True) (fun _ => [(66, .d (.int .i64 ((0 : Nat) : Int))), (65, .d (.int .i64 ((m0 :: ms).map dMB).length)), (64, .d (.list 2 ((m0 :: ms).map dMB))), (7, .d (.list 2 ((m0 :: ms).map dMB))), (6, .d (.str ns)), (1, .d (.int .i64 w)), (0, .own 900)])
    (fun _ => (999, .ghost vs [.own 900]) :: sM M) (fun _ => 0) () (fun _ => rfl) trivial (.refl _ _) ⟨rfl, rfl, rfl, rfl, rfl, rfl, rfl, trivial⟩ ⟨rfl, rfl, rfl, rfl, rfl, rfl, rfl, trivial⟩ ?_
  intro _ _
  refine sxCode_sound c1_ok (G := G_mwork) (pl := pl_mwork) _ _ _ _ (by kernel_rfl) ?_
  (conv => whnf)
  have hm0 : (m0 :: ms)[0]? = some m0 := rfl
  (repeat' ((first | refine ord_ok (by (conv => whnf); (repeat' ((first | refine call_req [] [900, 901, 902, 903, 904, 905] (mhas_no M m0.1 hno) rfl rfl rfl rfl rfl rfl rfl ?_ | refine ify ?_ | refine ifn ?_ | refine i6 ?_ | refine ati ?_ | refine mst ?_ | refine rmd ?_ | refine ibo (fun _ => ?_) (fun _ => ?_)) <;> conv => whnf)); (all_goals (repeat' (first | exact trivial | exact rfl | refine And.intro ?_ ?_)))) ?_ | refine call_req [] [900, 901, 902, 903, 904, 905] (mhas_no M m0.1 hno) rfl rfl rfl rfl rfl rfl rfl ?_ | refine ify ?_ | refine ifn ?_ | refine i6 ?_ | refine ati ?_ | refine mst ?_ | refine rmd ?_ | refine ibo (fun _ => ?_) (fun _ => ?_)) <;> conv => whnf))
  exact ⟨_, _, [], sM M, .lo (.refl _ _), rfl, ⟨rfl, rfl, rfl, rfl, rfl, rfl, trivial⟩, rfl, rfl, rfl⟩
end
theorem MachOk.did {M : Mach} {B : Nat} (h : MachOk M B) {w : Nat} (hw : w < M.states.length) (ns : ByteArray) {ms : List (Int × ByteArray)} (hm : ∀ m ∈ ms, 0 ≤ m.1 ∧ m.1 < M.states.length) : MachOk (M.did w ns ms) (B + ms.length) :=
  ⟨h.len, h.inb, by simp only [Mach.did, List.length_set]; exact h.nxt, by simp only [Mach.did, List.length_set]; exact h.wkd, by simp only [Mach.did, sendsN_workers]; exact h.wks, sendsN_ok h.net (by rw [h.wks]; omega) (by rw [h.wks]; exact hm), h.sts, h.box⟩
theorem M0_ok (t : TypeId) (x : Da) (states : List ByteArray) (h : states.length ≤ 64) (hs : ∀ s ∈ states, s.size ≤ 1000) : MachOk (M0 t x states) 0 :=
  ⟨by simp only [M0]; omega, by simp [M0], by simp [M0], by simp [M0], rfl, NetOk.new _, hs, fun l hl => by rw [List.eq_of_mem_replicate hl]; simp⟩
theorem methB (t : TypeId) (ht : t = 56) : ∀ (v : Value) (args : Array Value) (w : World), (callMethod (.iface t v) "Work" args).run C1.P w = (callFunc 101 (#[v] ++ args)).run C1.P w := by
  subst ht; intro v args w; kernel_rfl
/-- Finish, where worker bad tells an error -/
theorem finish_bad (k bad : Nat) (hk : 1 ≤ k ∧ k ≤ 6) (hb : bad < k) : RecCall C1 10 [.own 900] (sM (M0 56 (.agg [.int .i64 bad]) (emp k))) [900]
    (fun d σ => ∃ z : Mach, d = .d (dS workS (dF 7 bad brokenS)) ∧ σ = sM z ∧ z.worked[bad]? = some false ∧ z.round = 0 ∧ z.states.length = k ∧ z.worked.length = k) := by
  have hel := emp_len k
  have h0 := M0_ok 56 (.agg [.int .i64 bad]) (emp k) (by omega) (fun s hs => by rw [List.eq_of_mem_replicate hs]; decide)
  have hz : (M0 56 (.agg [.int .i64 bad]) (emp k)).jt = 56 ∧ (M0 56 (.agg [.int .i64 bad]) (emp k)).jx = .agg [.int .i64 bad] ∧ (M0 56 (.agg [.int .i64 bad]) (emp k)).round = 0 ∧ (M0 56 (.agg [.int .i64 bad]) (emp k)).states = emp k ∧ (M0 56 (.agg [.int .i64 bad]) (emp k)).inbox = List.replicate (emp k).length [] ∧ (M0 56 (.agg [.int .i64 bad]) (emp k)).worked = List.replicate (emp k).length false := ⟨rfl, rfl, rfl, rfl, rfl, rfl⟩
  generalize M0 56 (.agg [.int .i64 bad]) (emp k) = Mz at h0 hz
  obtain ⟨z1, z2, z3, z4, z5, z6⟩ := hz
  have hn : (Mz.states.map dTx).length = k := by rw [List.length_map, z4, hel]
  refine rec_of c1_ok (pl := pl_mfin) (G := G_mfin) Tryd.func10 rfl Tryd.ntmps10 run_mfin cok_mfin (by simp) 999 rfl ?_
  intro vs
  ((conv => whnf); repeat' ((first | refine odw ?_ | refine ify ?_ | refine ifn ?_ | refine i6 ?_ | refine ati ?_ | refine mst ?_ | refine rmd ?_ | refine ibo (fun _ => ?_) (fun _ => ?_)) <;> conv => whnf))
  refine loop_lo (ι := Nat × Mach) (fun x => x.1 ≤ bad ∧ MachOk x.2 x.1 ∧ x.2.jt = 56 ∧ x.2.jx = .agg [.int .i64 bad] ∧ x.2.round = 0 ∧ x.2.states = emp k ∧ x.2.inbox = List.replicate (emp k).length [] ∧ ∀ v, x.1 ≤ v → v < k → x.2.worked[v]? = some false) (fun x => [(14, .d (.int .i64 (x.1 : Nat))), (13, .d (.int .i64 (Mz.states.map dTx).length)), (0, .own 900)])
    (fun x => (999, .ghost vs [.own 900]) :: sM x.2) (fun x => bad - x.1) (0, Mz) (fun _ => rfl) ⟨by omega, h0, z1, z2, z3, z4, z5, fun v _ hv => by simp only; rw [z6, List.getElem?_replicate, if_pos (by omega)]⟩ (.refl _ _) ⟨rfl, rfl, rfl, trivial⟩ ⟨rfl, rfl, rfl, rfl, rfl, rfl, rfl, trivial⟩ ?_
  rintro ⟨w, M⟩ ⟨hw, hM, y1, y2, y3, y4, y5, y6⟩
  simp only at hw hM y1 y2 y3 y4 y5 y6
  refine sxCode_sound c1_ok (G := G_mfin) (pl := pl_mfin) _ _ _ _ (by kernel_rfl) ?_
  have hwk := y6 w (Nat.le_refl _) (by omega)
  have hbd : (M.worked.map dB)[w]? = some (.bool false) := by rw [List.getElem?_map, hwk]; rfl
  have g4 : w < (M.worked.map dB).length := (List.getElem?_eq_some_iff.1 hbd).1
  have hs : M.states[w]? = some ⟨#[]⟩ := by rw [y4]; unfold emp; rw [List.getElem?_replicate, if_pos (by omega)]
  have hl : M.inbox[w]? = some [] := by rw [y5, List.getElem?_replicate, if_pos (by omega)]
  by_cases hwb : w = bad
  · subst hwb
    have hwo := mwork_err M hM _ (methB M.jt y1) w _ _ hs hl hwk _ _ _ _ (by rw [y2]; exact brwork_bad w M.round _ _)
    (conv => whnf)
    (repeat' ((first | refine ord_ok (by (conv => whnf); (repeat' ((first | refine el_at (i := w) rfl g4 ?_ | refine el_is hbd ?_ | refine call_req [] [900, 901, 902, 903, 904, 905] hwo rfl rfl rfl rfl rfl rfl rfl ?_ | refine ify ?_ | refine ifn ?_ | refine i6 ?_ | refine ati ?_ | refine mst ?_ | refine rmd ?_ | refine ibo (fun _ => ?_) (fun _ => ?_)) <;> conv => whnf)); (all_goals (repeat' (first | exact trivial | exact rfl | refine And.intro ?_ ?_)))) ?_ | refine el_at (i := w) rfl g4 ?_ | refine el_is hbd ?_ | refine call_req [] [900, 901, 902, 903, 904, 905] hwo rfl rfl rfl rfl rfl rfl rfl ?_ | refine ify ?_ | refine ifn ?_ | refine i6 ?_ | refine ati ?_ | refine mst ?_ | refine rmd ?_ | refine ibo (fun _ => ?_) (fun _ => ?_)) <;> conv => whnf))
    exact ⟨_, _, [], sM M, .lo (.refl _ _), rfl, ⟨rfl, rfl, rfl, rfl, rfl, rfl, trivial⟩, rfl, M, rfl, rfl, hwk, y3, by rw [y4, hel], by rw [hM.wkd, y4, hel]⟩
  · have hm : ∀ m ∈ [((0 : Int), (⟨#[109]⟩ : ByteArray))], 0 ≤ m.1 ∧ m.1 < M.states.length := fun m hm => by
      rw [List.mem_singleton.1 hm, y4, hel]; simp only; omega
    have hwo := mwork_one M hM _ (methB M.jt y1) w _ _ hs hl hwk _ _ (by rw [y2]; exact brwork_ok bad w (by omega) M.round _ (by decide) _) hm (by simp; omega)
    have hdid := hM.did (w := w) (by rw [y4, hel]; omega) (⟨#[]⟩ ++ ⟨#[33]⟩) hm
    (conv => whnf)
    (repeat' ((first | refine ord_ok (by (conv => whnf); (repeat' ((first | refine el_at (i := w) rfl g4 ?_ | refine el_is hbd ?_ | refine call_req [] [900, 901, 902, 903, 904, 905] hwo rfl rfl rfl rfl rfl rfl rfl ?_ | refine ify ?_ | refine ifn ?_ | refine i6 ?_ | refine ati ?_ | refine mst ?_ | refine rmd ?_ | refine ibo (fun _ => ?_) (fun _ => ?_)) <;> conv => whnf)); (all_goals (repeat' (first | exact trivial | exact rfl | refine And.intro ?_ ?_)))) ?_ | refine el_at (i := w) rfl g4 ?_ | refine el_is hbd ?_ | refine call_req [] [900, 901, 902, 903, 904, 905] hwo rfl rfl rfl rfl rfl rfl rfl ?_ | refine ify ?_ | refine ifn ?_ | refine i6 ?_ | refine ati ?_ | refine mst ?_ | refine rmd ?_ | refine ibo (fun _ => ?_) (fun _ => ?_)) <;> conv => whnf))
    refine ⟨(w + 1, _), _, _, ⟨by simp only; omega, hdid, y1, y2, y3, y4, y5, fun v hv1 hv2 => ?_⟩, .refl _ _, ⟨rfl, rfl, rfl, trivial⟩, ⟨rfl, rfl, rfl, rfl, rfl, rfl, rfl, trivial⟩, by simp only; omega⟩
    simp only at hv1 ⊢
    show (M.worked.set w true)[v]? = _
    rw [List.getElem?_set, if_neg (by omega)]
    exact y6 v (by omega) hv2
end Go.Proofs.YtlchegpgicdldaaDoor
