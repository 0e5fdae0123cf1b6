/- BspSame: the walk. -/
import Derived.Test.YtlchegpgicdldaaDoorBfn
namespace Go.Proofs.YtlchegpgicdldaaDoor
open Go.Sx Go.RowKit Go.Reg

set_option maxRecDepth 100000
/-- the names of a second machine's things -/
def mB : List (Nat × Nat) := [(920, 900), (921, 901), (922, 902), (923, 903), (924, 904), (925, 905)]
def sB (M : Mach) : Sg := [(920, .cells 68 [.d (.iface M.jt M.jx), .d (.int .i64 M.round), .own 921, .own 922, .own 923, .own 924, .own 925]),
  (921, .slice 9 1 (M.states.map dTx)), (922, .slice 22 1 (M.inbox.map dTs)), (923, .slice 9 1 (M.next.map dTx)), (924, .slice 4 1 (M.worked.map dB)), (925, (netO M.net).own)]
theorem fin_any {to : List (List Int)} {states : List ByteArray} {r : Nat} {M : Mach} (h : ∃ wk, RunM to (Rst to states r).1 (Rst to states r).2 wk ((r : Nat) : Int) 1000000 M) (hr : r ≤ 1000000) :
    RecCall C1 10 [.own 900] (sM M) [900] (fun d σ => ∃ z : Mach, d = .d .nili ∧ σ = sM z ∧ ∃ wk, RunM to (Rst to states (r + 1)).1 (Rst to states (r + 1)).2 wk ((r + 1 : Nat) : Int) 1000000 z) := by
  obtain ⟨wk, h⟩ := h
  exact (finish_ok h (by omega) (by omega)).weaken fun d σ ⟨h1, M', h2, h3⟩ => ⟨M', h1, h2, _, h3.mono (by omega)⟩
def pl_l20s : List (Nat × Plan) := [(34, .leaf [0, 0, 0, 0, 0, 0, 0, 0, 0, 1, 0, 0, 0, 1, 0, 0] [0, 1, 2, 3, 4, 5, 6, 7, 8, 10, 11, 12, 9, 13, 14, 15] [0, 1, 0, 4, 15, 31, 63, 63, 255, 511, 63, 63, 3135, 7231, 16383, 32767])]
def G_l20s : List FuncId := []
theorem cok_l20s : codeOk Tryd.prog G_l20s pl_l20s (Tryd.f5.body.getD .skip) = true := by kernel_rfl
theorem run_l20s (vs : Array Value) (w : World) : (callFunc 5 vs).run C1.P w = .ok (.enter 5 vs) w := by kernel_rfl
set_option maxHeartbeats 4000000 in
theorem lsame_pure (states : List ByteArray) (to : List (List Int)) (l : List ActB) (r8 : Int) (hr8 : 0 ≤ r8 ∧ r8 ≤ 255) : Pure C1 5 [.list 1 (states.map dTx), .list 1 (to.map dTB), .list 2 (l.map dAB), .int .u8 r8] (fun y => y = .bool true) := by
  have k1 : (states.map dTx).length = states.length := List.length_map _
  have k2 : (l.map dAB).length = l.length := List.length_map _
  refine pure_of c1_ok (pl := pl_l20s) (G := G_l20s) Tryd.func5 rfl Tryd.ntmps5 run_l20s cok_l20s (by simp) ?_
  (conv => whnf)
  (repeat' ((first | refine ord_ok (by (conv => whnf); (repeat' ((first | refine call_eq rfl lalive20 ?_ | refine ify ?_ | refine ifn ?_ | refine i6 ?_ | refine ati ?_ | refine mst ?_ | refine rmd ?_ | refine ibo (fun _ => ?_) (fun _ => ?_)) <;> conv => whnf)); (all_goals (repeat' (first | exact trivial | exact rfl | refine And.intro ?_ ?_)))) ?_ | refine call_eq rfl lalive20 ?_ | refine ify ?_ | refine ifn ?_ | refine i6 ?_ | refine ati ?_ | refine mst ?_ | refine rmd ?_ | refine ibo (fun _ => ?_) (fun _ => ?_)) <;> conv => whnf))
  refine call_pure rfl (fine_pure states to) ?_
  rintro y ⟨b, rfl, hb⟩
  cases b with
  | false =>
    ((conv => whnf); repeat' ((first | refine odw ?_ | refine ify ?_ | refine ifn ?_ | refine i6 ?_ | refine ati ?_ | refine mst ?_ | refine rmd ?_ | refine ibo (fun _ => ?_) (fun _ => ?_)) <;> conv => whnf))
    exact rfl
  | true =>
  have hF := hb.1 rfl
  by_cases h100 : 100 < l.length
  · ((conv => whnf); repeat' ((first | refine odw ?_ | refine ify ?_ | refine ifn ?_ | refine i6 ?_ | refine ati ?_ | refine mst ?_ | refine rmd ?_ | refine ibo (fun _ => ?_) (fun _ => ?_)) <;> conv => whnf))
    exact rfl
  have n1 := hF.n1
  have n6 := hF.n6
  have hnew := new_ok 33 (jobX to) states (by omega) (by omega)
  have hf0 := fresh_run hF
  generalize M0 33 (jobX to) states = Mz at hnew hf0
  (conv => whnf)
  (repeat' ((first | refine ord_ok (by (conv => whnf); (repeat' ((first | refine call_req [] [] hnew rfl rfl rfl rfl rfl rfl rfl ?_ | refine call_req mB [] hnew rfl rfl rfl rfl rfl rfl rfl ?_ | refine ify ?_ | refine ifn ?_ | refine i6 ?_ | refine ati ?_ | refine mst ?_ | refine rmd ?_ | refine ibo (fun _ => ?_) (fun _ => ?_)) <;> conv => whnf)); (all_goals (repeat' (first | exact trivial | exact rfl | refine And.intro ?_ ?_)))) ?_ | refine call_req [] [] hnew rfl rfl rfl rfl rfl rfl rfl ?_ | refine call_req mB [] hnew rfl rfl rfl rfl rfl rfl rfl ?_ | refine ify ?_ | refine ifn ?_ | refine i6 ?_ | refine ati ?_ | refine mst ?_ | refine rmd ?_ | refine ibo (fun _ => ?_) (fun _ => ?_)) <;> conv => whnf))
  refine loop_lo (ι := Nat × Mach) (fun x => x.1 ≤ l.length ∧ GoodM to states x.1 x.2) (fun x => [(13, .d (.int .i64 (x.1 : Nat))), (11, .own 920), (9, .own 900), (3, .d (.int .u8 r8)), (2, .d (.list 2 (l.map dAB))), (0, .d (.list 1 (states.map dTx)))])
    (fun x => sM x.2 ++ sB Mz) (fun x => l.length - x.1) (0, Mz) (fun _ => rfl) ⟨by omega, 0, _, hf0.mono (by omega), by omega⟩ (.refl _ _) ⟨rfl, rfl, rfl, rfl, rfl, rfl, trivial⟩ ⟨rfl, rfl, rfl, rfl, rfl, rfl, rfl, rfl, rfl, rfl, rfl, rfl, trivial⟩ ?_
  rintro ⟨i, M⟩ ⟨hi, hG⟩
  simp only at hi hG
  refine sxCode_sound c1_ok (G := G_l20s) (pl := pl_l20s) _ _ _ _ (by kernel_rfl) ?_
  by_cases hil : i < l.length
  · have hx := List.getElem?_eq_getElem hil
    generalize l[i] = x at hx
    have hxd : (l.map dAB)[i]? = some (.agg [.int .i64 x.kind, .int .i64 x.n]) := by rw [List.getElem?_map, hx]; rfl
    by_cases q0 : x.kind = 0
    · (conv => whnf)
      (repeat' ((first | refine ord_ok (by (conv => whnf); (repeat' ((first | refine at_da hxd rfl ?_ | refine ify ?_ | refine ifn ?_ | refine i6 ?_ | refine ati ?_ | refine mst ?_ | refine rmd ?_ | refine ibo (fun _ => ?_) (fun _ => ?_)) <;> conv => whnf)); (all_goals (repeat' (first | exact trivial | exact rfl | refine And.intro ?_ ?_)))) ?_ | refine at_da hxd rfl ?_ | refine ify ?_ | refine ifn ?_ | refine i6 ?_ | refine ati ?_ | refine mst ?_ | refine rmd ?_ | refine ibo (fun _ => ?_) (fun _ => ?_)) <;> conv => whnf))
      refine call_recx [] [900, 901, 902, 903, 904, 905] (y := fun z : Mach × Da => .d z.2) (τ := fun z => sM z.1) (P := fun z => GoodM to states (i + 1) z.1) (work_any hG (by omega) x.n) (fun _ _ h => h) rfl rfl rfl rfl rfl rfl (by intro _; exact rfl) ?_
      rintro ⟨M1, y⟩ hM1
      ((conv => whnf); repeat' ((first | refine odw ?_ | refine ify ?_ | refine ifn ?_ | refine i6 ?_ | refine ati ?_ | refine mst ?_ | refine rmd ?_ | refine ibo (fun _ => ?_) (fun _ => ?_)) <;> conv => whnf))
      exact ⟨(i + 1, M1), _, _, ⟨hil, hM1⟩, .refl _ _, ⟨rfl, rfl, rfl, rfl, rfl, rfl, trivial⟩, ⟨rfl, rfl, rfl, rfl, rfl, rfl, rfl, rfl, rfl, rfl, rfl, rfl, trivial⟩, by simp only; omega⟩
    by_cases q1 : x.kind = 1
    · (conv => whnf)
      (repeat' ((first | refine ord_ok (by (conv => whnf); (repeat' ((first | refine at_da hxd rfl ?_ | refine ify ?_ | refine ifn ?_ | refine i6 ?_ | refine ati ?_ | refine mst ?_ | refine rmd ?_ | refine ibo (fun _ => ?_) (fun _ => ?_)) <;> conv => whnf)); (all_goals (repeat' (first | exact trivial | exact rfl | refine And.intro ?_ ?_)))) ?_ | refine at_da hxd rfl ?_ | refine ify ?_ | refine ifn ?_ | refine i6 ?_ | refine ati ?_ | refine mst ?_ | refine rmd ?_ | refine ibo (fun _ => ?_) (fun _ => ?_)) <;> conv => whnf))
      refine call_recx [] [900, 901, 902, 903, 904, 905] (y := fun z : Mach × Da => .d z.2) (τ := fun z => sM z.1) (P := fun z => GoodM to states (i + 1) z.1) (del_any hG (by omega) x.n) (fun _ _ h => h) rfl rfl rfl rfl rfl rfl (by intro _; exact rfl) ?_
      rintro ⟨M1, y⟩ hM1
      ((conv => whnf); repeat' ((first | refine odw ?_ | refine ify ?_ | refine ifn ?_ | refine i6 ?_ | refine ati ?_ | refine mst ?_ | refine rmd ?_ | refine ibo (fun _ => ?_) (fun _ => ?_)) <;> conv => whnf))
      exact ⟨(i + 1, M1), _, _, ⟨hil, hM1⟩, .refl _ _, ⟨rfl, rfl, rfl, rfl, rfl, rfl, trivial⟩, ⟨rfl, rfl, rfl, rfl, rfl, rfl, rfl, rfl, rfl, rfl, rfl, rfl, trivial⟩, by simp only; omega⟩
    by_cases q2 : x.kind = 2
    · (conv => whnf)
      (repeat' ((first | refine ord_ok (by (conv => whnf); (repeat' ((first | refine at_da hxd rfl ?_ | refine ify ?_ | refine ifn ?_ | refine i6 ?_ | refine ati ?_ | refine mst ?_ | refine rmd ?_ | refine ibo (fun _ => ?_) (fun _ => ?_)) <;> conv => whnf)); (all_goals (repeat' (first | exact trivial | exact rfl | refine And.intro ?_ ?_)))) ?_ | refine at_da hxd rfl ?_ | refine ify ?_ | refine ifn ?_ | refine i6 ?_ | refine ati ?_ | refine mst ?_ | refine rmd ?_ | refine ibo (fun _ => ?_) (fun _ => ?_)) <;> conv => whnf))
      refine call_recx [] [900, 901, 902, 903, 904, 905] (y := fun z : Mach × Da => .d z.2) (τ := fun z => sM z.1) (P := fun z => GoodM to states (i + 1) z.1) (dbl_any hG (by omega) x.n) (fun _ _ h => h) rfl rfl rfl rfl rfl rfl (by intro _; exact rfl) ?_
      rintro ⟨M1, y⟩ hM1
      ((conv => whnf); repeat' ((first | refine odw ?_ | refine ify ?_ | refine ifn ?_ | refine i6 ?_ | refine ati ?_ | refine mst ?_ | refine rmd ?_ | refine ibo (fun _ => ?_) (fun _ => ?_)) <;> conv => whnf))
      exact ⟨(i + 1, M1), _, _, ⟨hil, hM1⟩, .refl _ _, ⟨rfl, rfl, rfl, rfl, rfl, rfl, trivial⟩, ⟨rfl, rfl, rfl, rfl, rfl, rfl, rfl, rfl, rfl, rfl, rfl, rfl, trivial⟩, by simp only; omega⟩
    by_cases q3 : x.kind = 3
    · (conv => whnf)
      (repeat' ((first | refine ord_ok (by (conv => whnf); (repeat' ((first | refine at_da hxd rfl ?_ | refine ify ?_ | refine ifn ?_ | refine i6 ?_ | refine ati ?_ | refine mst ?_ | refine rmd ?_ | refine ibo (fun _ => ?_) (fun _ => ?_)) <;> conv => whnf)); (all_goals (repeat' (first | exact trivial | exact rfl | refine And.intro ?_ ?_)))) ?_ | refine at_da hxd rfl ?_ | refine ify ?_ | refine ifn ?_ | refine i6 ?_ | refine ati ?_ | refine mst ?_ | refine rmd ?_ | refine ibo (fun _ => ?_) (fun _ => ?_)) <;> conv => whnf))
      refine call_recx [] [900, 901, 902, 903, 904, 905] (y := fun z : Mach × Da => .d z.2) (τ := fun z => sM z.1) (P := fun z => GoodM to states (i + 1) z.1) (cra_any hG x.n) (fun _ _ h => h) rfl rfl rfl rfl rfl rfl (by intro _; exact rfl) ?_
      rintro ⟨M1, y⟩ hM1
      ((conv => whnf); repeat' ((first | refine odw ?_ | refine ify ?_ | refine ifn ?_ | refine i6 ?_ | refine ati ?_ | refine mst ?_ | refine rmd ?_ | refine ibo (fun _ => ?_) (fun _ => ?_)) <;> conv => whnf))
      exact ⟨(i + 1, M1), _, _, ⟨hil, hM1⟩, .refl _ _, ⟨rfl, rfl, rfl, rfl, rfl, rfl, trivial⟩, ⟨rfl, rfl, rfl, rfl, rfl, rfl, rfl, rfl, rfl, rfl, rfl, rfl, trivial⟩, by simp only; omega⟩
    by_cases q4 : x.kind = 4
    · (conv => whnf)
      (repeat' ((first | refine ord_ok (by (conv => whnf); (repeat' ((first | refine at_da hxd rfl ?_ | refine ify ?_ | refine ifn ?_ | refine i6 ?_ | refine ati ?_ | refine mst ?_ | refine rmd ?_ | refine ibo (fun _ => ?_) (fun _ => ?_)) <;> conv => whnf)); (all_goals (repeat' (first | exact trivial | exact rfl | refine And.intro ?_ ?_)))) ?_ | refine at_da hxd rfl ?_ | refine ify ?_ | refine ifn ?_ | refine i6 ?_ | refine ati ?_ | refine mst ?_ | refine rmd ?_ | refine ibo (fun _ => ?_) (fun _ => ?_)) <;> conv => whnf))
      refine call_recx [] [900, 901, 902, 903, 904, 905] (y := fun z : Mach × Da => .d z.2) (τ := fun z => sM z.1) (P := fun z => GoodM to states (i + 1) z.1) (pas_any hG (by omega)) (fun _ _ h => h) rfl rfl rfl rfl rfl rfl (by intro _; exact rfl) ?_
      rintro ⟨M1, y⟩ hM1
      ((conv => whnf); repeat' ((first | refine odw ?_ | refine ify ?_ | refine ifn ?_ | refine i6 ?_ | refine ati ?_ | refine mst ?_ | refine rmd ?_ | refine ibo (fun _ => ?_) (fun _ => ?_)) <;> conv => whnf))
      exact ⟨(i + 1, M1), _, _, ⟨hil, hM1⟩, .refl _ _, ⟨rfl, rfl, rfl, rfl, rfl, rfl, trivial⟩, ⟨rfl, rfl, rfl, rfl, rfl, rfl, rfl, rfl, rfl, rfl, rfl, rfl, trivial⟩, by simp only; omega⟩
    · (conv => whnf)
      (repeat' ((first | refine ord_ok (by (conv => whnf); (repeat' ((first | refine at_da hxd rfl ?_ | refine ify ?_ | refine ifn ?_ | refine i6 ?_ | refine ati ?_ | refine mst ?_ | refine rmd ?_ | refine ibo (fun _ => ?_) (fun _ => ?_)) <;> conv => whnf)); (all_goals (repeat' (first | exact trivial | exact rfl | refine And.intro ?_ ?_)))) ?_ | refine at_da hxd rfl ?_ | refine ify ?_ | refine ifn ?_ | refine i6 ?_ | refine ati ?_ | refine mst ?_ | refine rmd ?_ | refine ibo (fun _ => ?_) (fun _ => ?_)) <;> conv => whnf))
      exact ⟨(i + 1, M), _, _, ⟨hil, hG.keep⟩, .refl _ _, ⟨rfl, rfl, rfl, rfl, rfl, rfl, trivial⟩, ⟨rfl, rfl, rfl, rfl, rfl, rfl, rfl, rfl, rfl, rfl, rfl, rfl, trivial⟩, by simp only; omega⟩
  obtain ⟨r, wk, hM, hri⟩ := hG
  obtain ⟨k, hk, hk3⟩ : ∃ k : Nat, r8.tmod 4 = k ∧ k ≤ 3 := ⟨(r8 % 4).toNat, by rw [Int.tmod_eq_emod_of_nonneg hr8.1]; omega, by omega⟩
  have hrd := mround_ok M
  rw [hM.inv.rd] at hrd
  (conv => whnf)
  (repeat' ((first | refine ord_ok (by (conv => whnf); (repeat' ((first | refine call_req [] [900, 901, 902, 903, 904, 905] hrd rfl rfl rfl rfl rfl rfl rfl ?_ | refine ify ?_ | refine ifn ?_ | refine i6 ?_ | refine ati ?_ | refine mst ?_ | refine rmd ?_ | refine ibo (fun _ => ?_) (fun _ => ?_)) <;> conv => whnf)); (all_goals (repeat' (first | exact trivial | exact rfl | refine And.intro ?_ ?_)))) ?_ | refine call_req [] [900, 901, 902, 903, 904, 905] hrd rfl rfl rfl rfl rfl rfl rfl ?_ | refine ify ?_ | refine ifn ?_ | refine i6 ?_ | refine ati ?_ | refine mst ?_ | refine rmd ?_ | refine ibo (fun _ => ?_) (fun _ => ?_)) <;> conv => whnf))
  rw [hk]
  ((conv => whnf); repeat' ((first | refine odw ?_ | refine ify ?_ | refine ifn ?_ | refine i6 ?_ | refine ati ?_ | refine mst ?_ | refine rmd ?_ | refine ibo (fun _ => ?_) (fun _ => ?_)) <;> conv => whnf))
  refine loop_lo (ι := Nat × Mach) (fun x => x.1 ≤ r + k ∧ ∃ wk, RunM to (Rst to states x.1).1 (Rst to states x.1).2 wk ((x.1 : Nat) : Int) 1000000 x.2) (fun _ => [(14, .d (.int .i64 ((r : Int) + (k : Int)))), (11, .own 920), (9, .own 900), (0, .d (.list 1 (states.map dTx)))])
    (fun x => sM x.2 ++ sB Mz) (fun x => r + k - x.1) (r, M) (fun _ => rfl) ⟨by simp only; omega, wk, hM.mono (by omega)⟩ (.refl _ _) ⟨rfl, rfl, rfl, rfl, trivial⟩ ⟨rfl, rfl, rfl, rfl, rfl, rfl, rfl, rfl, rfl, rfl, rfl, rfl, trivial⟩ ?_
  rintro ⟨r2, M2⟩ ⟨hr2, hM2⟩
  simp only at hr2 hM2
  have hrd2 := mround_ok M2
  rw [show M2.round = r2 from by obtain ⟨_, h⟩ := hM2; exact h.inv.rd] at hrd2
  refine sxCode_sound c1_ok (G := G_l20s) (pl := pl_l20s) _ _ _ _ (by kernel_rfl) ?_
  by_cases hlt : r2 < r + k
  · (conv => whnf)
    (repeat' ((first | refine ord_ok (by (conv => whnf); (repeat' ((first | refine call_req [] [900, 901, 902, 903, 904, 905] hrd2 rfl rfl rfl rfl rfl rfl rfl ?_ | refine ify ?_ | refine ifn ?_ | refine i6 ?_ | refine ati ?_ | refine mst ?_ | refine rmd ?_ | refine ibo (fun _ => ?_) (fun _ => ?_)) <;> conv => whnf)); (all_goals (repeat' (first | exact trivial | exact rfl | refine And.intro ?_ ?_)))) ?_ | refine call_req [] [900, 901, 902, 903, 904, 905] hrd2 rfl rfl rfl rfl rfl rfl rfl ?_ | refine ify ?_ | refine ifn ?_ | refine i6 ?_ | refine ati ?_ | refine mst ?_ | refine rmd ?_ | refine ibo (fun _ => ?_) (fun _ => ?_)) <;> conv => whnf))
    refine call_recx [] [900, 901, 902, 903, 904, 905] (y := fun _ : Mach => .d .nili) (τ := sM) (P := fun z => ∃ wk, RunM to (Rst to states (r2 + 1)).1 (Rst to states (r2 + 1)).2 wk ((r2 + 1 : Nat) : Int) 1000000 z) (fin_any hM2 (by omega)) (fun _ _ h => h) rfl rfl rfl rfl rfl rfl (by intro _; exact rfl) ?_
    intro M3 hM3
    ((conv => whnf); repeat' ((first | refine odw ?_ | refine ify ?_ | refine ifn ?_ | refine i6 ?_ | refine ati ?_ | refine mst ?_ | refine rmd ?_ | refine ibo (fun _ => ?_) (fun _ => ?_)) <;> conv => whnf))
    exact ⟨(r2 + 1, M3), _, _, ⟨hlt, hM3⟩, .refl _ _, ⟨rfl, rfl, rfl, rfl, trivial⟩, ⟨rfl, rfl, rfl, rfl, rfl, rfl, rfl, rfl, rfl, rfl, rfl, rfl, trivial⟩, by simp only; omega⟩
  have hrr : r2 = r + k := by omega
  subst hrr
  (conv => whnf)
  (repeat' ((first | refine ord_ok (by (conv => whnf); (repeat' ((first | refine call_req [] [900, 901, 902, 903, 904, 905] hrd2 rfl rfl rfl rfl rfl rfl rfl ?_ | refine ify ?_ | refine ifn ?_ | refine i6 ?_ | refine ati ?_ | refine mst ?_ | refine rmd ?_ | refine ibo (fun _ => ?_) (fun _ => ?_)) <;> conv => whnf)); (all_goals (repeat' (first | exact trivial | exact rfl | refine And.intro ?_ ?_)))) ?_ | refine call_req [] [900, 901, 902, 903, 904, 905] hrd2 rfl rfl rfl rfl rfl rfl rfl ?_ | refine ify ?_ | refine ifn ?_ | refine i6 ?_ | refine ati ?_ | refine mst ?_ | refine rmd ?_ | refine ibo (fun _ => ?_) (fun _ => ?_)) <;> conv => whnf))
  refine loop_lo (ι := Nat × Mach) (fun x => x.1 ≤ r + k ∧ ∃ wk, RunM to (Rst to states x.1).1 (Rst to states x.1).2 wk ((x.1 : Nat) : Int) 1000000 x.2) (fun _ => [(14, .d (.int .i64 ((r : Int) + (k : Int)))), (11, .own 920), (9, .own 900), (0, .d (.list 1 (states.map dTx)))])
    (fun x => sM M2 ++ sB x.2) (fun x => r + k - x.1) (0, Mz) (fun _ => rfl) ⟨by simp only; omega, _, hf0.mono (by omega)⟩ (.refl _ _) ⟨rfl, rfl, rfl, rfl, trivial⟩ ⟨rfl, rfl, rfl, rfl, rfl, rfl, rfl, rfl, rfl, rfl, rfl, rfl, trivial⟩ ?_
  rintro ⟨r3, M3⟩ ⟨hr3, hM3⟩
  simp only at hr3 hM3
  have hrd3 := mround_ok M3
  rw [show M3.round = r3 from by obtain ⟨_, h⟩ := hM3; exact h.inv.rd] at hrd3
  refine sxCode_sound c1_ok (G := G_l20s) (pl := pl_l20s) _ _ _ _ (by kernel_rfl) ?_
  by_cases hlt3 : r3 < r + k
  · (conv => whnf)
    (repeat' ((first | refine ord_ok (by (conv => whnf); (repeat' ((first | refine call_req mB [920, 921, 922, 923, 924, 925] hrd3 rfl rfl rfl rfl rfl rfl rfl ?_ | refine ify ?_ | refine ifn ?_ | refine i6 ?_ | refine ati ?_ | refine mst ?_ | refine rmd ?_ | refine ibo (fun _ => ?_) (fun _ => ?_)) <;> conv => whnf)); (all_goals (repeat' (first | exact trivial | exact rfl | refine And.intro ?_ ?_)))) ?_ | refine call_req mB [920, 921, 922, 923, 924, 925] hrd3 rfl rfl rfl rfl rfl rfl rfl ?_ | refine ify ?_ | refine ifn ?_ | refine i6 ?_ | refine ati ?_ | refine mst ?_ | refine rmd ?_ | refine ibo (fun _ => ?_) (fun _ => ?_)) <;> conv => whnf))
    refine call_recx mB [920, 921, 922, 923, 924, 925] (y := fun _ : Mach => .d .nili) (τ := sM) (P := fun z => ∃ wk, RunM to (Rst to states (r3 + 1)).1 (Rst to states (r3 + 1)).2 wk ((r3 + 1 : Nat) : Int) 1000000 z) (fin_any hM3 (by omega)) (fun _ _ h => h) rfl rfl rfl rfl rfl rfl (by intro _; exact rfl) ?_
    intro M4 hM4
    ((conv => whnf); repeat' ((first | refine odw ?_ | refine ify ?_ | refine ifn ?_ | refine i6 ?_ | refine ati ?_ | refine mst ?_ | refine rmd ?_ | refine ibo (fun _ => ?_) (fun _ => ?_)) <;> conv => whnf))
    exact ⟨(r3 + 1, M4), _, _, ⟨hlt3, hM4⟩, .refl _ _, ⟨rfl, rfl, rfl, rfl, trivial⟩, ⟨rfl, rfl, rfl, rfl, rfl, rfl, rfl, rfl, rfl, rfl, rfl, rfl, trivial⟩, by simp only; omega⟩
  have hrr3 : r3 = r + k := by omega
  subst hrr3
  obtain ⟨wk2, hM2⟩ := hM2
  obtain ⟨wk3, hM3⟩ := hM3
  have hl := Rst_len to states (r + k)
  have hs2 := mstates_ok M2 (by rw [hM2.len, hl]; omega)
  rw [hM2.inv.sts] at hs2
  have hs3 := mstates_ok M3 (by rw [hM3.len, hl]; omega)
  rw [hM3.inv.sts] at hs3
  generalize (Rst to states (r + k)).1 = W at hl hs2 hs3
  have hlW : (W.map dTx).length = states.length := by rw [List.length_map, hl]
  (conv => whnf)
  (repeat' ((first | refine ord_ok (by (conv => whnf); (repeat' ((first | refine call_req mB [920, 921, 922, 923, 924, 925] hrd3 rfl rfl rfl rfl rfl rfl rfl ?_ | refine call_req [] [900, 901, 902, 903, 904, 905] hs2 rfl rfl rfl rfl rfl rfl rfl ?_ | refine call_req (mB ++ [(917, 907)]) [920, 921, 922, 923, 924, 925] hs3 rfl rfl rfl rfl rfl rfl rfl ?_ | refine ify ?_ | refine ifn ?_ | refine i6 ?_ | refine ati ?_ | refine mst ?_ | refine rmd ?_ | refine ibo (fun _ => ?_) (fun _ => ?_)) <;> conv => whnf)); (all_goals (repeat' (first | exact trivial | exact rfl | refine And.intro ?_ ?_)))) ?_ | refine call_req mB [920, 921, 922, 923, 924, 925] hrd3 rfl rfl rfl rfl rfl rfl rfl ?_ | refine call_req [] [900, 901, 902, 903, 904, 905] hs2 rfl rfl rfl rfl rfl rfl rfl ?_ | refine call_req (mB ++ [(917, 907)]) [920, 921, 922, 923, 924, 925] hs3 rfl rfl rfl rfl rfl rfl rfl ?_ | refine ify ?_ | refine ifn ?_ | refine i6 ?_ | refine ati ?_ | refine mst ?_ | refine rmd ?_ | refine ibo (fun _ => ?_) (fun _ => ?_)) <;> conv => whnf))
  refine loop_lo (ι := Nat) (fun w => w ≤ states.length) (fun w => [(17, .d (.int .i64 (w : Nat))), (16, .d (.list 1 (W.map dTx))), (15, .d (.list 1 (W.map dTx))), (0, .d (.list 1 (states.map dTx)))]) (fun _ => []) (fun w => states.length - w) 0 (fun _ => rfl) (by omega) (.frz 907 rfl (.frz 917 rfl (.refl _ _))) ⟨rfl, rfl, rfl, rfl, trivial⟩ trivial ?_
  intro w hw
  refine sxCode_sound c1_ok (G := G_l20s) (pl := pl_l20s) _ _ _ _ (by kernel_rfl) ?_
  by_cases hwl : w < states.length
  · have hx := List.getElem?_eq_getElem (show w < W.length by omega)
    generalize W[w]'(by omega) = s at hx
    have hxd : (W.map dTx)[w]? = some (.str s) := by rw [List.getElem?_map, hx]; rfl
    (conv => whnf)
    (repeat' ((first | refine ord_ok (by (conv => whnf); (repeat' ((first | refine at_da hxd rfl ?_ | refine ify ?_ | refine ifn ?_ | refine i6 ?_ | refine ati ?_ | refine mst ?_ | refine rmd ?_ | refine ibo (fun _ => ?_) (fun _ => ?_)) <;> conv => whnf)); (all_goals (repeat' (first | exact trivial | exact rfl | refine And.intro ?_ ?_)))) ?_ | refine at_da hxd rfl ?_ | refine ify ?_ | refine ifn ?_ | refine i6 ?_ | refine ati ?_ | refine mst ?_ | refine rmd ?_ | refine ibo (fun _ => ?_) (fun _ => ?_)) <;> conv => whnf))
    exact ⟨w + 1, _, _, hwl, .refl _ _, ⟨rfl, rfl, rfl, rfl, trivial⟩, trivial, by omega⟩
  · ((conv => whnf); repeat' ((first | refine odw ?_ | refine ify ?_ | refine ifn ?_ | refine i6 ?_ | refine ati ?_ | refine mst ?_ | refine rmd ?_ | refine ibo (fun _ => ?_) (fun _ => ?_)) <;> conv => whnf))
    exact rfl
end Go.Proofs.YtlchegpgicdldaaDoor
