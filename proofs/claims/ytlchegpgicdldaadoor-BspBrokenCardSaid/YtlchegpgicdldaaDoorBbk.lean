/- BspBroken: the walk. -/
import Derived.Test.YtlchegpgicdldaaDoorBbr
namespace Go.Sx
theorem at_lit {ds : List Da} {d : Da} {K : Nat → Da → Prop} (h : ds[0]? = some d) (hK : K 0 d) : ∃ (j : Nat) (d : Da), (0 : Int) = j ∧ ds[j]? = some d ∧ K j d := ⟨0, d, rfl, h, hK⟩
end Go.Sx
namespace Go.Proofs.YtlchegpgicdldaaDoor
open Go.Sx Go.RowKit Go.Reg

set_option maxRecDepth 100000
def pl_nnone : List (Nat × Plan) := []
def G_nnone : List FuncId := []
theorem cok_nnone : codeOk Tryd.prog G_nnone pl_nnone (Tryd.f47.body.getD .skip) = true := by kernel_rfl
theorem run_nnone (vs : Array Value) (w : World) : (callFunc 47 vs).run C1.P w = .ok (.enter 47 vs) w := by kernel_rfl
theorem nnone_pure : Pure C1 47 [] (fun y => y = dF 10 0 netS) := by
  refine pure_of c1_ok (pl := pl_nnone) (G := G_nnone) Tryd.func47 rfl Tryd.ntmps47 run_nnone cok_nnone (by simp) ?_
  (conv => whnf)
  (repeat' ((first | refine ord_ok (by (conv => whnf); (repeat' ((first | refine call_eq rfl (fnew_pure 10 0 netS) ?_ | refine ify ?_ | refine ifn ?_ | refine i6 ?_ | refine ati ?_ | refine mst ?_ | refine rmd ?_ | refine ibo (fun _ => ?_) (fun _ => ?_)) <;> conv => whnf)); (all_goals (repeat' (first | exact trivial | exact rfl | refine And.intro ?_ ?_)))) ?_ | refine call_eq rfl (fnew_pure 10 0 netS) ?_ | refine ify ?_ | refine ifn ?_ | refine i6 ?_ | refine ati ?_ | refine mst ?_ | refine rmd ?_ | refine ibo (fun _ => ?_) (fun _ => ?_)) <;> conv => whnf))
  exact rfl
def pl_nat : List (Nat × Plan) := []
def G_nat : List FuncId := []
theorem cok_nat : codeOk Tryd.prog G_nat pl_nat (Tryd.f55.body.getD .skip) = true := by kernel_rfl
theorem run_nat (vs : Array Value) (w : World) : (callFunc 55 vs).run C1.P w = .ok (.enter 55 vs) w := by kernel_rfl
theorem nat_nil (i : Int) : Pure C1 55 [.nilp, .int .i64 i] (fun y => y = dF 10 0 netS) := by
  refine pure_of c1_ok (pl := pl_nat) (G := G_nat) Tryd.func55 rfl Tryd.ntmps55 run_nat cok_nat (by simp) ?_
  (conv => whnf)
  (repeat' ((first | refine ord_ok (by (conv => whnf); (repeat' ((first | refine call_eq rfl nnone_pure ?_ | refine ify ?_ | refine ifn ?_ | refine i6 ?_ | refine ati ?_ | refine mst ?_ | refine rmd ?_ | refine ibo (fun _ => ?_) (fun _ => ?_)) <;> conv => whnf)); (all_goals (repeat' (first | exact trivial | exact rfl | refine And.intro ?_ ?_)))) ?_ | refine call_eq rfl nnone_pure ?_ | refine ify ?_ | refine ifn ?_ | refine i6 ?_ | refine ati ?_ | refine mst ?_ | refine rmd ?_ | refine ibo (fun _ => ?_) (fun _ => ?_)) <;> conv => whnf))
  exact rfl
def pl_ndel : List (Nat × Plan) := [(6, .leaf [0, 0, 0, 1, 0, 1, 0, 1, 0, 0, 1, 0, 1, 3] [0, 1, 2, 4, 6, 9, 3, 5, 7, 8, 10, 11, 12, 13] [0, 1, 3, 7, 0, 16, 0, 64, 240, 0, 512, 2032, 0, 8191])]
def G_ndel : List FuncId := []
theorem cok_ndel : codeOk Tryd.prog G_ndel pl_ndel (Tryd.f40.body.getD .skip) = true := by kernel_rfl
theorem run_ndel (vs : Array Value) (w : World) : (callFunc 40 vs).run C1.P w = .ok (.enter 40 vs) w := by kernel_rfl
theorem ndel_nil (i : Int) : Pure C1 40 [.nilp, .int .i64 i] (fun y => y = dF 10 0 netS) := by
  refine pure_of c1_ok (pl := pl_ndel) (G := G_ndel) Tryd.func40 rfl Tryd.ntmps40 run_ndel cok_ndel (by simp) ?_
  (conv => whnf)
  (repeat' ((first | refine ord_ok (by (conv => whnf); (repeat' ((first | refine call_eq rfl (nat_nil i) ?_ | refine ify ?_ | refine ifn ?_ | refine i6 ?_ | refine ati ?_ | refine mst ?_ | refine rmd ?_ | refine ibo (fun _ => ?_) (fun _ => ?_)) <;> conv => whnf)); (all_goals (repeat' (first | exact trivial | exact rfl | refine And.intro ?_ ?_)))) ?_ | refine call_eq rfl (nat_nil i) ?_ | refine ify ?_ | refine ifn ?_ | refine i6 ?_ | refine ati ?_ | refine mst ?_ | refine rmd ?_ | refine ibo (fun _ => ?_) (fun _ => ?_)) <;> conv => whnf))
  exact rfl
def pl_ndbl : List (Nat × Plan) := [(4, .leaf [0, 0, 0, 0, 1, 0, 0, 0, 1, 0, 0, 1, 6, 3, 0, 0, 3] [0, 1, 2, 3, 5, 6, 7, 9, 4, 8, 10, 11, 12, 13, 14, 15, 16] [0, 0, 2, 6, 14, 0, 32, 96, 224, 0, 992, 2016, 4064, 8190, 16383, 32767, 65535])]
def G_ndbl : List FuncId := []
theorem cok_ndbl : codeOk Tryd.prog G_ndbl pl_ndbl (Tryd.f41.body.getD .skip) = true := by kernel_rfl
theorem run_ndbl (vs : Array Value) (w : World) : (callFunc 41 vs).run C1.P w = .ok (.enter 41 vs) w := by kernel_rfl
theorem ndbl_nil (i : Int) : Pure C1 41 [.nilp, .int .i64 i] (fun y => y = dF 10 0 netS) := by
  refine pure_of c1_ok (pl := pl_ndbl) (G := G_ndbl) Tryd.func41 rfl Tryd.ntmps41 run_ndbl cok_ndbl (by simp) ?_
  (conv => whnf)
  (repeat' ((first | refine ord_ok (by (conv => whnf); (repeat' ((first | refine call_eq rfl (nat_nil i) ?_ | refine ify ?_ | refine ifn ?_ | refine i6 ?_ | refine ati ?_ | refine mst ?_ | refine rmd ?_ | refine ibo (fun _ => ?_) (fun _ => ?_)) <;> conv => whnf)); (all_goals (repeat' (first | exact trivial | exact rfl | refine And.intro ?_ ?_)))) ?_ | refine call_eq rfl (nat_nil i) ?_ | refine ify ?_ | refine ifn ?_ | refine i6 ?_ | refine ati ?_ | refine mst ?_ | refine rmd ?_ | refine ibo (fun _ => ?_) (fun _ => ?_)) <;> conv => whnf))
  exact rfl
def pl_nfly : List (Nat × Plan) := []
def G_nfly : List FuncId := []
theorem cok_nfly : codeOk Tryd.prog G_nfly pl_nfly (Tryd.f35.body.getD .skip) = true := by kernel_rfl
theorem run_nfly (vs : Array Value) (w : World) : (callFunc 35 vs).run C1.P w = .ok (.enter 35 vs) w := by kernel_rfl
theorem nfly_nil : Pure C1 35 [.nilp] (fun y => y = .nils) := by
  refine pure_of c1_ok (pl := pl_nfly) (G := G_nfly) Tryd.func35 rfl Tryd.ntmps35 run_nfly cok_nfly (by simp) ?_
  ((conv => whnf); repeat' ((first | refine odw ?_ | refine ify ?_ | refine ifn ?_ | refine i6 ?_ | refine ati ?_ | refine mst ?_ | refine rmd ?_ | refine ibo (fun _ => ?_) (fun _ => ?_)) <;> conv => whnf))
  exact rfl
theorem mdel_nil (i : Int) : Pure C1 20 [.nilp, .int .i64 i] (fun y => y = dF 10 0 netS) := by
  refine pure_of c1_ok (pl := pl_mdel) (G := G_mdel) Tryd.func20 rfl Tryd.ntmps20 run_mdel cok_mdel (by simp) ?_
  (conv => whnf)
  (repeat' ((first | refine ord_ok (by (conv => whnf); (repeat' ((first | refine call_eq rfl mnet_nil ?_ | refine call_eq rfl (ndel_nil i) ?_ | refine ify ?_ | refine ifn ?_ | refine i6 ?_ | refine ati ?_ | refine mst ?_ | refine rmd ?_ | refine ibo (fun _ => ?_) (fun _ => ?_)) <;> conv => whnf)); (all_goals (repeat' (first | exact trivial | exact rfl | refine And.intro ?_ ?_)))) ?_ | refine call_eq rfl mnet_nil ?_ | refine call_eq rfl (ndel_nil i) ?_ | refine ify ?_ | refine ifn ?_ | refine i6 ?_ | refine ati ?_ | refine mst ?_ | refine rmd ?_ | refine ibo (fun _ => ?_) (fun _ => ?_)) <;> conv => whnf))
  exact rfl
theorem mdbl_nil (i : Int) : Pure C1 22 [.nilp, .int .i64 i] (fun y => y = dF 10 0 netS) := by
  refine pure_of c1_ok (pl := pl_mdbl) (G := G_mdbl) Tryd.func22 rfl Tryd.ntmps22 run_mdbl cok_mdbl (by simp) ?_
  (conv => whnf)
  (repeat' ((first | refine ord_ok (by (conv => whnf); (repeat' ((first | refine call_eq rfl mnet_nil ?_ | refine call_eq rfl (ndbl_nil i) ?_ | refine ify ?_ | refine ifn ?_ | refine i6 ?_ | refine ati ?_ | refine mst ?_ | refine rmd ?_ | refine ibo (fun _ => ?_) (fun _ => ?_)) <;> conv => whnf)); (all_goals (repeat' (first | exact trivial | exact rfl | refine And.intro ?_ ?_)))) ?_ | refine call_eq rfl mnet_nil ?_ | refine call_eq rfl (ndbl_nil i) ?_ | refine ify ?_ | refine ifn ?_ | refine i6 ?_ | refine ati ?_ | refine mst ?_ | refine rmd ?_ | refine ibo (fun _ => ?_) (fun _ => ?_)) <;> conv => whnf))
  exact rfl
theorem mcra_nil (w : Int) : Pure C1 23 [.nilp, .int .i64 w] (fun y => y = dF 10 0 machineS) := by
  refine pure_of c1_ok (pl := pl_mcra) (G := G_mcra) Tryd.func23 rfl Tryd.ntmps23 run_mcra cok_mcra (by simp) ?_
  (conv => whnf)
  (repeat' ((first | refine ord_ok (by (conv => whnf); (repeat' ((first | refine call_eq rfl (mhas_nil w) ?_ | refine ify ?_ | refine ifn ?_ | refine i6 ?_ | refine ati ?_ | refine mst ?_ | refine rmd ?_ | refine ibo (fun _ => ?_) (fun _ => ?_)) <;> conv => whnf)); (all_goals (repeat' (first | exact trivial | exact rfl | refine And.intro ?_ ?_)))) ?_ | refine call_eq rfl (mhas_nil w) ?_ | refine ify ?_ | refine ifn ?_ | refine i6 ?_ | refine ati ?_ | refine mst ?_ | refine rmd ?_ | refine ibo (fun _ => ?_) (fun _ => ?_)) <;> conv => whnf))
  exact rfl
theorem mpass_nil : Pure C1 18 [.nilp] (fun y => y = dF 10 0 machineS) := by
  refine pure_of c1_ok (pl := pl_mpas) (G := G_mpas) Tryd.func18 rfl Tryd.ntmps18 run_mpas cok_mpas (by simp) ?_
  (conv => whnf)
  (repeat' ((first | refine ord_ok (by (conv => whnf); (repeat' ((first | refine call_eq rfl (fnew_pure 10 0 machineS) ?_ | refine ify ?_ | refine ifn ?_ | refine i6 ?_ | refine ati ?_ | refine mst ?_ | refine rmd ?_ | refine ibo (fun _ => ?_) (fun _ => ?_)) <;> conv => whnf)); (all_goals (repeat' (first | exact trivial | exact rfl | refine And.intro ?_ ?_)))) ?_ | refine call_eq rfl (fnew_pure 10 0 machineS) ?_ | refine ify ?_ | refine ifn ?_ | refine i6 ?_ | refine ati ?_ | refine mst ?_ | refine rmd ?_ | refine ibo (fun _ => ?_) (fun _ => ?_)) <;> conv => whnf))
  exact rfl
theorem mfin_nil : Pure C1 10 [.nilp] (fun y => y = dF 10 0 machineS) := by
  refine pure_of c1_ok (pl := pl_mfin) (G := G_mfin) Tryd.func10 rfl Tryd.ntmps10 run_mfin cok_mfin (by simp) ?_
  (conv => whnf)
  (repeat' ((first | refine ord_ok (by (conv => whnf); (repeat' ((first | refine call_eq rfl (fnew_pure 10 0 machineS) ?_ | refine ify ?_ | refine ifn ?_ | refine i6 ?_ | refine ati ?_ | refine mst ?_ | refine rmd ?_ | refine ibo (fun _ => ?_) (fun _ => ?_)) <;> conv => whnf)); (all_goals (repeat' (first | exact trivial | exact rfl | refine And.intro ?_ ?_)))) ?_ | refine call_eq rfl (fnew_pure 10 0 machineS) ?_ | refine ify ?_ | refine ifn ?_ | refine i6 ?_ | refine ati ?_ | refine mst ?_ | refine rmd ?_ | refine ibo (fun _ => ?_) (fun _ => ?_)) <;> conv => whnf))
  exact rfl
theorem mstat_nil : Pure C1 11 [.nilp] (fun y => y = .nils) := by
  refine pure_of c1_ok (pl := pl_mstates) (G := G_mstates) Tryd.func11 rfl Tryd.ntmps11 run_mstates cok_mstates (by simp) ?_
  ((conv => whnf); repeat' ((first | refine odw ?_ | refine ify ?_ | refine ifn ?_ | refine i6 ?_ | refine ati ?_ | refine mst ?_ | refine rmd ?_ | refine ibo (fun _ => ?_) (fun _ => ?_)) <;> conv => whnf))
  exact rfl
theorem mfly_nilp : Pure C1 16 [.nilp] (fun y => y = .int .i64 0) := by
  refine pure_of c1_ok (pl := pl_mfly) (G := G_mfly) Tryd.func16 rfl Tryd.ntmps16 run_mfly cok_mfly (by simp) ?_
  (conv => whnf)
  (repeat' ((first | refine ord_ok (by (conv => whnf); (repeat' ((first | refine call_eq rfl mnet_nil ?_ | refine call_eq rfl nfly_nil ?_ | refine ify ?_ | refine ifn ?_ | refine i6 ?_ | refine ati ?_ | refine mst ?_ | refine rmd ?_ | refine ibo (fun _ => ?_) (fun _ => ?_)) <;> conv => whnf)); (all_goals (repeat' (first | exact trivial | exact rfl | refine And.intro ?_ ?_)))) ?_ | refine call_eq rfl mnet_nil ?_ | refine call_eq rfl nfly_nil ?_ | refine ify ?_ | refine ifn ?_ | refine i6 ?_ | refine ati ?_ | refine mst ?_ | refine rmd ?_ | refine ibo (fun _ => ?_) (fun _ => ?_)) <;> conv => whnf))
  exact rfl
def pl_nnew : List (Nat × Plan) := []
def G_nnew : List FuncId := []
theorem cok_nnew : codeOk Tryd.prog G_nnew pl_nnew (Tryd.f27.body.getD .skip) = true := by kernel_rfl
theorem run_nnew (vs : Array Value) (w : World) : (callFunc 27 vs).run C1.P w = .ok (.enter 27 vs) w := by kernel_rfl
theorem nnew_bad (k : Int) (h : k < 1 ∨ 64 < k) : Pure C1 27 [.int .i64 k] (fun y => y = .tuple [.nilp, dF 1 0 workersS]) := by
  refine pure_of c1_ok (pl := pl_nnew) (G := G_nnew) Tryd.func27 rfl Tryd.ntmps27 run_nnew cok_nnew (by simp) ?_
  by_cases h1 : k < 1
  · (conv => whnf)
    (repeat' ((first | refine ord_ok (by (conv => whnf); (repeat' ((first | refine call_eq rfl (fnew_pure 1 0 workersS) ?_ | refine ify ?_ | refine ifn ?_ | refine i6 ?_ | refine ati ?_ | refine mst ?_ | refine rmd ?_ | refine ibo (fun _ => ?_) (fun _ => ?_)) <;> conv => whnf)); (all_goals (repeat' (first | exact trivial | exact rfl | refine And.intro ?_ ?_)))) ?_ | refine call_eq rfl (fnew_pure 1 0 workersS) ?_ | refine ify ?_ | refine ifn ?_ | refine i6 ?_ | refine ati ?_ | refine mst ?_ | refine rmd ?_ | refine ibo (fun _ => ?_) (fun _ => ?_)) <;> conv => whnf))
    exact rfl
  · have h2 : 64 < k := by omega
    (conv => whnf)
    (repeat' ((first | refine ord_ok (by (conv => whnf); (repeat' ((first | refine call_eq rfl (fnew_pure 1 0 workersS) ?_ | refine ify ?_ | refine ifn ?_ | refine i6 ?_ | refine ati ?_ | refine mst ?_ | refine rmd ?_ | refine ibo (fun _ => ?_) (fun _ => ?_)) <;> conv => whnf)); (all_goals (repeat' (first | exact trivial | exact rfl | refine And.intro ?_ ?_)))) ?_ | refine call_eq rfl (fnew_pure 1 0 workersS) ?_ | refine ify ?_ | refine ifn ?_ | refine i6 ?_ | refine ati ?_ | refine mst ?_ | refine rmd ?_ | refine ibo (fun _ => ?_) (fun _ => ?_)) <;> conv => whnf))
    exact rfl
theorem new_nil (l : List Da) : Pure C1 9 [.nili, .list 1 l] (fun y => y = .tuple [.nilp, dF 10 0 jobS]) := by
  refine pure_of c1_ok (pl := pl_bnew) (G := G_bnew) Tryd.func9 rfl Tryd.ntmps9 run_bnew cok_bnew (by simp) ?_
  (conv => whnf)
  (repeat' ((first | refine ord_ok (by (conv => whnf); (repeat' ((first | refine call_eq rfl (fnew_pure 10 0 jobS) ?_ | refine ify ?_ | refine ifn ?_ | refine i6 ?_ | refine ati ?_ | refine mst ?_ | refine rmd ?_ | refine ibo (fun _ => ?_) (fun _ => ?_)) <;> conv => whnf)); (all_goals (repeat' (first | exact trivial | exact rfl | refine And.intro ?_ ?_)))) ?_ | refine call_eq rfl (fnew_pure 10 0 jobS) ?_ | refine ify ?_ | refine ifn ?_ | refine i6 ?_ | refine ati ?_ | refine mst ?_ | refine rmd ?_ | refine ibo (fun _ => ?_) (fun _ => ?_)) <;> conv => whnf))
  exact rfl
theorem new_bad (t : TypeId) (x : Da) (l : List Da) (h : (l.length : Int) < 1 ∨ 64 < (l.length : Int)) : Pure C1 9 [.iface t x, .list 1 l] (fun y => y = .tuple [.nilp, dS machineS (dF 1 0 workersS)]) := by
  have hno := nnew_bad l.length h
  refine pure_of c1_ok (pl := pl_bnew) (G := G_bnew) Tryd.func9 rfl Tryd.ntmps9 run_bnew cok_bnew (by simp) ?_
  (conv => whnf)
  (repeat' ((first | refine ord_ok (by (conv => whnf); (repeat' ((first | refine call_eq rfl hno ?_ | refine call_eq rfl (in_f_pure machineS 1 0 workersS) ?_ | refine ify ?_ | refine ifn ?_ | refine i6 ?_ | refine ati ?_ | refine mst ?_ | refine rmd ?_ | refine ibo (fun _ => ?_) (fun _ => ?_)) <;> conv => whnf)); (all_goals (repeat' (first | exact trivial | exact rfl | refine And.intro ?_ ?_)))) ?_ | refine call_eq rfl hno ?_ | refine call_eq rfl (in_f_pure machineS 1 0 workersS) ?_ | refine ify ?_ | refine ifn ?_ | refine i6 ?_ | refine ati ?_ | refine mst ?_ | refine rmd ?_ | refine ibo (fun _ => ?_) (fun _ => ?_)) <;> conv => whnf))
  exact rfl
/-- the names of a second, of a third machine's things -/
def mE : List (Nat × Nat) := [(920, 900), (921, 901), (922, 902), (923, 903), (924, 904), (925, 905)]
def mF : List (Nat × Nat) := [(940, 900), (941, 901), (942, 902), (943, 903), (944, 904), (945, 905)]
def jobZ : Da := .agg [.agg [.nils]]
def aS : ByteArray := ⟨#[97]⟩
def pl_l20k : List (Nat × Plan) := []
def G_l20k : List FuncId := []
theorem cok_l20k : codeOk Tryd.prog G_l20k pl_l20k (Tryd.f7.body.getD .skip) = true := by kernel_rfl
theorem run_l20k (vs : Array Value) (w : World) : (callFunc 7 vs).run C1.P w = .ok (.enter 7 vs) w := by kernel_rfl
set_option maxHeartbeats 8000000 in
theorem lbrk_pure (n8 a8 : Int) (states : List ByteArray) (hn : 0 ≤ n8 ∧ n8 ≤ 255) (ha : 0 ≤ a8 ∧ a8 ≤ 255) : Pure C1 7 [.int .u8 n8, .int .u8 a8, .list 1 (states.map dTx)] (fun y => y = .bool true) := by
  have hlm : (states.map dTx).length = states.length := List.length_map _
  refine pure_of c1_ok (pl := pl_l20k) (G := G_l20k) Tryd.func7 rfl Tryd.ntmps7 run_l20k cok_l20k (by simp) ?_
  by_cases h80 : 80 < states.length
  · (conv => whnf)
    (repeat' ((first | refine ord_ok (by (conv => whnf); (repeat' ((first | refine call_eq rfl lalive20 ?_ | refine ify ?_ | refine ifn ?_ | refine i6 ?_ | refine ati ?_ | refine mst ?_ | refine rmd ?_ | refine ibo (fun _ => ?_) (fun _ => ?_)) <;> conv => whnf)); (all_goals (repeat' (first | exact trivial | exact rfl | refine And.intro ?_ ?_)))) ?_ | refine call_eq rfl lalive20 ?_ | refine ify ?_ | refine ifn ?_ | refine i6 ?_ | refine ati ?_ | refine mst ?_ | refine rmd ?_ | refine ibo (fun _ => ?_) (fun _ => ?_)) <;> conv => whnf))
    exact rfl
  obtain ⟨k, hk, hk1, hk6⟩ : ∃ k : Nat, 1 + n8.tmod 6 = k ∧ 1 ≤ k ∧ k ≤ 6 := ⟨(1 + n8 % 6).toNat, by rw [Int.tmod_eq_emod_of_nonneg hn.1]; omega, by omega, by omega⟩
  obtain ⟨bad, hbd, hbk⟩ : ∃ b : Nat, a8.tmod k = b ∧ b < k := ⟨(a8 % k).toNat, by rw [Int.tmod_eq_emod_of_nonneg ha.1]; have := Int.emod_nonneg a8 (show (k : Int) ≠ 0 by omega); omega, by have := Int.emod_lt_of_pos a8 (show (0 : Int) < k by omega); have := Int.emod_nonneg a8 (show (k : Int) ≠ 0 by omega); omega⟩
  have hne : 1 + n8.tmod 6 ≠ 0 := by omega
  have hel := emp_len k
  have hem : (emp k).map dTx = List.replicate k (.str ⟨#[]⟩) := List.map_replicate
  have hnew := new_ok 56 (.agg [.int .i64 bad]) (emp k) (by omega) (by omega)
  have hfin := finish_bad k bad ⟨hk1, hk6⟩ hbk
  have h0 := M0_ok 56 (.agg [.int .i64 bad]) (emp k) (by omega) (fun s hs => by rw [List.eq_of_mem_replicate hs]; decide)
  have hwe := mwork_err _ h0 _ (methB _ rfl) bad ⟨#[]⟩ [] (show (emp k)[bad]? = _ by unfold emp; rw [List.getElem?_replicate, if_pos hbk]) (show (List.replicate (emp k).length [])[bad]? = _ by rw [List.getElem?_replicate, if_pos (by omega)]) (show (List.replicate (emp k).length false)[bad]? = _ by rw [List.getElem?_replicate, if_pos (by omega)]) _ _ _ _ (brwork_bad bad 0 ⟨#[]⟩ [])
  generalize M0 56 (.agg [.int .i64 bad]) (emp k) = Mz at hnew hfin hwe
  rw [hem] at hnew
  (conv => whnf)
  (repeat' ((first | refine ord_ok (by (conv => whnf); (repeat' ((first | refine call_eq rfl lalive20 ?_ | refine rem_ok hne ?_ | refine mk_ok k hk hk (by omega) ?_ | refine call_frz 40 rfl ?_ | refine ify ?_ | refine ifn ?_ | refine i6 ?_ | refine ati ?_ | refine mst ?_ | refine rmd ?_ | refine ibo (fun _ => ?_) (fun _ => ?_)) <;> conv => whnf)); (all_goals (repeat' (first | exact trivial | exact rfl | refine And.intro ?_ ?_)))) ?_ | refine call_eq rfl lalive20 ?_ | refine rem_ok hne ?_ | refine mk_ok k hk hk (by omega) ?_ | refine call_frz 40 rfl ?_ | refine ify ?_ | refine ifn ?_ | refine i6 ?_ | refine ati ?_ | refine mst ?_ | refine rmd ?_ | refine ibo (fun _ => ?_) (fun _ => ?_)) <;> conv => whnf))
  rw [hk, hbd]
  (conv => whnf)
  (repeat' ((first | refine ord_ok (by (conv => whnf); (repeat' ((first | refine call_req [] [] hnew rfl rfl rfl rfl rfl rfl rfl ?_ | refine call_req [] [900, 901, 902, 903, 904, 905] hwe rfl rfl rfl rfl rfl rfl rfl ?_ | refine call_eq rfl (words_dS workS 7 bad brokenS) ?_ | refine ify ?_ | refine ifn ?_ | refine i6 ?_ | refine ati ?_ | refine mst ?_ | refine rmd ?_ | refine ibo (fun _ => ?_) (fun _ => ?_)) <;> conv => whnf)); (all_goals (repeat' (first | exact trivial | exact rfl | refine And.intro ?_ ?_)))) ?_ | refine call_req [] [] hnew rfl rfl rfl rfl rfl rfl rfl ?_ | refine call_req [] [900, 901, 902, 903, 904, 905] hwe rfl rfl rfl rfl rfl rfl rfl ?_ | refine call_eq rfl (words_dS workS 7 bad brokenS) ?_ | refine ify ?_ | refine ifn ?_ | refine i6 ?_ | refine ati ?_ | refine mst ?_ | refine rmd ?_ | refine ibo (fun _ => ?_) (fun _ => ?_)) <;> conv => whnf))
  refine call_recx [] [900, 901, 902, 903, 904, 905] (y := fun _ : Mach => .d (dS workS (dF 7 bad brokenS))) (τ := sM) (P := fun z => z.worked[bad]? = some false ∧ z.round = 0 ∧ z.states.length = k ∧ z.worked.length = k) hfin (fun d σ ⟨z, h1, h2, h3⟩ => ⟨z, h1, h2, h3⟩) rfl rfl rfl rfl rfl rfl (by intro _; exact rfl) ?_
  rintro M1 ⟨q1, q2, q3, q4⟩
  have hwd := mworked_ok M1 bad false (by omega) q1
  have hrd := mround_ok M1
  rw [q2] at hrd
  have hpw := mpass_wk M1 (List.mem_of_getElem? q1) (by omega)
  have hnew2 := new_ok 33 (jobX [[99]]) [aS] (by decide) (by decide)
  have h02 := M0_ok 33 (jobX [[99]]) [aS] (by decide) (by decide)
  have hml := mwork_mail _ h02 _ (jobB [[99]] (by decide) (by decide)).meth 0 aS [] rfl rfl rfl (nxB 0 aS []) (99, aS) [] (jobwork_pure [[99]] 0 0 aS [] (by decide) (by decide) (by decide) (by simp) (by decide) (by decide)).nest (.inr (by decide))
  have hwd2 := mworked_ok (M0 33 (jobX [[99]]) [aS]) 0 false (by decide) rfl
  have hfl2 := mfly_ok (M0 33 (jobX [[99]]) [aS]) (by decide)
  rw [show (M0 33 (jobX [[99]]) [aS]).net.flying.length = 0 from rfl] at hfl2
  generalize M0 33 (jobX [[99]]) [aS] = M2 at hnew2 hml hwd2 hfl2
  have hwo : ([Da.str workS])[0]? = some (.str workS) := rfl
  (conv => whnf)
  (repeat' ((first | refine ord_ok (by (conv => whnf); (repeat' ((first | refine at_lit hwo ?_ | refine call_eq rfl (code_dS workS 7 bad brokenS) ?_ | refine call_eq rfl (at_dS workS 7 bad brokenS) ?_ | refine call_req [] [900, 901, 902, 903, 904, 905] hwd rfl rfl rfl rfl rfl rfl rfl ?_ | refine call_req [] [900, 901, 902, 903, 904, 905] hrd rfl rfl rfl rfl rfl rfl rfl ?_ | refine call_req [] [900, 901, 902, 903, 904, 905] hpw rfl rfl rfl rfl rfl rfl rfl ?_ | refine call_eq rfl (code_pure 5 0 workerS) ?_ | refine op_again c1_ok (G := []) (.frz 95 rfl (.refl _ _)) (.inr rfl) ?_ | refine call_frz 96 rfl ?_ | refine call_frz 100 rfl ?_ | refine ify ?_ | refine ifn ?_ | refine i6 ?_ | refine ati ?_ | refine mst ?_ | refine rmd ?_ | refine ibo (fun _ => ?_) (fun _ => ?_)) <;> conv => whnf)); (all_goals (repeat' (first | exact trivial | exact rfl | refine And.intro ?_ ?_)))) ?_ | refine at_lit hwo ?_ | refine call_eq rfl (code_dS workS 7 bad brokenS) ?_ | refine call_eq rfl (at_dS workS 7 bad brokenS) ?_ | refine call_req [] [900, 901, 902, 903, 904, 905] hwd rfl rfl rfl rfl rfl rfl rfl ?_ | refine call_req [] [900, 901, 902, 903, 904, 905] hrd rfl rfl rfl rfl rfl rfl rfl ?_ | refine call_req [] [900, 901, 902, 903, 904, 905] hpw rfl rfl rfl rfl rfl rfl rfl ?_ | refine call_eq rfl (code_pure 5 0 workerS) ?_ | refine op_again c1_ok (G := []) (.frz 95 rfl (.refl _ _)) (.inr rfl) ?_ | refine call_frz 96 rfl ?_ | refine call_frz 100 rfl ?_ | refine ify ?_ | refine ifn ?_ | refine i6 ?_ | refine ati ?_ | refine mst ?_ | refine rmd ?_ | refine ibo (fun _ => ?_) (fun _ => ?_)) <;> conv => whnf))
  refine call_nrm rfl ?_
  by_cases hok : 1 ≤ states.length ∧ states.length ≤ 64
  · obtain ⟨hok1, hok2⟩ := hok
    have hnew3 := new_ok 33 jobZ states hok1 hok2
    have hs3 : RecCall C1 11 [.own 900] (sM (M0 33 jobZ states)) [900] (fun d σ => d = .own 907 ∧ σ = sM (M0 33 jobZ states) ++ [(907, .slice 9 1 (states.map dTx))]) := mstates_ok (M0 33 jobZ states) (by simp only [M0]; omega)
    generalize M0 33 jobZ states = M3 at hnew3 hs3
    (conv => whnf)
    (repeat' ((first | refine ord_ok (by (conv => whnf); (repeat' ((first | refine call_req mE [] hnew2 rfl rfl rfl rfl rfl rfl rfl ?_ | refine call_req mE [920, 921, 922, 923, 924, 925] hml rfl rfl rfl rfl rfl rfl rfl ?_ | refine call_req mF [] hnew3 rfl rfl rfl rfl rfl rfl rfl ?_ | refine call_eq rfl (new_nil _) ?_ | refine call_eq rfl (code_pure 10 0 jobS) ?_ | refine ify ?_ | refine ifn ?_ | refine i6 ?_ | refine ati ?_ | refine mst ?_ | refine rmd ?_ | refine ibo (fun _ => ?_) (fun _ => ?_)) <;> conv => whnf)); (all_goals (repeat' (first | exact trivial | exact rfl | refine And.intro ?_ ?_)))) ?_ | refine call_req mE [] hnew2 rfl rfl rfl rfl rfl rfl rfl ?_ | refine call_req mE [920, 921, 922, 923, 924, 925] hml rfl rfl rfl rfl rfl rfl rfl ?_ | refine call_req mF [] hnew3 rfl rfl rfl rfl rfl rfl rfl ?_ | refine call_eq rfl (new_nil _) ?_ | refine call_eq rfl (code_pure 10 0 jobS) ?_ | refine ify ?_ | refine ifn ?_ | refine i6 ?_ | refine ati ?_ | refine mst ?_ | refine rmd ?_ | refine ibo (fun _ => ?_) (fun _ => ?_)) <;> conv => whnf))
    (conv => whnf)
    (repeat' ((first | refine ord_ok (by (conv => whnf); (repeat' ((first | refine ifq ?_ | refine call_eq rfl code_nil_pure ?_ | refine call_req (mF ++ [(947, 907)]) [940, 941, 942, 943, 944, 945] hs3 rfl rfl rfl rfl rfl rfl rfl ?_ | refine call_eq rfl (code_pure 3 0 workerS) ?_ | refine ify ?_ | refine ifn ?_ | refine i6 ?_ | refine ati ?_ | refine mst ?_ | refine rmd ?_ | refine ibo (fun _ => ?_) (fun _ => ?_)) <;> conv => whnf)); (all_goals (repeat' (first | exact trivial | exact rfl | refine And.intro ?_ ?_)))) ?_ | refine ifq ?_ | refine call_eq rfl code_nil_pure ?_ | refine call_req (mF ++ [(947, 907)]) [940, 941, 942, 943, 944, 945] hs3 rfl rfl rfl rfl rfl rfl rfl ?_ | refine call_eq rfl (code_pure 3 0 workerS) ?_ | refine ify ?_ | refine ifn ?_ | refine i6 ?_ | refine ati ?_ | refine mst ?_ | refine rmd ?_ | refine ibo (fun _ => ?_) (fun _ => ?_)) <;> conv => whnf))
    (conv => whnf)
    (repeat' ((first | refine ord_ok (by (conv => whnf); (repeat' ((first | refine call_req mE [920, 921, 922, 923, 924, 925] hwd2 rfl rfl rfl rfl rfl rfl rfl ?_ | refine call_req mE [920, 921, 922, 923, 924, 925] hfl2 rfl rfl rfl rfl rfl rfl rfl ?_ | refine call_eq rfl (mwork_nil 0) ?_ | refine call_eq rfl (code_pure 10 0 machineS) ?_ | refine ify ?_ | refine ifn ?_ | refine i6 ?_ | refine ati ?_ | refine mst ?_ | refine rmd ?_ | refine ibo (fun _ => ?_) (fun _ => ?_)) <;> conv => whnf)); (all_goals (repeat' (first | exact trivial | exact rfl | refine And.intro ?_ ?_)))) ?_ | refine call_req mE [920, 921, 922, 923, 924, 925] hwd2 rfl rfl rfl rfl rfl rfl rfl ?_ | refine call_req mE [920, 921, 922, 923, 924, 925] hfl2 rfl rfl rfl rfl rfl rfl rfl ?_ | refine call_eq rfl (mwork_nil 0) ?_ | refine call_eq rfl (code_pure 10 0 machineS) ?_ | refine ify ?_ | refine ifn ?_ | refine i6 ?_ | refine ati ?_ | refine mst ?_ | refine rmd ?_ | refine ibo (fun _ => ?_) (fun _ => ?_)) <;> conv => whnf))
    (conv => whnf)
    (repeat' ((first | refine ord_ok (by (conv => whnf); (repeat' ((first | refine call_eq rfl (mdel_nil 0) ?_ | refine call_eq rfl (mdbl_nil 0) ?_ | refine call_eq rfl (code_pure 10 0 netS) ?_ | refine ify ?_ | refine ifn ?_ | refine i6 ?_ | refine ati ?_ | refine mst ?_ | refine rmd ?_ | refine ibo (fun _ => ?_) (fun _ => ?_)) <;> conv => whnf)); (all_goals (repeat' (first | exact trivial | exact rfl | refine And.intro ?_ ?_)))) ?_ | refine call_eq rfl (mdel_nil 0) ?_ | refine call_eq rfl (mdbl_nil 0) ?_ | refine call_eq rfl (code_pure 10 0 netS) ?_ | refine ify ?_ | refine ifn ?_ | refine i6 ?_ | refine ati ?_ | refine mst ?_ | refine rmd ?_ | refine ibo (fun _ => ?_) (fun _ => ?_)) <;> conv => whnf))
    (conv => whnf)
    (repeat' ((first | refine ord_ok (by (conv => whnf); (repeat' ((first | refine call_eq rfl (mcra_nil 0) ?_ | refine call_eq rfl mpass_nil ?_ | refine call_eq rfl mfin_nil ?_ | refine call_eq rfl (code_pure 10 0 machineS) ?_ | refine ify ?_ | refine ifn ?_ | refine i6 ?_ | refine ati ?_ | refine mst ?_ | refine rmd ?_ | refine ibo (fun _ => ?_) (fun _ => ?_)) <;> conv => whnf)); (all_goals (repeat' (first | exact trivial | exact rfl | refine And.intro ?_ ?_)))) ?_ | refine call_eq rfl (mcra_nil 0) ?_ | refine call_eq rfl mpass_nil ?_ | refine call_eq rfl mfin_nil ?_ | refine call_eq rfl (code_pure 10 0 machineS) ?_ | refine ify ?_ | refine ifn ?_ | refine i6 ?_ | refine ati ?_ | refine mst ?_ | refine rmd ?_ | refine ibo (fun _ => ?_) (fun _ => ?_)) <;> conv => whnf))
    (conv => whnf)
    (repeat' ((first | refine ord_ok (by (conv => whnf); (repeat' ((first | refine call_eq rfl mround_nil ?_ | refine call_eq rfl mstat_nil ?_ | refine call_eq rfl mfly_nilp ?_ | refine call_eq rfl (mworked_nil 0) ?_ | refine ify ?_ | refine ifn ?_ | refine i6 ?_ | refine ati ?_ | refine mst ?_ | refine rmd ?_ | refine ibo (fun _ => ?_) (fun _ => ?_)) <;> conv => whnf)); (all_goals (repeat' (first | exact trivial | exact rfl | refine And.intro ?_ ?_)))) ?_ | refine call_eq rfl mround_nil ?_ | refine call_eq rfl mstat_nil ?_ | refine call_eq rfl mfly_nilp ?_ | refine call_eq rfl (mworked_nil 0) ?_ | refine ify ?_ | refine ifn ?_ | refine i6 ?_ | refine ati ?_ | refine mst ?_ | refine rmd ?_ | refine ibo (fun _ => ?_) (fun _ => ?_)) <;> conv => whnf))
    exact rfl
  have hnb := new_bad 33 jobZ (states.map dTx) (by rw [hlm]; omega)
  by_cases hlt : states.length < 1
  · skip
    (conv => whnf)
    (repeat' ((first | refine ord_ok (by (conv => whnf); (repeat' ((first | refine call_req mE [] hnew2 rfl rfl rfl rfl rfl rfl rfl ?_ | refine call_req mE [920, 921, 922, 923, 924, 925] hml rfl rfl rfl rfl rfl rfl rfl ?_ | refine call_eq rfl hnb ?_ | refine call_eq rfl (new_nil _) ?_ | refine call_eq rfl (code_pure 10 0 jobS) ?_ | refine ify ?_ | refine ifn ?_ | refine i6 ?_ | refine ati ?_ | refine mst ?_ | refine rmd ?_ | refine ibo (fun _ => ?_) (fun _ => ?_)) <;> conv => whnf)); (all_goals (repeat' (first | exact trivial | exact rfl | refine And.intro ?_ ?_)))) ?_ | refine call_req mE [] hnew2 rfl rfl rfl rfl rfl rfl rfl ?_ | refine call_req mE [920, 921, 922, 923, 924, 925] hml rfl rfl rfl rfl rfl rfl rfl ?_ | refine call_eq rfl hnb ?_ | refine call_eq rfl (new_nil _) ?_ | refine call_eq rfl (code_pure 10 0 jobS) ?_ | refine ify ?_ | refine ifn ?_ | refine i6 ?_ | refine ati ?_ | refine mst ?_ | refine rmd ?_ | refine ibo (fun _ => ?_) (fun _ => ?_)) <;> conv => whnf))
    (conv => whnf)
    (repeat' ((first | refine ord_ok (by (conv => whnf); (repeat' ((first | refine ifq ?_ | refine call_eq rfl (code_dS machineS 1 0 workersS) ?_ | refine call_eq rfl (code_pure 3 0 workerS) ?_ | refine ify ?_ | refine ifn ?_ | refine i6 ?_ | refine ati ?_ | refine mst ?_ | refine rmd ?_ | refine ibo (fun _ => ?_) (fun _ => ?_)) <;> conv => whnf)); (all_goals (repeat' (first | exact trivial | exact rfl | refine And.intro ?_ ?_)))) ?_ | refine ifq ?_ | refine call_eq rfl (code_dS machineS 1 0 workersS) ?_ | refine call_eq rfl (code_pure 3 0 workerS) ?_ | refine ify ?_ | refine ifn ?_ | refine i6 ?_ | refine ati ?_ | refine mst ?_ | refine rmd ?_ | refine ibo (fun _ => ?_) (fun _ => ?_)) <;> conv => whnf))
    (conv => whnf)
    (repeat' ((first | refine ord_ok (by (conv => whnf); (repeat' ((first | refine call_req mE [920, 921, 922, 923, 924, 925] hwd2 rfl rfl rfl rfl rfl rfl rfl ?_ | refine call_req mE [920, 921, 922, 923, 924, 925] hfl2 rfl rfl rfl rfl rfl rfl rfl ?_ | refine call_eq rfl (mwork_nil 0) ?_ | refine call_eq rfl (code_pure 10 0 machineS) ?_ | refine ify ?_ | refine ifn ?_ | refine i6 ?_ | refine ati ?_ | refine mst ?_ | refine rmd ?_ | refine ibo (fun _ => ?_) (fun _ => ?_)) <;> conv => whnf)); (all_goals (repeat' (first | exact trivial | exact rfl | refine And.intro ?_ ?_)))) ?_ | refine call_req mE [920, 921, 922, 923, 924, 925] hwd2 rfl rfl rfl rfl rfl rfl rfl ?_ | refine call_req mE [920, 921, 922, 923, 924, 925] hfl2 rfl rfl rfl rfl rfl rfl rfl ?_ | refine call_eq rfl (mwork_nil 0) ?_ | refine call_eq rfl (code_pure 10 0 machineS) ?_ | refine ify ?_ | refine ifn ?_ | refine i6 ?_ | refine ati ?_ | refine mst ?_ | refine rmd ?_ | refine ibo (fun _ => ?_) (fun _ => ?_)) <;> conv => whnf))
    (conv => whnf)
    (repeat' ((first | refine ord_ok (by (conv => whnf); (repeat' ((first | refine call_eq rfl (mdel_nil 0) ?_ | refine call_eq rfl (mdbl_nil 0) ?_ | refine call_eq rfl (code_pure 10 0 netS) ?_ | refine ify ?_ | refine ifn ?_ | refine i6 ?_ | refine ati ?_ | refine mst ?_ | refine rmd ?_ | refine ibo (fun _ => ?_) (fun _ => ?_)) <;> conv => whnf)); (all_goals (repeat' (first | exact trivial | exact rfl | refine And.intro ?_ ?_)))) ?_ | refine call_eq rfl (mdel_nil 0) ?_ | refine call_eq rfl (mdbl_nil 0) ?_ | refine call_eq rfl (code_pure 10 0 netS) ?_ | refine ify ?_ | refine ifn ?_ | refine i6 ?_ | refine ati ?_ | refine mst ?_ | refine rmd ?_ | refine ibo (fun _ => ?_) (fun _ => ?_)) <;> conv => whnf))
    (conv => whnf)
    (repeat' ((first | refine ord_ok (by (conv => whnf); (repeat' ((first | refine call_eq rfl (mcra_nil 0) ?_ | refine call_eq rfl mpass_nil ?_ | refine call_eq rfl mfin_nil ?_ | refine call_eq rfl (code_pure 10 0 machineS) ?_ | refine ify ?_ | refine ifn ?_ | refine i6 ?_ | refine ati ?_ | refine mst ?_ | refine rmd ?_ | refine ibo (fun _ => ?_) (fun _ => ?_)) <;> conv => whnf)); (all_goals (repeat' (first | exact trivial | exact rfl | refine And.intro ?_ ?_)))) ?_ | refine call_eq rfl (mcra_nil 0) ?_ | refine call_eq rfl mpass_nil ?_ | refine call_eq rfl mfin_nil ?_ | refine call_eq rfl (code_pure 10 0 machineS) ?_ | refine ify ?_ | refine ifn ?_ | refine i6 ?_ | refine ati ?_ | refine mst ?_ | refine rmd ?_ | refine ibo (fun _ => ?_) (fun _ => ?_)) <;> conv => whnf))
    (conv => whnf)
    (repeat' ((first | refine ord_ok (by (conv => whnf); (repeat' ((first | refine call_eq rfl mround_nil ?_ | refine call_eq rfl mstat_nil ?_ | refine call_eq rfl mfly_nilp ?_ | refine call_eq rfl (mworked_nil 0) ?_ | refine ify ?_ | refine ifn ?_ | refine i6 ?_ | refine ati ?_ | refine mst ?_ | refine rmd ?_ | refine ibo (fun _ => ?_) (fun _ => ?_)) <;> conv => whnf)); (all_goals (repeat' (first | exact trivial | exact rfl | refine And.intro ?_ ?_)))) ?_ | refine call_eq rfl mround_nil ?_ | refine call_eq rfl mstat_nil ?_ | refine call_eq rfl mfly_nilp ?_ | refine call_eq rfl (mworked_nil 0) ?_ | refine ify ?_ | refine ifn ?_ | refine i6 ?_ | refine ati ?_ | refine mst ?_ | refine rmd ?_ | refine ibo (fun _ => ?_) (fun _ => ?_)) <;> conv => whnf))
    exact rfl
  · have hgt : 64 < states.length := by omega
    (conv => whnf)
    (repeat' ((first | refine ord_ok (by (conv => whnf); (repeat' ((first | refine call_req mE [] hnew2 rfl rfl rfl rfl rfl rfl rfl ?_ | refine call_req mE [920, 921, 922, 923, 924, 925] hml rfl rfl rfl rfl rfl rfl rfl ?_ | refine call_eq rfl hnb ?_ | refine call_eq rfl (new_nil _) ?_ | refine call_eq rfl (code_pure 10 0 jobS) ?_ | refine ify ?_ | refine ifn ?_ | refine i6 ?_ | refine ati ?_ | refine mst ?_ | refine rmd ?_ | refine ibo (fun _ => ?_) (fun _ => ?_)) <;> conv => whnf)); (all_goals (repeat' (first | exact trivial | exact rfl | refine And.intro ?_ ?_)))) ?_ | refine call_req mE [] hnew2 rfl rfl rfl rfl rfl rfl rfl ?_ | refine call_req mE [920, 921, 922, 923, 924, 925] hml rfl rfl rfl rfl rfl rfl rfl ?_ | refine call_eq rfl hnb ?_ | refine call_eq rfl (new_nil _) ?_ | refine call_eq rfl (code_pure 10 0 jobS) ?_ | refine ify ?_ | refine ifn ?_ | refine i6 ?_ | refine ati ?_ | refine mst ?_ | refine rmd ?_ | refine ibo (fun _ => ?_) (fun _ => ?_)) <;> conv => whnf))
    (conv => whnf)
    (repeat' ((first | refine ord_ok (by (conv => whnf); (repeat' ((first | refine ifq ?_ | refine call_eq rfl (code_dS machineS 1 0 workersS) ?_ | refine call_eq rfl (code_pure 3 0 workerS) ?_ | refine ify ?_ | refine ifn ?_ | refine i6 ?_ | refine ati ?_ | refine mst ?_ | refine rmd ?_ | refine ibo (fun _ => ?_) (fun _ => ?_)) <;> conv => whnf)); (all_goals (repeat' (first | exact trivial | exact rfl | refine And.intro ?_ ?_)))) ?_ | refine ifq ?_ | refine call_eq rfl (code_dS machineS 1 0 workersS) ?_ | refine call_eq rfl (code_pure 3 0 workerS) ?_ | refine ify ?_ | refine ifn ?_ | refine i6 ?_ | refine ati ?_ | refine mst ?_ | refine rmd ?_ | refine ibo (fun _ => ?_) (fun _ => ?_)) <;> conv => whnf))
    (conv => whnf)
    (repeat' ((first | refine ord_ok (by (conv => whnf); (repeat' ((first | refine call_req mE [920, 921, 922, 923, 924, 925] hwd2 rfl rfl rfl rfl rfl rfl rfl ?_ | refine call_req mE [920, 921, 922, 923, 924, 925] hfl2 rfl rfl rfl rfl rfl rfl rfl ?_ | refine call_eq rfl (mwork_nil 0) ?_ | refine call_eq rfl (code_pure 10 0 machineS) ?_ | refine ify ?_ | refine ifn ?_ | refine i6 ?_ | refine ati ?_ | refine mst ?_ | refine rmd ?_ | refine ibo (fun _ => ?_) (fun _ => ?_)) <;> conv => whnf)); (all_goals (repeat' (first | exact trivial | exact rfl | refine And.intro ?_ ?_)))) ?_ | refine call_req mE [920, 921, 922, 923, 924, 925] hwd2 rfl rfl rfl rfl rfl rfl rfl ?_ | refine call_req mE [920, 921, 922, 923, 924, 925] hfl2 rfl rfl rfl rfl rfl rfl rfl ?_ | refine call_eq rfl (mwork_nil 0) ?_ | refine call_eq rfl (code_pure 10 0 machineS) ?_ | refine ify ?_ | refine ifn ?_ | refine i6 ?_ | refine ati ?_ | refine mst ?_ | refine rmd ?_ | refine ibo (fun _ => ?_) (fun _ => ?_)) <;> conv => whnf))
    (conv => whnf)
    (repeat' ((first | refine ord_ok (by (conv => whnf); (repeat' ((first | refine call_eq rfl (mdel_nil 0) ?_ | refine call_eq rfl (mdbl_nil 0) ?_ | refine call_eq rfl (code_pure 10 0 netS) ?_ | refine ify ?_ | refine ifn ?_ | refine i6 ?_ | refine ati ?_ | refine mst ?_ | refine rmd ?_ | refine ibo (fun _ => ?_) (fun _ => ?_)) <;> conv => whnf)); (all_goals (repeat' (first | exact trivial | exact rfl | refine And.intro ?_ ?_)))) ?_ | refine call_eq rfl (mdel_nil 0) ?_ | refine call_eq rfl (mdbl_nil 0) ?_ | refine call_eq rfl (code_pure 10 0 netS) ?_ | refine ify ?_ | refine ifn ?_ | refine i6 ?_ | refine ati ?_ | refine mst ?_ | refine rmd ?_ | refine ibo (fun _ => ?_) (fun _ => ?_)) <;> conv => whnf))
    (conv => whnf)
    (repeat' ((first | refine ord_ok (by (conv => whnf); (repeat' ((first | refine call_eq rfl (mcra_nil 0) ?_ | refine call_eq rfl mpass_nil ?_ | refine call_eq rfl mfin_nil ?_ | refine call_eq rfl (code_pure 10 0 machineS) ?_ | refine ify ?_ | refine ifn ?_ | refine i6 ?_ | refine ati ?_ | refine mst ?_ | refine rmd ?_ | refine ibo (fun _ => ?_) (fun _ => ?_)) <;> conv => whnf)); (all_goals (repeat' (first | exact trivial | exact rfl | refine And.intro ?_ ?_)))) ?_ | refine call_eq rfl (mcra_nil 0) ?_ | refine call_eq rfl mpass_nil ?_ | refine call_eq rfl mfin_nil ?_ | refine call_eq rfl (code_pure 10 0 machineS) ?_ | refine ify ?_ | refine ifn ?_ | refine i6 ?_ | refine ati ?_ | refine mst ?_ | refine rmd ?_ | refine ibo (fun _ => ?_) (fun _ => ?_)) <;> conv => whnf))
    (conv => whnf)
    (repeat' ((first | refine ord_ok (by (conv => whnf); (repeat' ((first | refine call_eq rfl mround_nil ?_ | refine call_eq rfl mstat_nil ?_ | refine call_eq rfl mfly_nilp ?_ | refine call_eq rfl (mworked_nil 0) ?_ | refine ify ?_ | refine ifn ?_ | refine i6 ?_ | refine ati ?_ | refine mst ?_ | refine rmd ?_ | refine ibo (fun _ => ?_) (fun _ => ?_)) <;> conv => whnf)); (all_goals (repeat' (first | exact trivial | exact rfl | refine And.intro ?_ ?_)))) ?_ | refine call_eq rfl mround_nil ?_ | refine call_eq rfl mstat_nil ?_ | refine call_eq rfl mfly_nilp ?_ | refine call_eq rfl (mworked_nil 0) ?_ | refine ify ?_ | refine ifn ?_ | refine i6 ?_ | refine ati ?_ | refine mst ?_ | refine rmd ?_ | refine ibo (fun _ => ?_) (fun _ => ?_)) <;> conv => whnf))
    exact rfl
end Go.Proofs.YtlchegpgicdldaaDoor
