/- law20.alive; what Work tells of no worker, of one that worked. -/
import Derived.Test.YtlchegpgicdldaaDoorBnw
namespace Go.Proofs.YtlchegpgicdldaaDoor
open Go.Sx Go.RowKit Go.Reg

set_option maxRecDepth 100000
theorem mwork_no (M : Mach) (w : Int) (h : w < 0 ∨ M.states.length ≤ w) : RecCall C1 14 [.own 900, .d (.int .i64 w)] (sM M) [900] (fun d σ => d = .d (dF 3 0 workerS) ∧ σ = sM M) := by
  refine rec_of c1_ok (pl := pl_mwork) (G := G_mwork) Tryd.func14 rfl Tryd.ntmps14 run_mwork cok_mwork (by simp) 999 rfl ?_
  intro vs
  (conv => whnf)
  (repeat' ((first | refine ord_ok (by (conv => whnf); (repeat' ((first | refine call_req [] [900, 901, 902, 903, 904, 905] (mhas_no M w h) rfl rfl rfl rfl rfl rfl rfl ?_ | refine ify ?_ | refine ifn ?_ | refine i6 ?_ | refine ati ?_ | refine mst ?_ | refine rmd ?_ | refine ibo (fun _ => ?_) (fun _ => ?_)) <;> conv => whnf)); (all_goals (repeat' (first | exact trivial | exact rfl | refine And.intro ?_ ?_)))) ?_ | refine call_req [] [900, 901, 902, 903, 904, 905] (mhas_no M w h) rfl rfl rfl rfl rfl rfl rfl ?_ | refine ify ?_ | refine ifn ?_ | refine i6 ?_ | refine ati ?_ | refine mst ?_ | refine rmd ?_ | refine ibo (fun _ => ?_) (fun _ => ?_)) <;> conv => whnf))
  exact ⟨_, _, [], sM M, .lo (.refl _ _), rfl, ⟨rfl, rfl, rfl, rfl, rfl, rfl, trivial⟩, rfl, rfl, rfl⟩
theorem mwork_there (M : Mach) (w : Nat) (h : w < M.states.length) (hw : M.worked[w]? = some true) : RecCall C1 14 [.own 900, .d (.int .i64 w)] (sM M) [900] (fun d σ => d = .d (dF 4 0 workerS) ∧ σ = sM M) := by
  have hbd : (M.worked.map dB)[w]? = some (.bool true) := by rw [List.getElem?_map, hw]; rfl
  have hwl : w < (M.worked.map dB).length := (List.getElem?_eq_some_iff.1 hbd).1
  refine rec_of c1_ok (pl := pl_mwork) (G := G_mwork) Tryd.func14 rfl Tryd.ntmps14 run_mwork cok_mwork (by simp) 999 rfl ?_
  intro vs
  (conv => whnf)
  (repeat' ((first | refine ord_ok (by (conv => whnf); (repeat' ((first | refine call_req [] [900, 901, 902, 903, 904, 905] (mhas_ok M w (by omega) (by omega)) rfl rfl rfl rfl rfl rfl rfl ?_ | refine el_at (i := w) rfl hwl ?_ | refine el_is hbd ?_ | refine call_eq rfl (fnew_pure 4 0 workerS) ?_ | refine ify ?_ | refine ifn ?_ | refine i6 ?_ | refine ati ?_ | refine mst ?_ | refine rmd ?_ | refine ibo (fun _ => ?_) (fun _ => ?_)) <;> conv => whnf)); (all_goals (repeat' (first | exact trivial | exact rfl | refine And.intro ?_ ?_)))) ?_ | refine call_req [] [900, 901, 902, 903, 904, 905] (mhas_ok M w (by omega) (by omega)) rfl rfl rfl rfl rfl rfl rfl ?_ | refine el_at (i := w) rfl hwl ?_ | refine el_is hbd ?_ | refine call_eq rfl (fnew_pure 4 0 workerS) ?_ | refine ify ?_ | refine ifn ?_ | refine i6 ?_ | refine ati ?_ | refine mst ?_ | refine rmd ?_ | refine ibo (fun _ => ?_) (fun _ => ?_)) <;> conv => whnf))
  exact ⟨_, _, [], sM M, .lo (.refl _ _), rfl, ⟨rfl, rfl, rfl, rfl, rfl, rfl, trivial⟩, rfl, rfl, rfl⟩
theorem mwork_nil (w : Int) : Pure C1 14 [.nilp, .int .i64 w] (fun y => y = dF 10 0 machineS) := by
  refine pure_of c1_ok (pl := pl_mwork) (G := G_mwork) Tryd.func14 rfl Tryd.ntmps14 run_mwork cok_mwork (by simp) ?_
  (conv => whnf)
  (repeat' ((first | refine ord_ok (by (conv => whnf); (repeat' ((first | refine call_eq rfl (mhas_nil w) ?_ | refine ify ?_ | refine ifn ?_ | refine i6 ?_ | refine ati ?_ | refine mst ?_ | refine rmd ?_ | refine ibo (fun _ => ?_) (fun _ => ?_)) <;> conv => whnf)); (all_goals (repeat' (first | exact trivial | exact rfl | refine And.intro ?_ ?_)))) ?_ | refine call_eq rfl (mhas_nil w) ?_ | refine ify ?_ | refine ifn ?_ | refine i6 ?_ | refine ati ?_ | refine mst ?_ | refine rmd ?_ | refine ibo (fun _ => ?_) (fun _ => ?_)) <;> conv => whnf))
  exact rfl
/-- the fresh machine -/
theorem M0_run (to : List (List Int)) (t : TypeId) (x : Da) (states : List ByteArray) (hj : Nonempty (JobB t x nxB (mailsB to))) (n1 : 1 ≤ states.length) (n2 : states.length ≤ 64) (hs : ∀ s ∈ states, s.size ≤ 1000) (tol : to.length ≤ 100000) (tos : ∀ x ∈ to, x.length ≤ 1000 ∧ ∀ n ∈ x, 0 ≤ n ∧ n < states.length) :
    RunM to states (List.replicate states.length []) (List.replicate states.length false) 0 0 (M0 t x states) := by
  refine ⟨⟨rfl, rfl, rfl, rfl, by simp, by simp, by simp [M0], ?_, rfl, NetOk.new _, ⟨[], [], Told.new _, by simp, fun w hw => ?_⟩⟩, hj, ⟨n1, n2, by simp, hs, ?_, tol, tos⟩⟩
  · intro w hw
    rw [List.getElem?_replicate] at hw
    split at hw <;> simp at hw
  · have : (List.replicate states.length false).getD w false = false := by rw [List.getD_eq_getElem?_getD, List.getElem?_replicate]; split <;> rfl
    rw [this]; rfl
  · intro l hl
    rw [List.eq_of_mem_replicate hl]
    simp
def xS : ByteArray := ⟨#[120]⟩
def yS : ByteArray := ⟨#[121]⟩
def xayaS : ByteArray := ⟨#[120, 97, 44, 121, 97]⟩
def aTo : List (List Int) := [[1], [0]]
def aS1 : List ByteArray := roundS [xS, yS] [[], []]
def aB1 : List (List ByteArray) := roundB aTo [xS, yS]
theorem alive_x : (roundS aS1 aB1)[0]? = some xayaS := by kernel_rfl
def pl_l20a : List (Nat × Plan) := []
def G_l20a : List FuncId := []
theorem cok_l20a : codeOk Tryd.prog G_l20a pl_l20a (Tryd.f8.body.getD .skip) = true := by kernel_rfl
theorem run_l20a (vs : Array Value) (w : World) : (callFunc 8 vs).run C1.P w = .ok (.enter 8 vs) w := by kernel_rfl
theorem lalive20 : Pure C1 8 [] (fun y => y = .bool true) := by
  have h0 := M0_run aTo 33 (jobX aTo) [xS, yS] ⟨jobB aTo (by decide) (by decide)⟩ (by decide) (by decide) (by decide) (by decide) (by decide)
  have hnew := new_ok 33 (jobX aTo) [xS, yS] (by decide) (by decide)
  have hf1 := finish_ok h0 (by omega) (by omega)
  refine pure_of c1_ok (pl := pl_l20a) (G := G_l20a) Tryd.func8 rfl Tryd.ntmps8 run_l20a cok_l20a (by simp) ?_
  (conv => whnf)
  (repeat' ((first | refine ord_ok (by (conv => whnf); (repeat' ((first | refine op_again c1_ok (G := []) (.frz 7 rfl (.frz 8 rfl (.refl _ _))) (.inr rfl) ?_ | refine call_frz 9 rfl ?_ | refine call_frz 13 rfl ?_ | refine ify ?_ | refine ifn ?_ | refine i6 ?_ | refine ati ?_ | refine mst ?_ | refine rmd ?_ | refine ibo (fun _ => ?_) (fun _ => ?_)) <;> conv => whnf)); (all_goals (repeat' (first | exact trivial | exact rfl | refine And.intro ?_ ?_)))) ?_ | refine op_again c1_ok (G := []) (.frz 7 rfl (.frz 8 rfl (.refl _ _))) (.inr rfl) ?_ | refine call_frz 9 rfl ?_ | refine call_frz 13 rfl ?_ | refine ify ?_ | refine ifn ?_ | refine i6 ?_ | refine ati ?_ | refine mst ?_ | refine rmd ?_ | refine ibo (fun _ => ?_) (fun _ => ?_)) <;> conv => whnf))
  refine call_nrm rfl ?_
  (conv => whnf)
  (repeat' ((first | refine ord_ok (by (conv => whnf); (repeat' ((first | refine call_req [] [] hnew rfl rfl rfl rfl rfl rfl rfl ?_ | refine ify ?_ | refine ifn ?_ | refine i6 ?_ | refine ati ?_ | refine mst ?_ | refine rmd ?_ | refine ibo (fun _ => ?_) (fun _ => ?_)) <;> conv => whnf)); (all_goals (repeat' (first | exact trivial | exact rfl | refine And.intro ?_ ?_)))) ?_ | refine call_req [] [] hnew rfl rfl rfl rfl rfl rfl rfl ?_ | refine ify ?_ | refine ifn ?_ | refine i6 ?_ | refine ati ?_ | refine mst ?_ | refine rmd ?_ | refine ibo (fun _ => ?_) (fun _ => ?_)) <;> conv => whnf))
  refine call_recx [] [900, 901, 902, 903, 904, 905] (y := fun _ : Mach => .d .nili) (τ := sM) (P := fun M => RunM aTo aS1 aB1 [false, false] 1 0 M) hf1 ?_ rfl rfl rfl rfl rfl rfl (by intro _; exact rfl) ?_
  · rintro d σ1 ⟨rfl, M', rfl, h⟩; exact ⟨M', rfl, rfl, h⟩
  intro M1 h1
  have hf2 := finish_ok h1 (by omega) (by omega)
  ((conv => whnf); repeat' ((first | refine odw ?_ | refine ify ?_ | refine ifn ?_ | refine i6 ?_ | refine ati ?_ | refine mst ?_ | refine rmd ?_ | refine ibo (fun _ => ?_) (fun _ => ?_)) <;> conv => whnf))
  refine call_recx [] [900, 901, 902, 903, 904, 905] (y := fun _ : Mach => .d .nili) (τ := sM) (P := fun M => RunM aTo (roundS aS1 aB1) (roundB aTo aS1) [false, false] 2 0 M) hf2 ?_ rfl rfl rfl rfl rfl rfl (by intro _; exact rfl) ?_
  · rintro d σ1 ⟨rfl, M', rfl, h⟩; exact ⟨M', rfl, rfl, h⟩
  intro M2 h2
  have hst := mstates_ok M2 (by rw [h2.len]; decide)
  have hrd := mround_ok M2
  rw [h2.inv.rd] at hrd
  have hwn := mwork_no M2 2 (.inr (by rw [h2.len]; decide))
  have hl2 : (M2.states.map dTx).length = 2 := by rw [List.length_map, h2.len]; rfl
  have hx0 : (M2.states.map dTx)[0]? = some (.str xayaS) := by rw [List.getElem?_map, h2.inv.sts, alive_x]; rfl
  (conv => whnf)
  (repeat' ((first | refine ord_ok (by (conv => whnf); (repeat' ((first | refine call_req [] [900, 901, 902, 903, 904, 905] hst rfl rfl rfl rfl rfl rfl rfl ?_ | refine call_req [] [900, 901, 902, 903, 904, 905] hrd rfl rfl rfl rfl rfl rfl rfl ?_ | refine el_at (i := 0) rfl (by omega) ?_ | refine el_is hx0 ?_ | refine call_req [] [900, 901, 902, 903, 904, 905] hwn rfl rfl rfl rfl rfl rfl rfl ?_ | refine call_eq rfl (code_pure 3 0 workerS) ?_ | refine ify ?_ | refine ifn ?_ | refine i6 ?_ | refine ati ?_ | refine mst ?_ | refine rmd ?_ | refine ibo (fun _ => ?_) (fun _ => ?_)) <;> conv => whnf)); (all_goals (repeat' (first | exact trivial | exact rfl | refine And.intro ?_ ?_)))) ?_ | refine call_req [] [900, 901, 902, 903, 904, 905] hst rfl rfl rfl rfl rfl rfl rfl ?_ | refine call_req [] [900, 901, 902, 903, 904, 905] hrd rfl rfl rfl rfl rfl rfl rfl ?_ | refine el_at (i := 0) rfl (by omega) ?_ | refine el_is hx0 ?_ | refine call_req [] [900, 901, 902, 903, 904, 905] hwn rfl rfl rfl rfl rfl rfl rfl ?_ | refine call_eq rfl (code_pure 3 0 workerS) ?_ | refine ify ?_ | refine ifn ?_ | refine i6 ?_ | refine ati ?_ | refine mst ?_ | refine rmd ?_ | refine ibo (fun _ => ?_) (fun _ => ?_)) <;> conv => whnf))
  exact rfl
end Go.Proofs.YtlchegpgicdldaaDoor
