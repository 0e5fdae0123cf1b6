/- The machine, owned: has, back, Round, States, Worked, net. -/
import Derived.Test.YtlchegpgicdldaaDoorBsm
namespace Go.Proofs.YtlchegpgicdldaaDoor
open Go.Sx Go.RowKit Go.Reg

set_option maxRecDepth 100000
structure Mach where
  jt : TypeId
  jx : Da
  round : Int
  states : List ByteArray
  inbox : List (List ByteArray)
  next : List ByteArray
  worked : List Bool
  net : NetM
/-- a machine's own things: the struct 900, its states, inboxes, next states, who worked, its net -/
def sM (M : Mach) : Sg := [(900, .cells 68 [.d (.iface M.jt M.jx), .d (.int .i64 M.round), .own 901, .own 902, .own 903, .own 904, .own 905]),
  (901, .slice 9 1 (M.states.map dTx)), (902, .slice 22 1 (M.inbox.map dTs)), (903, .slice 9 1 (M.next.map dTx)), (904, .slice 4 1 (M.worked.map dB)), (905, (netO M.net).own)]
def machineS : ByteArray := ⟨#[109, 97, 99, 104, 105, 110, 101]⟩
def workerS : ByteArray := ⟨#[119, 111, 114, 107, 101, 114]⟩
def pl_mhas : List (Nat × Plan) := []
def G_mhas : List FuncId := []
theorem cok_mhas : codeOk Tryd.prog G_mhas pl_mhas (Tryd.f32.body.getD .skip) = true := by kernel_rfl
theorem run_mhas (vs : Array Value) (w : World) : (callFunc 32 vs).run C1.P w = .ok (.enter 32 vs) w := by kernel_rfl
theorem mhas_ok (M : Mach) (w : Int) (h0 : 0 ≤ w) (h1 : w < M.states.length) : RecCall C1 32 [.own 900, .d (.int .i64 w)] (sM M) [900] (fun d σ => d = .d .nili ∧ σ = sM M) := by
  have hlm : (M.states.map dTx).length = M.states.length := List.length_map _
  refine rec_of c1_ok (pl := pl_mhas) (G := G_mhas) Tryd.func32 rfl Tryd.ntmps32 run_mhas cok_mhas (by simp) 999 rfl ?_
  intro vs
  ((conv => whnf); repeat' ((first | refine odw ?_ | refine ify ?_ | refine ifn ?_ | refine i6 ?_ | refine ati ?_ | refine mst ?_ | refine rmd ?_ | refine ibo (fun _ => ?_) (fun _ => ?_)) <;> conv => whnf))
  exact ⟨_, _, [], sM M, .lo (.refl _ _), rfl, ⟨rfl, rfl, rfl, rfl, rfl, rfl, trivial⟩, rfl, rfl, rfl⟩
theorem mhas_no (M : Mach) (w : Int) (h : w < 0 ∨ M.states.length ≤ w) : RecCall C1 32 [.own 900, .d (.int .i64 w)] (sM M) [900] (fun d σ => d = .d (dF 3 0 workerS) ∧ σ = sM M) := by
  have hlm : (M.states.map dTx).length = M.states.length := List.length_map _
  refine rec_of c1_ok (pl := pl_mhas) (G := G_mhas) Tryd.func32 rfl Tryd.ntmps32 run_mhas cok_mhas (by simp) 999 rfl ?_
  intro vs
  by_cases hw : w < 0
  · (conv => whnf)
    (repeat' ((first | refine ord_ok (by (conv => whnf); (repeat' ((first | refine call_eq rfl (fnew_pure 3 0 workerS) ?_ | refine ify ?_ | refine ifn ?_ | refine i6 ?_ | refine ati ?_ | refine mst ?_ | refine rmd ?_ | refine ibo (fun _ => ?_) (fun _ => ?_)) <;> conv => whnf)); (all_goals (repeat' (first | exact trivial | exact rfl | refine And.intro ?_ ?_)))) ?_ | refine call_eq rfl (fnew_pure 3 0 workerS) ?_ | refine ify ?_ | refine ifn ?_ | refine i6 ?_ | refine ati ?_ | refine mst ?_ | refine rmd ?_ | refine ibo (fun _ => ?_) (fun _ => ?_)) <;> conv => whnf))
    exact ⟨_, _, [], sM M, .lo (.refl _ _), rfl, ⟨rfl, rfl, rfl, rfl, rfl, rfl, trivial⟩, rfl, rfl, rfl⟩
  · have hw2 : M.states.length ≤ w := by omega
    (conv => whnf)
    (repeat' ((first | refine ord_ok (by (conv => whnf); (repeat' ((first | refine call_eq rfl (fnew_pure 3 0 workerS) ?_ | refine ify ?_ | refine ifn ?_ | refine i6 ?_ | refine ati ?_ | refine mst ?_ | refine rmd ?_ | refine ibo (fun _ => ?_) (fun _ => ?_)) <;> conv => whnf)); (all_goals (repeat' (first | exact trivial | exact rfl | refine And.intro ?_ ?_)))) ?_ | refine call_eq rfl (fnew_pure 3 0 workerS) ?_ | refine ify ?_ | refine ifn ?_ | refine i6 ?_ | refine ati ?_ | refine mst ?_ | refine rmd ?_ | refine ibo (fun _ => ?_) (fun _ => ?_)) <;> conv => whnf))
    exact ⟨_, _, [], sM M, .lo (.refl _ _), rfl, ⟨rfl, rfl, rfl, rfl, rfl, rfl, trivial⟩, rfl, rfl, rfl⟩
theorem mhas_nil (w : Int) : Pure C1 32 [.nilp, .int .i64 w] (fun y => y = dF 10 0 machineS) := by
  refine pure_of c1_ok (pl := pl_mhas) (G := G_mhas) Tryd.func32 rfl Tryd.ntmps32 run_mhas cok_mhas (by simp) ?_
  (conv => whnf)
  (repeat' ((first | refine ord_ok (by (conv => whnf); (repeat' ((first | refine call_eq rfl (fnew_pure 10 0 machineS) ?_ | refine ify ?_ | refine ifn ?_ | refine i6 ?_ | refine ati ?_ | refine mst ?_ | refine rmd ?_ | refine ibo (fun _ => ?_) (fun _ => ?_)) <;> conv => whnf)); (all_goals (repeat' (first | exact trivial | exact rfl | refine And.intro ?_ ?_)))) ?_ | refine call_eq rfl (fnew_pure 10 0 machineS) ?_ | refine ify ?_ | refine ifn ?_ | refine i6 ?_ | refine ati ?_ | refine mst ?_ | refine rmd ?_ | refine ibo (fun _ => ?_) (fun _ => ?_)) <;> conv => whnf))
  exact rfl
/-- as it was kept last -/
def Mach.back (M : Mach) : Mach := { M with next := List.replicate M.states.length ⟨#[]⟩, worked := List.replicate M.states.length false, net := ⟨M.net.workers, [], 0, [], []⟩ }
def pl_mback : List (Nat × Plan) := [(0, .split 7 13 (.split 13 16 (.leaf [0, 0, 0, 0, 0, 1, 0, 2, 0, 0, 0, 1, 0, 2, 0, 0, 3, 0, 0, 3] [0, 1, 2, 3, 4, 8, 9, 10, 5, 6, 11, 12, 7, 14, 15, 13, 16, 17, 18, 19] [0, 0, 0, 4, 12, 28, 60, 124, 0, 256, 768, 1792, 3840, 8188, 4093, 20477, 65533, 131071, 262143, 524287]) (.leaf [0, 0, 0, 0, 0, 1, 0, 2, 0, 0, 0, 1, 0, 2, 0, 0, 3, 0, 0, 3] [0, 1, 2, 3, 4, 8, 9, 10, 5, 6, 11, 12, 7, 14, 15, 16, 13, 17, 18, 19] [0, 0, 0, 4, 12, 28, 60, 124, 0, 256, 768, 1792, 3840, 122877, 4093, 20477, 53245, 131071, 262143, 524287])) (.leaf [0, 0, 0, 0, 0, 1, 0, 2, 0, 0, 0, 1, 0, 2, 0, 0, 3, 0, 0, 3] [0, 1, 2, 3, 4, 8, 9, 10, 5, 6, 11, 12, 13, 7, 14, 15, 16, 17, 18, 19] [0, 0, 0, 4, 12, 28, 60, 16252, 0, 256, 768, 1792, 3840, 7936, 16381, 32765, 65533, 131071, 262143, 524287]))]
def G_mback : List FuncId := []
theorem cok_mback : codeOk Tryd.prog G_mback pl_mback (Tryd.f30.body.getD .skip) = true := by kernel_rfl
theorem run_mback (vs : Array Value) (w : World) : (callFunc 30 vs).run C1.P w = .ok (.enter 30 vs) w := by kernel_rfl
theorem mback_ok (M : Mach) (h : M.states.length ≤ 1000) : RecCall C1 30 [.own 900] (sM M) [900] (fun d σ => d = .d (.tuple []) ∧ σ = sM M.back) := by
  have hlm : (M.states.map dTx).length = M.states.length := List.length_map _
  refine rec_of c1_ok (pl := pl_mback) (G := G_mback) Tryd.func30 rfl Tryd.ntmps30 run_mback cok_mback (by simp) 999 rfl ?_
  intro vs
  (conv => whnf)
  (repeat' ((first | refine ord_ok (by (conv => whnf); (repeat' ((first | refine mk_ok M.states.length (by omega) (by omega) (by omega) ?_ | refine ify ?_ | refine ifn ?_ | refine i6 ?_ | refine ati ?_ | refine mst ?_ | refine rmd ?_ | refine ibo (fun _ => ?_) (fun _ => ?_)) <;> conv => whnf)); (all_goals (repeat' (first | exact trivial | exact rfl | refine And.intro ?_ ?_)))) ?_ | refine mk_ok M.states.length (by omega) (by omega) (by omega) ?_ | refine ify ?_ | refine ifn ?_ | refine i6 ?_ | refine ati ?_ | refine mst ?_ | refine rmd ?_ | refine ibo (fun _ => ?_) (fun _ => ?_)) <;> conv => whnf))
  refine call_from 906 rfl rfl rfl (next_obj M.net) ?_
  rintro r y rfl
  ((conv => whnf); repeat' ((first | refine odw ?_ | refine ify ?_ | refine ifn ?_ | refine i6 ?_ | refine ati ?_ | refine mst ?_ | refine rmd ?_ | refine ibo (fun _ => ?_) (fun _ => ?_)) <;> conv => whnf))
  have e1 : (List.replicate M.states.length (⟨#[]⟩ : ByteArray)).map dTx = List.replicate M.states.length (.str ⟨#[]⟩) := List.map_replicate
  have e2 : (List.replicate M.states.length false).map dB = List.replicate M.states.length (.bool false) := List.map_replicate
  refine ⟨_, _, [(9, 903), (15, 904), (906, 905)], [(900, _), (901, _), (902, _), (9, _), (15, _), (906, _)], .lo (.refl _ _), rfl, ⟨rfl, rfl, rfl, rfl, rfl, rfl, trivial⟩, rfl, rfl, ?_⟩
  simp only [sM, Mach.back, e1, e2]
  rfl
def pl_mround : List (Nat × Plan) := []
def G_mround : List FuncId := []
theorem cok_mround : codeOk Tryd.prog G_mround pl_mround (Tryd.f17.body.getD .skip) = true := by kernel_rfl
theorem run_mround (vs : Array Value) (w : World) : (callFunc 17 vs).run C1.P w = .ok (.enter 17 vs) w := by kernel_rfl
theorem mround_ok (M : Mach) : RecCall C1 17 [.own 900] (sM M) [900] (fun d σ => d = .d (.int .i64 M.round) ∧ σ = sM M) := by
  refine rec_of c1_ok (pl := pl_mround) (G := G_mround) Tryd.func17 rfl Tryd.ntmps17 run_mround cok_mround (by simp) 999 rfl ?_
  intro vs
  ((conv => whnf); repeat' ((first | refine odw ?_ | refine ify ?_ | refine ifn ?_ | refine i6 ?_ | refine ati ?_ | refine mst ?_ | refine rmd ?_ | refine ibo (fun _ => ?_) (fun _ => ?_)) <;> conv => whnf))
  exact ⟨_, _, [], sM M, .lo (.refl _ _), rfl, ⟨rfl, rfl, rfl, rfl, rfl, rfl, trivial⟩, rfl, rfl, rfl⟩
theorem mround_nil : Pure C1 17 [.nilp] (fun y => y = .int .i64 0) := by
  refine pure_of c1_ok (pl := pl_mround) (G := G_mround) Tryd.func17 rfl Tryd.ntmps17 run_mround cok_mround (by simp) ?_
  ((conv => whnf); repeat' ((first | refine odw ?_ | refine ify ?_ | refine ifn ?_ | refine i6 ?_ | refine ati ?_ | refine mst ?_ | refine rmd ?_ | refine ibo (fun _ => ?_) (fun _ => ?_)) <;> conv => whnf))
  exact rfl
def pl_mnet : List (Nat × Plan) := []
def G_mnet : List FuncId := []
theorem cok_mnet : codeOk Tryd.prog G_mnet pl_mnet (Tryd.f34.body.getD .skip) = true := by kernel_rfl
theorem run_mnet (vs : Array Value) (w : World) : (callFunc 34 vs).run C1.P w = .ok (.enter 34 vs) w := by kernel_rfl
theorem mnet_ok (M : Mach) : RecCall C1 34 [.own 900] (sM M) [900] (fun d σ => d = .own 905 ∧ σ = sM M) := by
  refine rec_of c1_ok (pl := pl_mnet) (G := G_mnet) Tryd.func34 rfl Tryd.ntmps34 run_mnet cok_mnet (by simp) 999 rfl ?_
  intro vs
  ((conv => whnf); repeat' ((first | refine odw ?_ | refine ify ?_ | refine ifn ?_ | refine i6 ?_ | refine ati ?_ | refine mst ?_ | refine rmd ?_ | refine ibo (fun _ => ?_) (fun _ => ?_)) <;> conv => whnf))
  exact ⟨_, _, [], sM M, .lo (.refl _ _), rfl, ⟨rfl, rfl, rfl, rfl, rfl, rfl, trivial⟩, rfl, rfl, rfl⟩
theorem mnet_nil : Pure C1 34 [.nilp] (fun y => y = .nilp) := by
  refine pure_of c1_ok (pl := pl_mnet) (G := G_mnet) Tryd.func34 rfl Tryd.ntmps34 run_mnet cok_mnet (by simp) ?_
  ((conv => whnf); repeat' ((first | refine odw ?_ | refine ify ?_ | refine ifn ?_ | refine i6 ?_ | refine ati ?_ | refine mst ?_ | refine rmd ?_ | refine ibo (fun _ => ?_) (fun _ => ?_)) <;> conv => whnf))
  exact rfl
def pl_mstates : List (Nat × Plan) := []
def G_mstates : List FuncId := []
theorem cok_mstates : codeOk Tryd.prog G_mstates pl_mstates (Tryd.f11.body.getD .skip) = true := by kernel_rfl
theorem run_mstates (vs : Array Value) (w : World) : (callFunc 11 vs).run C1.P w = .ok (.enter 11 vs) w := by kernel_rfl
theorem mstates_ok (M : Mach) (h : M.states.length ≤ 1000) : RecCall C1 11 [.own 900] (sM M) [900] (fun d σ => d = .own 907 ∧ σ = sM M ++ [(907, .slice 9 1 (M.states.map dTx))]) := by
  refine rec_of c1_ok (pl := pl_mstates) (G := G_mstates) Tryd.func11 rfl Tryd.ntmps11 run_mstates cok_mstates (by simp) 999 rfl ?_
  intro vs
  have hfl : ∀ ds, ds = M.states.map dTx → flats ds = true := by
    rintro ds rfl
    generalize M.states = l
    induction l with
    | nil => rfl
    | cons x l ih => exact ih
  ((conv => whnf); repeat' ((first | refine odw ?_ | refine ify ?_ | refine ifn ?_ | refine i6 ?_ | refine ati ?_ | refine mst ?_ | refine rmd ?_ | refine ibo (fun _ => ?_) (fun _ => ?_)) <;> conv => whnf))
  refine call_mkslb tab 907 rfl rfl (sclone_sl M.states (by omega)) hfl ?_
  rintro ds rfl
  ((conv => whnf); repeat' ((first | refine odw ?_ | refine ify ?_ | refine ifn ?_ | refine i6 ?_ | refine ati ?_ | refine mst ?_ | refine rmd ?_ | refine ibo (fun _ => ?_) (fun _ => ?_)) <;> conv => whnf))
  exact ⟨_, _, [], [(900, _), (901, _), (902, _), (903, _), (904, _), (905, _), (907, _)], .lo (.refl _ _), rfl, ⟨rfl, rfl, rfl, rfl, rfl, rfl, rfl, trivial⟩, rfl, rfl, rfl⟩
theorem mstates_nil : Pure C1 11 [.nilp] (fun y => y = .nils) := by
  refine pure_of c1_ok (pl := pl_mstates) (G := G_mstates) Tryd.func11 rfl Tryd.ntmps11 run_mstates cok_mstates (by simp) ?_
  ((conv => whnf); repeat' ((first | refine odw ?_ | refine ify ?_ | refine ifn ?_ | refine i6 ?_ | refine ati ?_ | refine mst ?_ | refine rmd ?_ | refine ibo (fun _ => ?_) (fun _ => ?_)) <;> conv => whnf))
  exact rfl
def pl_mfly : List (Nat × Plan) := []
def G_mfly : List FuncId := []
theorem cok_mfly : codeOk Tryd.prog G_mfly pl_mfly (Tryd.f16.body.getD .skip) = true := by kernel_rfl
theorem run_mfly (vs : Array Value) (w : World) : (callFunc 16 vs).run C1.P w = .ok (.enter 16 vs) w := by kernel_rfl
theorem mfly_ok (M : Mach) (h : M.net.flying.length ≤ 4294967296) : RecCall C1 16 [.own 900] (sM M) [900] (fun d σ => d = .d (.int .i64 M.net.flying.length) ∧ σ = sM M) := by
  have hlm : (M.net.flying.map dL).length = M.net.flying.length := List.length_map _
  refine rec_of c1_ok (pl := pl_mfly) (G := G_mfly) Tryd.func16 rfl Tryd.ntmps16 run_mfly cok_mfly (by simp) 999 rfl ?_
  intro vs
  ((conv => whnf); repeat' ((first | refine odw ?_ | refine ify ?_ | refine ifn ?_ | refine i6 ?_ | refine ati ?_ | refine mst ?_ | refine rmd ?_ | refine ibo (fun _ => ?_) (fun _ => ?_)) <;> conv => whnf))
  refine call_req [] [900, 901, 902, 903, 904, 905] (mnet_ok M) rfl rfl rfl rfl rfl rfl rfl ?_
  ((conv => whnf); repeat' ((first | refine odw ?_ | refine ify ?_ | refine ifn ?_ | refine i6 ?_ | refine ati ?_ | refine mst ?_ | refine rmd ?_ | refine ibo (fun _ => ?_) (fun _ => ?_)) <;> conv => whnf))
  refine call_look rfl rfl (flying_obj M.net h) ?_
  rintro y rfl
  ((conv => whnf); repeat' ((first | refine odw ?_ | refine ify ?_ | refine ifn ?_ | refine i6 ?_ | refine ati ?_ | refine mst ?_ | refine rmd ?_ | refine ibo (fun _ => ?_) (fun _ => ?_)) <;> conv => whnf))
  rw [← hlm]
  exact ⟨_, _, [], sM M, .lo (.refl _ _), rfl, ⟨rfl, rfl, rfl, rfl, rfl, rfl, trivial⟩, rfl, rfl, rfl⟩
theorem mfly_nil : Pure C1 16 [.nilp] (fun y => y = .int .i64 0) := by
  have hn : Pure C1 35 [.nilp] (fun y => y = .nils) := by
    refine pure_of c1_ok (pl := []) (G := []) Tryd.func35 rfl Tryd.ntmps35 (by intro vs w; kernel_rfl) (by kernel_rfl) (by simp) ?_
    ((conv => whnf); repeat' ((first | refine odw ?_ | refine ify ?_ | refine ifn ?_ | refine i6 ?_ | refine ati ?_ | refine mst ?_ | refine rmd ?_ | refine ibo (fun _ => ?_) (fun _ => ?_)) <;> conv => whnf))
    exact rfl
  refine pure_of c1_ok (pl := pl_mfly) (G := G_mfly) Tryd.func16 rfl Tryd.ntmps16 run_mfly cok_mfly (by simp) ?_
  (conv => whnf)
  (repeat' ((first | refine ord_ok (by (conv => whnf); (repeat' ((first | refine call_eq rfl mnet_nil ?_ | refine call_eq rfl hn ?_ | refine ify ?_ | refine ifn ?_ | refine i6 ?_ | refine ati ?_ | refine mst ?_ | refine rmd ?_ | refine ibo (fun _ => ?_) (fun _ => ?_)) <;> conv => whnf)); (all_goals (repeat' (first | exact trivial | exact rfl | refine And.intro ?_ ?_)))) ?_ | refine call_eq rfl mnet_nil ?_ | refine call_eq rfl hn ?_ | refine ify ?_ | refine ifn ?_ | refine i6 ?_ | refine ati ?_ | refine mst ?_ | refine rmd ?_ | refine ibo (fun _ => ?_) (fun _ => ?_)) <;> conv => whnf))
  exact rfl
def pl_mworked : List (Nat × Plan) := []
def G_mworked : List FuncId := []
theorem cok_mworked : codeOk Tryd.prog G_mworked pl_mworked (Tryd.f15.body.getD .skip) = true := by kernel_rfl
theorem run_mworked (vs : Array Value) (w : World) : (callFunc 15 vs).run C1.P w = .ok (.enter 15 vs) w := by kernel_rfl
theorem mworked_ok (M : Mach) (w : Nat) (b : Bool) (h1 : w < M.states.length) (hb : M.worked[w]? = some b) : RecCall C1 15 [.own 900, .d (.int .i64 w)] (sM M) [900] (fun d σ => d = .d (.bool b) ∧ σ = sM M) := by
  have hbd : (M.worked.map dB)[w]? = some (.bool b) := by rw [List.getElem?_map, hb]; rfl
  have hwl : w < (M.worked.map dB).length := (List.getElem?_eq_some_iff.1 hbd).1
  refine rec_of c1_ok (pl := pl_mworked) (G := G_mworked) Tryd.func15 rfl Tryd.ntmps15 run_mworked cok_mworked (by simp) 999 rfl ?_
  intro vs
  (conv => whnf)
  (repeat' ((first | refine ord_ok (by (conv => whnf); (repeat' ((first | refine call_req [] [900, 901, 902, 903, 904, 905] (mhas_ok M w (by omega) (by omega)) rfl rfl rfl rfl rfl rfl rfl ?_ | refine el_at (i := w) rfl hwl ?_ | refine el_is hbd ?_ | refine ify ?_ | refine ifn ?_ | refine i6 ?_ | refine ati ?_ | refine mst ?_ | refine rmd ?_ | refine ibo (fun _ => ?_) (fun _ => ?_)) <;> conv => whnf)); (all_goals (repeat' (first | exact trivial | exact rfl | refine And.intro ?_ ?_)))) ?_ | refine call_req [] [900, 901, 902, 903, 904, 905] (mhas_ok M w (by omega) (by omega)) rfl rfl rfl rfl rfl rfl rfl ?_ | refine el_at (i := w) rfl hwl ?_ | refine el_is hbd ?_ | refine ify ?_ | refine ifn ?_ | refine i6 ?_ | refine ati ?_ | refine mst ?_ | refine rmd ?_ | refine ibo (fun _ => ?_) (fun _ => ?_)) <;> conv => whnf))
  exact ⟨_, _, [], sM M, .lo (.refl _ _), rfl, ⟨rfl, rfl, rfl, rfl, rfl, rfl, trivial⟩, rfl, rfl, rfl⟩
theorem mworked_no (M : Mach) (w : Int) (h : w < 0 ∨ M.states.length ≤ w) : RecCall C1 15 [.own 900, .d (.int .i64 w)] (sM M) [900] (fun d σ => d = .d (.bool false) ∧ σ = sM M) := by
  refine rec_of c1_ok (pl := pl_mworked) (G := G_mworked) Tryd.func15 rfl Tryd.ntmps15 run_mworked cok_mworked (by simp) 999 rfl ?_
  intro vs
  (conv => whnf)
  (repeat' ((first | refine ord_ok (by (conv => whnf); (repeat' ((first | refine call_req [] [900, 901, 902, 903, 904, 905] (mhas_no M w h) rfl rfl rfl rfl rfl rfl rfl ?_ | refine ify ?_ | refine ifn ?_ | refine i6 ?_ | refine ati ?_ | refine mst ?_ | refine rmd ?_ | refine ibo (fun _ => ?_) (fun _ => ?_)) <;> conv => whnf)); (all_goals (repeat' (first | exact trivial | exact rfl | refine And.intro ?_ ?_)))) ?_ | refine call_req [] [900, 901, 902, 903, 904, 905] (mhas_no M w h) rfl rfl rfl rfl rfl rfl rfl ?_ | refine ify ?_ | refine ifn ?_ | refine i6 ?_ | refine ati ?_ | refine mst ?_ | refine rmd ?_ | refine ibo (fun _ => ?_) (fun _ => ?_)) <;> conv => whnf))
  exact ⟨_, _, [], sM M, .lo (.refl _ _), rfl, ⟨rfl, rfl, rfl, rfl, rfl, rfl, trivial⟩, rfl, rfl, rfl⟩
theorem mworked_nil (w : Int) : Pure C1 15 [.nilp, .int .i64 w] (fun y => y = .bool false) := by
  refine pure_of c1_ok (pl := pl_mworked) (G := G_mworked) Tryd.func15 rfl Tryd.ntmps15 run_mworked cok_mworked (by simp) ?_
  (conv => whnf)
  (repeat' ((first | refine ord_ok (by (conv => whnf); (repeat' ((first | refine call_eq rfl (mhas_nil w) ?_ | refine ify ?_ | refine ifn ?_ | refine i6 ?_ | refine ati ?_ | refine mst ?_ | refine rmd ?_ | refine ibo (fun _ => ?_) (fun _ => ?_)) <;> conv => whnf)); (all_goals (repeat' (first | exact trivial | exact rfl | refine And.intro ?_ ?_)))) ?_ | refine call_eq rfl (mhas_nil w) ?_ | refine ify ?_ | refine ifn ?_ | refine i6 ?_ | refine ati ?_ | refine mst ?_ | refine rmd ?_ | refine ibo (fun _ => ?_) (fun _ => ?_)) <;> conv => whnf))
  exact rfl
def pl_mdel : List (Nat × Plan) := []
def G_mdel : List FuncId := []
theorem cok_mdel : codeOk Tryd.prog G_mdel pl_mdel (Tryd.f20.body.getD .skip) = true := by kernel_rfl
theorem run_mdel (vs : Array Value) (w : World) : (callFunc 20 vs).run C1.P w = .ok (.enter 20 vs) w := by kernel_rfl
theorem mdel_ok (M : Mach) (i : Nat) (l : Letter) (hi : M.net.flying[i]? = some l) (hf : M.net.flying.length ≤ 4294967296) : RecCall C1 20 [.own 900, .d (.int .i64 i)] (sM M) [900] (fun d σ => d = .d .nili ∧ σ = sM { M with net := M.net.deliver i l }) := by
  refine rec_of c1_ok (pl := pl_mdel) (G := G_mdel) Tryd.func20 rfl Tryd.ntmps20 run_mdel cok_mdel (by simp) 999 rfl ?_
  intro vs
  (conv => whnf)
  (repeat' ((first | refine ord_ok (by (conv => whnf); (repeat' ((first | refine call_req [] [900, 901, 902, 903, 904, 905] (mnet_ok M) rfl rfl rfl rfl rfl rfl rfl ?_ | refine ify ?_ | refine ifn ?_ | refine i6 ?_ | refine ati ?_ | refine mst ?_ | refine rmd ?_ | refine ibo (fun _ => ?_) (fun _ => ?_)) <;> conv => whnf)); (all_goals (repeat' (first | exact trivial | exact rfl | refine And.intro ?_ ?_)))) ?_ | refine call_req [] [900, 901, 902, 903, 904, 905] (mnet_ok M) rfl rfl rfl rfl rfl rfl rfl ?_ | refine ify ?_ | refine ifn ?_ | refine i6 ?_ | refine ati ?_ | refine mst ?_ | refine rmd ?_ | refine ibo (fun _ => ?_) (fun _ => ?_)) <;> conv => whnf))
  refine call_turn rfl rfl (deliver_obj M.net i l hi hf) ?_
  rintro y r ⟨rfl, rfl⟩
  ((conv => whnf); repeat' ((first | refine odw ?_ | refine ify ?_ | refine ifn ?_ | refine i6 ?_ | refine ati ?_ | refine mst ?_ | refine rmd ?_ | refine ibo (fun _ => ?_) (fun _ => ?_)) <;> conv => whnf))
  exact ⟨_, _, [], sM { M with net := M.net.deliver i l }, .lo (.refl _ _), rfl, ⟨rfl, rfl, rfl, rfl, rfl, rfl, trivial⟩, rfl, rfl, rfl⟩
theorem mdel_no (M : Mach) (i : Int) (h1 : i < 0 ∨ M.net.flying.length ≤ i) : RecCall C1 20 [.own 900, .d (.int .i64 i)] (sM M) [900] (fun d σ => (∃ s, d = .d (dF 3 0 s)) ∧ σ = sM M) := by
  refine rec_of c1_ok (pl := pl_mdel) (G := G_mdel) Tryd.func20 rfl Tryd.ntmps20 run_mdel cok_mdel (by simp) 999 rfl ?_
  intro vs
  (conv => whnf)
  (repeat' ((first | refine ord_ok (by (conv => whnf); (repeat' ((first | refine call_req [] [900, 901, 902, 903, 904, 905] (mnet_ok M) rfl rfl rfl rfl rfl rfl rfl ?_ | refine ify ?_ | refine ifn ?_ | refine i6 ?_ | refine ati ?_ | refine mst ?_ | refine rmd ?_ | refine ibo (fun _ => ?_) (fun _ => ?_)) <;> conv => whnf)); (all_goals (repeat' (first | exact trivial | exact rfl | refine And.intro ?_ ?_)))) ?_ | refine call_req [] [900, 901, 902, 903, 904, 905] (mnet_ok M) rfl rfl rfl rfl rfl rfl rfl ?_ | refine ify ?_ | refine ifn ?_ | refine i6 ?_ | refine ati ?_ | refine mst ?_ | refine rmd ?_ | refine ibo (fun _ => ?_) (fun _ => ?_)) <;> conv => whnf))
  refine call_look rfl rfl (deliver_lo M.net i h1) ?_
  rintro y ⟨s, rfl⟩
  ((conv => whnf); repeat' ((first | refine odw ?_ | refine ify ?_ | refine ifn ?_ | refine i6 ?_ | refine ati ?_ | refine mst ?_ | refine rmd ?_ | refine ibo (fun _ => ?_) (fun _ => ?_)) <;> conv => whnf))
  exact ⟨_, _, [], sM M, .lo (.refl _ _), rfl, ⟨rfl, rfl, rfl, rfl, rfl, rfl, trivial⟩, rfl, ⟨s, rfl⟩, rfl⟩
def pl_mdbl : List (Nat × Plan) := []
def G_mdbl : List FuncId := []
theorem cok_mdbl : codeOk Tryd.prog G_mdbl pl_mdbl (Tryd.f22.body.getD .skip) = true := by kernel_rfl
theorem run_mdbl (vs : Array Value) (w : World) : (callFunc 22 vs).run C1.P w = .ok (.enter 22 vs) w := by kernel_rfl
theorem mdbl_ok (M : Mach) (i : Nat) (l : Letter) (hi : M.net.flying[i]? = some l) (hf : M.net.flying.length ≤ 4294967296) : RecCall C1 22 [.own 900, .d (.int .i64 i)] (sM M) [900] (fun d σ => d = .d .nili ∧ σ = sM { M with net := M.net.double l }) := by
  refine rec_of c1_ok (pl := pl_mdbl) (G := G_mdbl) Tryd.func22 rfl Tryd.ntmps22 run_mdbl cok_mdbl (by simp) 999 rfl ?_
  intro vs
  (conv => whnf)
  (repeat' ((first | refine ord_ok (by (conv => whnf); (repeat' ((first | refine call_req [] [900, 901, 902, 903, 904, 905] (mnet_ok M) rfl rfl rfl rfl rfl rfl rfl ?_ | refine ify ?_ | refine ifn ?_ | refine i6 ?_ | refine ati ?_ | refine mst ?_ | refine rmd ?_ | refine ibo (fun _ => ?_) (fun _ => ?_)) <;> conv => whnf)); (all_goals (repeat' (first | exact trivial | exact rfl | refine And.intro ?_ ?_)))) ?_ | refine call_req [] [900, 901, 902, 903, 904, 905] (mnet_ok M) rfl rfl rfl rfl rfl rfl rfl ?_ | refine ify ?_ | refine ifn ?_ | refine i6 ?_ | refine ati ?_ | refine mst ?_ | refine rmd ?_ | refine ibo (fun _ => ?_) (fun _ => ?_)) <;> conv => whnf))
  refine call_turn rfl rfl (double_obj M.net i l hi hf) ?_
  rintro y r ⟨rfl, rfl⟩
  ((conv => whnf); repeat' ((first | refine odw ?_ | refine ify ?_ | refine ifn ?_ | refine i6 ?_ | refine ati ?_ | refine mst ?_ | refine rmd ?_ | refine ibo (fun _ => ?_) (fun _ => ?_)) <;> conv => whnf))
  exact ⟨_, _, [], sM { M with net := M.net.double l }, .lo (.refl _ _), rfl, ⟨rfl, rfl, rfl, rfl, rfl, rfl, trivial⟩, rfl, rfl, rfl⟩
theorem mdbl_no (M : Mach) (i : Int) (h1 : i < 0 ∨ M.net.flying.length ≤ i) : RecCall C1 22 [.own 900, .d (.int .i64 i)] (sM M) [900] (fun d σ => (∃ s, d = .d (dF 3 0 s)) ∧ σ = sM M) := by
  refine rec_of c1_ok (pl := pl_mdbl) (G := G_mdbl) Tryd.func22 rfl Tryd.ntmps22 run_mdbl cok_mdbl (by simp) 999 rfl ?_
  intro vs
  (conv => whnf)
  (repeat' ((first | refine ord_ok (by (conv => whnf); (repeat' ((first | refine call_req [] [900, 901, 902, 903, 904, 905] (mnet_ok M) rfl rfl rfl rfl rfl rfl rfl ?_ | refine ify ?_ | refine ifn ?_ | refine i6 ?_ | refine ati ?_ | refine mst ?_ | refine rmd ?_ | refine ibo (fun _ => ?_) (fun _ => ?_)) <;> conv => whnf)); (all_goals (repeat' (first | exact trivial | exact rfl | refine And.intro ?_ ?_)))) ?_ | refine call_req [] [900, 901, 902, 903, 904, 905] (mnet_ok M) rfl rfl rfl rfl rfl rfl rfl ?_ | refine ify ?_ | refine ifn ?_ | refine i6 ?_ | refine ati ?_ | refine mst ?_ | refine rmd ?_ | refine ibo (fun _ => ?_) (fun _ => ?_)) <;> conv => whnf))
  refine call_look rfl rfl (double_lo M.net i h1) ?_
  rintro y ⟨s, rfl⟩
  ((conv => whnf); repeat' ((first | refine odw ?_ | refine ify ?_ | refine ifn ?_ | refine i6 ?_ | refine ati ?_ | refine mst ?_ | refine rmd ?_ | refine ibo (fun _ => ?_) (fun _ => ?_)) <;> conv => whnf))
  exact ⟨_, _, [], sM M, .lo (.refl _ _), rfl, ⟨rfl, rfl, rfl, rfl, rfl, rfl, trivial⟩, rfl, ⟨s, rfl⟩, rfl⟩
def pl_mcra : List (Nat × Plan) := []
def G_mcra : List FuncId := []
theorem cok_mcra : codeOk Tryd.prog G_mcra pl_mcra (Tryd.f23.body.getD .skip) = true := by kernel_rfl
theorem run_mcra (vs : Array Value) (w : World) : (callFunc 23 vs).run C1.P w = .ok (.enter 23 vs) w := by kernel_rfl
theorem mcra_ok (M : Mach) (w : Int) (h0 : 0 ≤ w) (h1 : w < M.states.length) (h : M.states.length ≤ 1000) : RecCall C1 23 [.own 900, .d (.int .i64 w)] (sM M) [900] (fun d σ => d = .d .nili ∧ σ = sM M.back) := by
  refine rec_of c1_ok (pl := pl_mcra) (G := G_mcra) Tryd.func23 rfl Tryd.ntmps23 run_mcra cok_mcra (by simp) 999 rfl ?_
  intro vs
  (conv => whnf)
  (repeat' ((first | refine ord_ok (by (conv => whnf); (repeat' ((first | refine call_req [] [900, 901, 902, 903, 904, 905] (mhas_ok M w h0 h1) rfl rfl rfl rfl rfl rfl rfl ?_ | refine call_req [] [900, 901, 902, 903, 904, 905] (mback_ok M h) rfl rfl rfl rfl rfl rfl rfl ?_ | refine ify ?_ | refine ifn ?_ | refine i6 ?_ | refine ati ?_ | refine mst ?_ | refine rmd ?_ | refine ibo (fun _ => ?_) (fun _ => ?_)) <;> conv => whnf)); (all_goals (repeat' (first | exact trivial | exact rfl | refine And.intro ?_ ?_)))) ?_ | refine call_req [] [900, 901, 902, 903, 904, 905] (mhas_ok M w h0 h1) rfl rfl rfl rfl rfl rfl rfl ?_ | refine call_req [] [900, 901, 902, 903, 904, 905] (mback_ok M h) rfl rfl rfl rfl rfl rfl rfl ?_ | refine ify ?_ | refine ifn ?_ | refine i6 ?_ | refine ati ?_ | refine mst ?_ | refine rmd ?_ | refine ibo (fun _ => ?_) (fun _ => ?_)) <;> conv => whnf))
  exact ⟨_, _, [], sM M.back, .lo (.refl _ _), rfl, ⟨rfl, rfl, rfl, rfl, rfl, rfl, trivial⟩, rfl, rfl, rfl⟩
theorem mcra_no (M : Mach) (w : Int) (h : w < 0 ∨ M.states.length ≤ w) : RecCall C1 23 [.own 900, .d (.int .i64 w)] (sM M) [900] (fun d σ => d = .d (dF 3 0 workerS) ∧ σ = sM M) := by
  refine rec_of c1_ok (pl := pl_mcra) (G := G_mcra) Tryd.func23 rfl Tryd.ntmps23 run_mcra cok_mcra (by simp) 999 rfl ?_
  intro vs
  (conv => whnf)
  (repeat' ((first | refine ord_ok (by (conv => whnf); (repeat' ((first | refine call_req [] [900, 901, 902, 903, 904, 905] (mhas_no M w h) rfl rfl rfl rfl rfl rfl rfl ?_ | refine ify ?_ | refine ifn ?_ | refine i6 ?_ | refine ati ?_ | refine mst ?_ | refine rmd ?_ | refine ibo (fun _ => ?_) (fun _ => ?_)) <;> conv => whnf)); (all_goals (repeat' (first | exact trivial | exact rfl | refine And.intro ?_ ?_)))) ?_ | refine call_req [] [900, 901, 902, 903, 904, 905] (mhas_no M w h) rfl rfl rfl rfl rfl rfl rfl ?_ | refine ify ?_ | refine ifn ?_ | refine i6 ?_ | refine ati ?_ | refine mst ?_ | refine rmd ?_ | refine ibo (fun _ => ?_) (fun _ => ?_)) <;> conv => whnf))
  exact ⟨_, _, [], sM M, .lo (.refl _ _), rfl, ⟨rfl, rfl, rfl, rfl, rfl, rfl, trivial⟩, rfl, rfl, rfl⟩
end Go.Proofs.YtlchegpgicdldaaDoor
