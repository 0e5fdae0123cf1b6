/- bsp.New. -/
import Derived.Test.YtlchegpgicdldaaDoorBfi
import Derived.Test.YtlchegpgicdldaaDoorEat
namespace Go.Proofs.YtlchegpgicdldaaDoor
open Go.Sx Go.RowKit Go.Reg

set_option maxRecDepth 100000
def sN (t : TypeId) (x : Da) (states : List ByteArray) (ib : List Da) : Sg := [(901, .slice 9 1 (states.map dTx)), (902, .slice 22 1 ib),
  (900, .cells 68 [.d (.iface t x), .d (.int .i64 0), .own 901, .own 902, .d .nils, .d .nils, .own 905]), (905, (netO ⟨states.length, [], 0, [], []⟩).own)]
def sNb (t : TypeId) (x : Da) (states : List ByteArray) (ib : List Da) : Sg := [(900, .cells 68 [.d (.iface t x), .d (.int .i64 0), .own 901, .own 902, .own 903, .own 904, .own 905]),
  (901, .slice 9 1 (states.map dTx)), (902, .slice 22 1 ib), (903, .slice 9 1 (List.replicate states.length (.str ⟨#[]⟩))), (904, .slice 4 1 (List.replicate states.length (.bool false))), (905, (netO ⟨states.length, [], 0, [], []⟩).own)]
theorem mback_new (t : TypeId) (x : Da) (states : List ByteArray) (ib : List Da) (h : states.length ≤ 1000) : RecCall C1 30 [.own 900] (sN t x states ib) [900] (fun d σ => d = .d (.tuple []) ∧ σ = sNb t x states ib) := by
  have hlm : (states.map dTx).length = states.length := List.length_map _
  refine rec_of c1_ok (pl := pl_mback) (G := G_mback) Tryd.func30 rfl Tryd.ntmps30 run_mback cok_mback (by simp) 999 rfl ?_
  intro vs
  (conv => whnf)
  (repeat' ((first | refine ord_ok (by (conv => whnf); (repeat' ((first | refine mk_ok states.length (by omega) (by omega) (by omega) ?_ | refine ify ?_ | refine ifn ?_ | refine i6 ?_ | refine ati ?_ | refine mst ?_ | refine rmd ?_ | refine ibo (fun _ => ?_) (fun _ => ?_)) <;> conv => whnf)); (all_goals (repeat' (first | exact trivial | exact rfl | refine And.intro ?_ ?_)))) ?_ | refine mk_ok states.length (by omega) (by omega) (by omega) ?_ | refine ify ?_ | refine ifn ?_ | refine i6 ?_ | refine ati ?_ | refine mst ?_ | refine rmd ?_ | refine ibo (fun _ => ?_) (fun _ => ?_)) <;> conv => whnf))
  refine call_from 906 rfl rfl rfl (next_obj ⟨states.length, [], 0, [], []⟩) ?_
  rintro r y rfl
  ((conv => whnf); repeat' ((first | refine odw ?_ | refine ify ?_ | refine ifn ?_ | refine i6 ?_ | refine ati ?_ | refine mst ?_ | refine rmd ?_ | refine ibo (fun _ => ?_) (fun _ => ?_)) <;> conv => whnf))
  exact ⟨_, _, [(9, 903), (15, 904), (906, 905)], [(900, _), (901, _), (902, _), (9, _), (15, _), (906, _)], .lo (.refl _ _), rfl, ⟨rfl, rfl, rfl, rfl, rfl, rfl, trivial⟩, rfl, rfl, rfl⟩
def M0 (t : TypeId) (x : Da) (states : List ByteArray) : Mach := ⟨t, x, 0, states, List.replicate states.length [], List.replicate states.length ⟨#[]⟩, List.replicate states.length false, ⟨states.length, [], 0, [], []⟩⟩
theorem lax_nils (n : Nat) : LaxAs (List.replicate n .nils) ((List.replicate n ([] : List ByteArray)).map dTs) := by
  induction n with
  | zero => exact .nil
  | succ n ih => rw [List.replicate_succ, List.replicate_succ, List.map_cons]; exact .cons (.nils 1) ih
def pl_bnew : List (Nat × Plan) := [(6, .split 2 5 (.leaf [0, 0, 2, 0, 0, 2, 0, 0, 6, 0] [0, 1, 3, 4, 6, 2, 5, 7, 8, 9] [0, 0, 2, 0, 8, 30, 0, 127, 255, 511]) (.leaf [0, 0, 2, 0, 0, 2, 0, 0, 6, 0] [0, 1, 3, 4, 6, 5, 2, 7, 8, 9] [0, 0, 58, 0, 8, 24, 0, 127, 255, 511]))]
def G_bnew : List FuncId := [29]
theorem cok_bnew : codeOk Tryd.prog G_bnew pl_bnew (Tryd.f9.body.getD .skip) = true := by kernel_rfl
theorem run_bnew (vs : Array Value) (w : World) : (callFunc 9 vs).run C1.P w = .ok (.enter 9 vs) w := by kernel_rfl
theorem new_ok (t : TypeId) (x : Da) (states : List ByteArray) (h1 : 1 ≤ states.length) (h2 : states.length ≤ 64) :
    RecCall C1 9 [.d (.iface t x), .d (.list 1 (states.map dTx))] [] [] (fun d σ => d = .tuple [.own 900, .d .nili] ∧ σ = sM (M0 t x states)) := by
  have hlm : (states.map dTx).length = states.length := List.length_map _
  have hcl := sclone_sl states (by omega)
  have hno : MakeObj C1 true 27 [.int .i64 ((states.map dTx).length : Nat)] (fun r y => y = .nili ∧ r = netO ⟨states.length, [], 0, [], []⟩) := by rw [hlm]; exact new_obj states.length (by omega) (by omega)
  refine rec_of c1_ok (pl := pl_bnew) (G := G_bnew) Tryd.func9 rfl Tryd.ntmps9 run_bnew cok_bnew (by simp) 999 rfl ?_
  intro vs
  ((conv => whnf); repeat' ((first | refine odw ?_ | refine ify ?_ | refine ifn ?_ | refine i6 ?_ | refine ati ?_ | refine mst ?_ | refine rmd ?_ | refine ibo (fun _ => ?_) (fun _ => ?_)) <;> conv => whnf))
  refine call_make 905 rfl rfl hno ?_
  rintro r y ⟨rfl, rfl⟩
  (conv => whnf)
  (repeat' ((first | refine ord_ok (by (conv => whnf); (repeat' ((first | refine call_mkslE 24 rfl rfl hcl ?_ | refine mk_ok states.length (by omega) (by omega) (by omega) ?_ | refine call_req [(30, 900), (24, 901), (27, 902)] [30, 24, 27, 905] (mback_new t x states (List.replicate states.length .nils) (by omega)) rfl rfl rfl rfl rfl rfl rfl ?_ | refine ify ?_ | refine ifn ?_ | refine i6 ?_ | refine ati ?_ | refine mst ?_ | refine rmd ?_ | refine ibo (fun _ => ?_) (fun _ => ?_)) <;> conv => whnf)); (all_goals (repeat' (first | exact trivial | exact rfl | refine And.intro ?_ ?_)))) ?_ | refine call_mkslE 24 rfl rfl hcl ?_ | refine mk_ok states.length (by omega) (by omega) (by omega) ?_ | refine call_req [(30, 900), (24, 901), (27, 902)] [30, 24, 27, 905] (mback_new t x states (List.replicate states.length .nils) (by omega)) rfl rfl rfl rfl rfl rfl rfl ?_ | refine ify ?_ | refine ifn ?_ | refine i6 ?_ | refine ati ?_ | refine mst ?_ | refine rmd ?_ | refine ibo (fun _ => ?_) (fun _ => ?_)) <;> conv => whnf))
  have e1 : (List.replicate states.length (⟨#[]⟩ : ByteArray)).map dTx = List.replicate states.length (.str ⟨#[]⟩) := List.map_replicate
  have e2 : (List.replicate states.length false).map dB = List.replicate states.length (.bool false) := List.map_replicate
  refine ⟨_, _, [(30, 900), (24, 901), (27, 902)], [(30, _), (24, _), (27, _), (903, _), (904, _), (905, _)], Trf.laxS (i := 27) rfl (lax_nils states.length), rfl, ⟨rfl, rfl, rfl, rfl, rfl, rfl, trivial⟩, rfl, rfl, ?_⟩
  simp only [sM, M0, e1, e2]
  rfl
end Go.Proofs.YtlchegpgicdldaaDoor
