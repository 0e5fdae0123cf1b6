/- Merged: Grc. -/
import Derived.Test.YtjejpdfldmempaaGreatDoorCtx
import Derived.Test.YtjejpdfldmempaaGreatDoorlgaa
section
namespace Go.Proofs.YtjejpdfldmempaaGreatDoor
open Go.Sx Go.RowKit Go.Reg Go.Gr
set_option maxRecDepth 100000
def dE (e : Edg) : Da := .agg [.int .i64 e.a, .int .i64 e.b]
def dI (n : Int) : Da := .int .i64 n
def dIs (l : List Int) : Da := .list 1 (l.map dI)
def dEs (l : List Edg) : Da := .list 2 (l.map dE)
def pl_turned : List (Nat × Plan) := []
def G_turned : List FuncId := []
theorem cok_turned : codeOk Tryz.prog G_turned pl_turned (Tryz.f165.body.getD .skip) = true := by kernel_rfl
theorem run_turned (vs : Array Value) (w : World) : (callFunc 165 vs).run C1.P w = .ok (.enter 165 vs) w := by kernel_rfl
theorem turned_pure (e : Edg) : Pure C1 165 [dE e] (fun y => y = dE (turn e)) := by
 refine pure_of c1_ok (pl := pl_turned) (G := G_turned) Tryz.func165 rfl Tryz.ntmps165 run_turned cok_turned (by simp) ?_
 ((conv => whnf); repeat' ((first | refine odw ?_ | refine ify ?_ | refine ifn ?_ | refine i6 ?_ | refine ati ?_ | refine mst ?_ | refine rmd ?_ | refine ibo (fun _ => ?_) (fun _ => ?_)) <;> conv => whnf))
 all_goals exact rfl
def pl_nan : List (Nat × Plan) := []
def G_nan : List FuncId := []
theorem cok_nan : codeOk Tryz.prog G_nan pl_nan (Tryz.f143.body.getD .skip) = true := by kernel_rfl
theorem run_nan (vs : Array Value) (w : World) : (callFunc 143 vs).run C1.P w = .ok (.enter 143 vs) w := by kernel_rfl
theorem nan_pure (a : Int) : Pure C1 143 [.int .i64 a] (fun y => y = .bool false) := by
 refine pure_of c1_ok (pl := pl_nan) (G := G_nan) Tryz.func143 rfl Tryz.ntmps143 run_nan cok_nan (by simp) ?_
 ((conv => whnf); repeat' ((first | refine odw ?_ | refine ify ?_ | refine ifn ?_ | refine i6 ?_ | refine ati ?_ | refine mst ?_ | refine rmd ?_ | refine ibo (fun _ => ?_) (fun _ => ?_)) <;> conv => whnf))
 show Da.plain _ = _
 simp [Da.plain]
def pl_compare : List (Nat × Plan) := []
def G_compare : List FuncId := []
theorem cok_compare : codeOk Tryz.prog G_compare pl_compare (Tryz.f101.body.getD .skip) = true := by kernel_rfl
theorem run_compare (vs : Array Value) (w : World) : (callFunc 101 vs).run C1.P w = .ok (.enter 101 vs) w := by kernel_rfl
theorem compare_pure (a b : Int) : Pure C1 101 [.int .i64 a, .int .i64 b] (fun y => y = .int .i64 (cmpI a b)) := by
 refine pure_of c1_ok (pl := pl_compare) (G := G_compare) Tryz.func101 rfl Tryz.ntmps101 run_compare cok_compare (by simp) ?_
 ((conv => whnf); repeat' ((first | refine odw ?_ | refine ify ?_ | refine ifn ?_ | refine i6 ?_ | refine ati ?_ | refine mst ?_ | refine rmd ?_ | refine ibo (fun _ => ?_) (fun _ => ?_)) <;> conv => whnf))
 refine call_pure rfl (nan_pure a) ?_; rintro y rfl; ((conv => whnf); repeat' ((first | refine odw ?_ | refine ify ?_ | refine ifn ?_ | refine i6 ?_ | refine ati ?_ | refine mst ?_ | refine rmd ?_ | refine ibo (fun _ => ?_) (fun _ => ?_)) <;> conv => whnf))
 refine call_pure rfl (nan_pure b) ?_; rintro y rfl; ((conv => whnf); repeat' ((first | refine odw ?_ | refine ify ?_ | refine ifn ?_ | refine i6 ?_ | refine ati ?_ | refine mst ?_ | refine rmd ?_ | refine ibo (fun _ => ?_) (fun _ => ?_)) <;> conv => whnf))
 ·have e : cmpI a b = -1 := by unfold cmpI; rw [if_pos (by assumption)]
  rw [e]; exact rfl
 ·have e : cmpI a b = 1 := by unfold cmpI; rw [if_neg (by assumption), if_pos (by assumption)]
  rw [e]; exact rfl
 ·have e : cmpI a b = 0 := by unfold cmpI; rw [if_neg (by assumption), if_neg (by assumption)]
  rw [e]; exact rfl
def pl_or : List (Nat × Plan) := []
def G_or : List FuncId := []
theorem cok_or : codeOk Tryz.prog G_or pl_or (Tryz.f100.body.getD .skip) = true := by kernel_rfl
theorem run_or (vs : Array Value) (w : World) : (callFunc 100 vs).run C1.P w = .ok (.enter 100 vs) w := by kernel_rfl
theorem or_pure (a b : Int) : Pure C1 100 [.list 1 [.int .i64 a, .int .i64 b]] (fun y => y = .int .i64 (if a ≠ 0 then a else b)) := by
 refine pure_of c1_ok (pl := pl_or) (G := G_or) Tryz.func100 rfl Tryz.ntmps100 run_or cok_or (by simp) ?_
 ((conv => whnf); repeat' ((first | refine odw ?_ | refine ify ?_ | refine ifn ?_ | refine i6 ?_ | refine ati ?_ | refine mst ?_ | refine rmd ?_ | refine ibo (fun _ => ?_) (fun _ => ?_)) <;> conv => whnf))
 refine loop_inv (ι := Nat) (fun i => i ≤ 2 ∧ (1 ≤ i → a = 0) ∧ (2 ≤ i → b = 0)) (fun i => [(3, .d (.int .i64 0)), (6, .d (.list 1 [.int .i64 a, .int .i64 b])), (7, .d (.int .i64 2)), (8, .d (.int .i64 i))]) (fun _ => []) (fun i => 2 - i) 0 (fun _ => rfl) ⟨by omega, by omega, by omega⟩ ⟨rfl, rfl, rfl, rfl, trivial⟩ trivial ?_
 rintro i ⟨hi, h1, h2⟩
 refine sxCode_sound c1_ok (G := G_or) (pl := pl_or) _ _ _ _ (by kernel_rfl) ?_
 rcases (show i = 0 ∨ i = 1 ∨ i = 2 by omega) with rfl | rfl | rfl
 ·by_cases ha : a = 0
  ·((conv => whnf); repeat' ((first | refine odw ?_ | refine ify ?_ | refine ifn ?_ | refine i6 ?_ | refine ati ?_ | refine mst ?_ | refine rmd ?_ | refine ibo (fun _ => ?_) (fun _ => ?_)) <;> conv => whnf))
   refine ⟨0, _, rfl, rfl, ?_⟩
   ((conv => whnf); repeat' ((first | refine odw ?_ | refine ify ?_ | refine ifn ?_ | refine i6 ?_ | refine ati ?_ | refine mst ?_ | refine rmd ?_ | refine ibo (fun _ => ?_) (fun _ => ?_)) <;> conv => whnf))
   exact ⟨1, ⟨by omega, fun _ => ha, by omega⟩, ⟨rfl, rfl, rfl, rfl, trivial⟩, trivial, by omega⟩
  ·rw [if_pos ha]
   ((conv => whnf); repeat' ((first | refine odw ?_ | refine ify ?_ | refine ifn ?_ | refine i6 ?_ | refine ati ?_ | refine mst ?_ | refine rmd ?_ | refine ibo (fun _ => ?_) (fun _ => ?_)) <;> conv => whnf))
   refine ⟨0, _, rfl, rfl, ?_⟩
   ((conv => whnf); repeat' ((first | refine odw ?_ | refine ify ?_ | refine ifn ?_ | refine i6 ?_ | refine ati ?_ | refine mst ?_ | refine rmd ?_ | refine ibo (fun _ => ?_) (fun _ => ?_)) <;> conv => whnf))
   exact rfl
 ·rw [if_neg (by have := h1 (by omega); omega)]
  by_cases hb : b = 0
  ·((conv => whnf); repeat' ((first | refine odw ?_ | refine ify ?_ | refine ifn ?_ | refine i6 ?_ | refine ati ?_ | refine mst ?_ | refine rmd ?_ | refine ibo (fun _ => ?_) (fun _ => ?_)) <;> conv => whnf))
   refine ⟨1, _, rfl, rfl, ?_⟩
   ((conv => whnf); repeat' ((first | refine odw ?_ | refine ify ?_ | refine ifn ?_ | refine i6 ?_ | refine ati ?_ | refine mst ?_ | refine rmd ?_ | refine ibo (fun _ => ?_) (fun _ => ?_)) <;> conv => whnf))
   exact ⟨2, ⟨by omega, fun _ => h1 (by omega), fun _ => hb⟩, ⟨rfl, rfl, rfl, rfl, trivial⟩, trivial, by omega⟩
  ·((conv => whnf); repeat' ((first | refine odw ?_ | refine ify ?_ | refine ifn ?_ | refine i6 ?_ | refine ati ?_ | refine mst ?_ | refine rmd ?_ | refine ibo (fun _ => ?_) (fun _ => ?_)) <;> conv => whnf))
   refine ⟨1, _, rfl, rfl, ?_⟩
   ((conv => whnf); repeat' ((first | refine odw ?_ | refine ify ?_ | refine ifn ?_ | refine i6 ?_ | refine ati ?_ | refine mst ?_ | refine rmd ?_ | refine ibo (fun _ => ?_) (fun _ => ?_)) <;> conv => whnf))
   exact rfl
 ·rw [if_neg (by have := h1 (by omega); omega), h2 (by omega)]
  ((conv => whnf); repeat' ((first | refine odw ?_ | refine ify ?_ | refine ifn ?_ | refine i6 ?_ | refine ati ?_ | refine mst ?_ | refine rmd ?_ | refine ibo (fun _ => ?_) (fun _ => ?_)) <;> conv => whnf))
  exact rfl
def pl_order : List (Nat × Plan) := [(1, .leaf [0, 1, 0, 1, 2, 0, 1, 0, 1, 2, 6, 2, 0] [0, 2, 5, 7, 1, 3, 6, 8, 4, 9, 10, 11, 12] [0, 1, 0, 4, 15, 0, 32, 0, 128, 511, 1023, 2047, 4095])]
def G_order : List FuncId := [101, 100]
theorem cok_order : codeOk Tryz.prog G_order pl_order (Tryz.f166.body.getD .skip) = true := by kernel_rfl
theorem run_order (vs : Array Value) (w : World) : (callFunc 166 vs).run C1.P w = .ok (.enter 166 vs) w := by kernel_rfl
theorem order_pure (x y : Edg) : Pure C1 166 [dE x, dE y] (fun r => r = .int .i64 (cmpE x y)) := by
 refine pure_of c1_ok (pl := pl_order) (G := G_order) Tryz.func166 rfl Tryz.ntmps166 run_order cok_order (by simp) ?_
 ((conv => whnf); repeat' ((first | refine odw ?_ | refine ify ?_ | refine ifn ?_ | refine i6 ?_ | refine ati ?_ | refine mst ?_ | refine rmd ?_ | refine ibo (fun _ => ?_) (fun _ => ?_)) <;> conv => whnf))
 refine call_pure rfl (compare_pure _ _) ?_; rintro r rfl; ((conv => whnf); repeat' ((first | refine odw ?_ | refine ify ?_ | refine ifn ?_ | refine i6 ?_ | refine ati ?_ | refine mst ?_ | refine rmd ?_ | refine ibo (fun _ => ?_) (fun _ => ?_)) <;> conv => whnf))
 refine call_pure rfl (compare_pure _ _) ?_; rintro r rfl; ((conv => whnf); repeat' ((first | refine odw ?_ | refine ify ?_ | refine ifn ?_ | refine i6 ?_ | refine ati ?_ | refine mst ?_ | refine rmd ?_ | refine ibo (fun _ => ?_) (fun _ => ?_)) <;> conv => whnf))
 refine call_borrow tab rfl (or_pure _ _) (fun y hy => by subst hy; rfl) ?_; rintro r rfl; ((conv => whnf); repeat' ((first | refine odw ?_ | refine ify ?_ | refine ifn ?_ | refine i6 ?_ | refine ati ?_ | refine mst ?_ | refine rmd ?_ | refine ibo (fun _ => ?_) (fun _ => ?_)) <;> conv => whnf))
 exact rfl
def pl_clone : List (Nat × Plan) := []
def G_clone : List FuncId := []
theorem cok_clone : codeOk Tryz.prog G_clone pl_clone (Tryz.f60.body.getD .skip) = true := by kernel_rfl
theorem run_clone (vs : Array Value) (w : World) : (callFunc 60 vs).run C1.P w = .ok (.enter 60 vs) w := by kernel_rfl
theorem clone_sl (l : List Int) (hl : l.length ≤ 4294967296) : MakeSl C1 60 [dIs l] 3 1 (fun ds => ds = l.map dI) := by
 have hlm : (l.map dI).length = l.length := List.length_map _
 refine mksl_of c1_ok (pl := pl_clone) (G := G_clone) Tryz.func60 rfl Tryz.ntmps60 run_clone cok_clone (by simp) ?_
 cases l with
 | nil =>
   ((conv => whnf); repeat' ((first | refine odw ?_ | refine ify ?_ | refine ifn ?_ | refine i6 ?_ | refine ati ?_ | refine mst ?_ | refine rmd ?_ | refine ibo (fun _ => ?_) (fun _ => ?_)) <;> conv => whnf))
   refine op_nilE rfl Tryz.underlying28 rfl rfl (.inr rfl) rfl ?_
   intro b
   cases b <;> ((conv => whnf); repeat' ((first | refine odw ?_ | refine ify ?_ | refine ifn ?_ | refine i6 ?_ | refine ati ?_ | refine mst ?_ | refine rmd ?_ | refine ibo (fun _ => ?_) (fun _ => ?_)) <;> conv => whnf))
   ·exact ⟨rfl, rfl, rfl⟩
   ·exact rfl
 | cons x l =>
   have hlm2 : (([] : List Da).length + ((x :: l).map dI).length) ≤ 4294967296 := by rw [hlm]; simpa using hl
   ((conv => whnf); repeat' ((first | refine odw ?_ | refine ify ?_ | refine ifn ?_ | refine i6 ?_ | refine ati ?_ | refine mst ?_ | refine rmd ?_ | refine ibo (fun _ => ?_) (fun _ => ?_)) <;> conv => whnf))
   refine most_ok hlm2 ?_
   ((conv => whnf); repeat' ((first | refine odw ?_ | refine ify ?_ | refine ifn ?_ | refine i6 ?_ | refine ati ?_ | refine mst ?_ | refine rmd ?_ | refine ibo (fun _ => ?_) (fun _ => ?_)) <;> conv => whnf))
   exact ⟨rfl, rfl, by simp⟩
end Go.Proofs.YtjejpdfldmempaaGreatDoor
end
