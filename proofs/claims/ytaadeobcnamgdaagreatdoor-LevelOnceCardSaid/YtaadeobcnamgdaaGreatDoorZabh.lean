/- Merged: Lmd Lon Ldx Ldy. -/
import Derived.Test.YtaadeobcnamgdaaGreatDoorZabg
import Derived.Test.YtaadeobcnamgdaaGreatDoorZabe
import Derived.Test.YtaadeobcnamgdaaGreatDoorZabd
import Derived.Test.YtaadeobcnamgdaaGreatDoorZaac
import Derived.Test.YtaadeobcnamgdaaGreatDoorZaay
import Derived.Test.YtaadeobcnamgdaaGreatDoorZaaf
import Derived.Test.YtaadeobcnamgdaaGreatDoorArg
import Derived.Test.YtaadeobcnamgdaaGreatDoorCards
import Derived.Test.YtaadeobcnamgdaaGreatDoorTie
import Derived.WalkKit
import Derived.ProofKit
import Derived.OpenShut
import Derived.ChangeMaps5
import Derived.ChangeSame
import Derived.SizedLaws
import Derived.Deep.DeepHandedRow
import Derived.Lib.LaidTab
import Derived.LaidHandle
import Derived.Carry
import Derived.Stop.LaidErr
import Derived.Test.YtaadeobcnamgdaaGreatDoorZaau
section
/- fretworklaw18: Made, same, alive; jobs that can't be. -/
namespace Go.Proofs.YtaadeobcnamgdaaGreatDoor
open Go.Sx Go.RowKit Go.Reg Go.Gr

set_option maxRecDepth 100000
theorem ops_len {O : List Nat} {w : World} {l : List Opp} {v : Value} (h : Rep O w (dOs l) v) : l.length ≤ 9223372036854775807 := by
  have := rep_len h
  rw [List.length_map] at this
  unfold maxLen at this
  omega
theorem Pure.len5 {f : FuncId} {a b c d : Da} {l : List Opp} {xs : List Da} {Q : Da → Prop} (h : l.length ≤ 9223372036854775807 → Sx.Pure C1 f (a :: b :: c :: d :: dOs l :: xs) Q) : Sx.Pure C1 f (a :: b :: c :: d :: dOs l :: xs) Q :=
  Sx.Pure.assume (fun O w us hr => by
    obtain ⟨_, _, rfl, _, h1⟩ := reps_inv hr
    obtain ⟨_, _, rfl, _, h2⟩ := reps_inv h1
    obtain ⟨_, _, rfl, _, h3⟩ := reps_inv h2
    obtain ⟨_, _, rfl, _, h4⟩ := reps_inv h3
    obtain ⟨_, _, rfl, h5, _⟩ := reps_inv h4
    exact ops_len h5) h
def dJr (G : Gr) (e : Bool) (d : Int) (l : List Opp) : Da := .agg [dM G.labels G.edges, .bool e, .int .i64 d, dOs l]
def madeN : Da := .tuple [.agg [.nilp, .bool false, .int .i64 0, .nils], .agg [.agg [.nils, .nils], .bool false, .int .i64 0, .nils], .bool false]
def pl_l8m : List (Nat × Plan) := [(5, .split 6 11 (.leaf [0, 0, 0, 0, 2, 0, 1, 0, 0, 0, 0, 3, 3, 0] [0, 1, 2, 3, 7, 8, 9, 6, 10, 4, 5, 11, 12, 13] [0, 0, 0, 0, 8, 31, 0, 0, 0, 0, 960, 127, 4095, 8191]) (.leaf [0, 0, 0, 0, 2, 0, 1, 0, 0, 0, 0, 3, 3, 0] [0, 1, 2, 3, 7, 8, 9, 4, 5, 11, 6, 10, 12, 13] [0, 0, 0, 0, 8, 31, 2111, 0, 0, 0, 3071, 63, 4095, 8191]))]
def G_l8m : List FuncId := [46, 47, 11]
theorem cok_l8m : codeOk Tryz.prog G_l8m pl_l8m (Tryz.f10.body.getD .skip) = true := by kernel_rfl
theorem run_l8m (vs : Array Value) (w : World) : (callFunc 10 vs).run C1.P w = .ok (.enter 10 vs) w := by kernel_rfl
theorem lmade_pure (labels : List Int) (edges : List Edg) (e : Bool) (d : Int) (p : List Opp) : Pure C1 10 [dIs labels, dEs edges, .bool e, .int .i64 d, dOs p] (fun y => y = madeN ∨ ∃ G, y = .tuple [dJ G e d p, dJr G e d p, .bool true] ∧ JobOk G e d p) := by
  refine Pure.len5 fun hpl => ?_
  have hll : (labels.map dI).length = labels.length := List.length_map _
  have hel : (edges.map dE).length = edges.length := List.length_map _
  have hmd := made_pure labels edges
  have hrr := rright17_pure p hpl
  refine pure_of c1_ok (pl := pl_l8m) (G := G_l8m) Tryz.func10 rfl Tryz.ntmps10 run_l8m cok_l8m (by simp) ?_
  (conv => whnf)
  rcases made_case labels edges with hy | ⟨G, hy, hG, _, hm, hGe, _, hlen⟩
  · rw [hy] at hmd
    (repeat' ((first | refine ord_ok (by (conv => whnf); (repeat' ((first | refine call_eq rfl hmd ?_ | refine ify ?_ | refine ifn ?_ | refine i6 ?_ | refine ati ?_ | refine mst ?_ | refine rmd ?_ | refine ibo (fun _ => ?_) (fun _ => ?_)) <;> conv => whnf)); (all_goals (repeat' (first | exact trivial | exact rfl | refine And.intro ?_ ?_)))) ?_ | refine call_eq rfl hmd ?_ | refine ify ?_ | refine ifn ?_ | refine i6 ?_ | refine ati ?_ | refine mst ?_ | refine rmd ?_ | refine ibo (fun _ => ?_) (fun _ => ?_)) <;> conv => whnf))
    refine call_pure rfl hrr ?_
    rintro y (⟨rfl, hl16, hlok⟩ | ⟨c, i, hc, rfl⟩)
    · ((conv => whnf); repeat' ((first | refine odw ?_ | refine ify ?_ | refine ifn ?_ | refine i6 ?_ | refine ati ?_ | refine mst ?_ | refine rmd ?_ | refine ibo (fun _ => ?_) (fun _ => ?_)) <;> conv => whnf))
      exact .inl rfl
    · ((conv => whnf); repeat' ((first | refine odw ?_ | refine ify ?_ | refine ifn ?_ | refine i6 ?_ | refine ati ?_ | refine mst ?_ | refine rmd ?_ | refine ibo (fun _ => ?_) (fun _ => ?_)) <;> conv => whnf))
      exact .inl rfl
  · rw [hy] at hmd
    have hGl : G.labels = labels := by rw [hGe]
    (repeat' ((first | refine ord_ok (by (conv => whnf); (repeat' ((first | refine call_eq rfl hmd ?_ | refine ify ?_ | refine ifn ?_ | refine i6 ?_ | refine ati ?_ | refine mst ?_ | refine rmd ?_ | refine ibo (fun _ => ?_) (fun _ => ?_)) <;> conv => whnf)); (all_goals (repeat' (first | exact trivial | exact rfl | refine And.intro ?_ ?_)))) ?_ | refine call_eq rfl hmd ?_ | refine ify ?_ | refine ifn ?_ | refine i6 ?_ | refine ati ?_ | refine mst ?_ | refine rmd ?_ | refine ibo (fun _ => ?_) (fun _ => ?_)) <;> conv => whnf))
    refine call_pure rfl hrr ?_
    rintro y (⟨rfl, hl16, hlok⟩ | ⟨c, i, hc, rfl⟩)
    · have hof := law17of_pure p (by omega)
      by_cases h7 : 7 < labels.length
      · ((conv => whnf); repeat' ((first | refine odw ?_ | refine ify ?_ | refine ifn ?_ | refine i6 ?_ | refine ati ?_ | refine mst ?_ | refine rmd ?_ | refine ibo (fun _ => ?_) (fun _ => ?_)) <;> conv => whnf))
        exact .inl rfl
      by_cases hd : 1 ≤ d ∧ d ≤ 8
      · cases e with
        | true =>
          by_cases h8 : 8 < edges.length
          · ((conv => whnf); repeat' ((first | refine odw ?_ | refine ify ?_ | refine ifn ?_ | refine i6 ?_ | refine ati ?_ | refine mst ?_ | refine rmd ?_ | refine ibo (fun _ => ?_) (fun _ => ?_)) <;> conv => whnf))
            exact .inl rfl
          · (conv => whnf)
            (repeat' ((first | refine ord_ok (by (conv => whnf); (repeat' ((first | refine call_eq rfl hof ?_ | refine ify ?_ | refine ifn ?_ | refine i6 ?_ | refine ati ?_ | refine mst ?_ | refine rmd ?_ | refine ibo (fun _ => ?_) (fun _ => ?_)) <;> conv => whnf)); (all_goals (repeat' (first | exact trivial | exact rfl | refine And.intro ?_ ?_)))) ?_ | refine call_eq rfl hof ?_ | refine ify ?_ | refine ifn ?_ | refine i6 ?_ | refine ati ?_ | refine mst ?_ | refine rmd ?_ | refine ibo (fun _ => ?_) (fun _ => ?_)) <;> conv => whnf))
            exact .inr ⟨G, rfl, hG, by rw [hGl]; omega, hm, fun _ => by omega, hd, hl16, hlok⟩
        | false =>
          by_cases h8 : 8 < edges.length
          · (conv => whnf)
            (repeat' ((first | refine ord_ok (by (conv => whnf); (repeat' ((first | refine call_eq rfl hof ?_ | refine ify ?_ | refine ifn ?_ | refine i6 ?_ | refine ati ?_ | refine mst ?_ | refine rmd ?_ | refine ibo (fun _ => ?_) (fun _ => ?_)) <;> conv => whnf)); (all_goals (repeat' (first | exact trivial | exact rfl | refine And.intro ?_ ?_)))) ?_ | refine call_eq rfl hof ?_ | refine ify ?_ | refine ifn ?_ | refine i6 ?_ | refine ati ?_ | refine mst ?_ | refine rmd ?_ | refine ibo (fun _ => ?_) (fun _ => ?_)) <;> conv => whnf))
            exact .inr ⟨G, rfl, hG, by rw [hGl]; omega, hm, fun h => (by cases h), hd, hl16, hlok⟩
          · (conv => whnf)
            (repeat' ((first | refine ord_ok (by (conv => whnf); (repeat' ((first | refine call_eq rfl hof ?_ | refine ify ?_ | refine ifn ?_ | refine i6 ?_ | refine ati ?_ | refine mst ?_ | refine rmd ?_ | refine ibo (fun _ => ?_) (fun _ => ?_)) <;> conv => whnf)); (all_goals (repeat' (first | exact trivial | exact rfl | refine And.intro ?_ ?_)))) ?_ | refine call_eq rfl hof ?_ | refine ify ?_ | refine ifn ?_ | refine i6 ?_ | refine ati ?_ | refine mst ?_ | refine rmd ?_ | refine ibo (fun _ => ?_) (fun _ => ?_)) <;> conv => whnf))
            exact .inr ⟨G, rfl, hG, by rw [hGl]; omega, hm, fun h => (by cases h), hd, hl16, hlok⟩
      · by_cases h8 : 8 < edges.length <;> cases e <;> ((conv => whnf); repeat' ((first | refine odw ?_ | refine ify ?_ | refine ifn ?_ | refine i6 ?_ | refine ati ?_ | refine mst ?_ | refine rmd ?_ | refine ibo (fun _ => ?_) (fun _ => ?_)) <;> conv => whnf))
        all_goals exact .inl rfl
    · by_cases h7 : 7 < labels.length <;> by_cases h8 : 8 < edges.length <;> cases e <;> ((conv => whnf); repeat' ((first | refine odw ?_ | refine ify ?_ | refine ifn ?_ | refine i6 ?_ | refine ati ?_ | refine mst ?_ | refine rmd ?_ | refine ibo (fun _ => ?_) (fun _ => ?_)) <;> conv => whnf))
      all_goals exact .inl rfl
def pl_l8s : List (Nat × Plan) := [(6, .leaf [0, 0, 0, 1, 0, 0, 0, 1, 2, 0] [0, 1, 2, 4, 5, 6, 3, 7, 8, 9] [0, 0, 3, 7, 0, 0, 48, 112, 255, 511])]
def G_l8s : List FuncId := [16]
theorem cok_l8s : codeOk Tryz.prog G_l8s pl_l8s (Tryz.f18.body.getD .skip) = true := by kernel_rfl
theorem run_l8s (vs : Array Value) (w : World) : (callFunc 18 vs).run C1.P w = .ok (.enter 18 vs) w := by kernel_rfl
theorem lsame_pure (P : List (List Int)) (hm : P.length ≤ 9000000000) : Pure C1 18 [dLs P, dLs P] (fun y => y = .bool true) := by
  have hl : (P.map dIs).length = P.length := List.length_map _
  refine pure_of c1_ok (pl := pl_l8s) (G := G_l8s) Tryz.func18 rfl Tryz.ntmps18 run_l8s cok_l8s (by simp) ?_
  ((conv => whnf); repeat' ((first | refine odw ?_ | refine ify ?_ | refine ifn ?_ | refine i6 ?_ | refine ati ?_ | refine mst ?_ | refine rmd ?_ | refine ibo (fun _ => ?_) (fun _ => ?_)) <;> conv => whnf))
  refine loop_lo (ι := Nat) (fun i => i ≤ P.length) (fun i => [(5, .d (.int .i64 i)), (1, .d (dLs P)), (0, .d (dLs P))]) (fun _ => []) (fun i => P.length - i) 0 (fun _ => rfl) (Nat.zero_le _) (.refl _ _) ⟨rfl, rfl, rfl, trivial⟩ trivial ?_
  intro i hi
  refine sxCode_sound c1_ok (G := G_l8s) (pl := pl_l8s) _ _ _ _ (by kernel_rfl) ?_
  by_cases hlt : i < P.length
  · have hx := List.getElem?_eq_getElem hlt
    generalize P[i] = x at hx
    have hxd : (P.map dIs)[i]? = some (dIs x) := by rw [List.getElem?_map, hx]; rfl
    have hs := same_pure x x
    rw [decide_eq_true rfl] at hs
    (conv => whnf)
    (repeat' ((first | refine ord_ok (by (conv => whnf); (repeat' ((first | refine at_da hxd rfl ?_ | refine call_eq rfl hs ?_ | refine ify ?_ | refine ifn ?_ | refine i6 ?_ | refine ati ?_ | refine mst ?_ | refine rmd ?_ | refine ibo (fun _ => ?_) (fun _ => ?_)) <;> conv => whnf)); (all_goals (repeat' (first | exact trivial | exact rfl | refine And.intro ?_ ?_)))) ?_ | refine at_da hxd rfl ?_ | refine call_eq rfl hs ?_ | refine ify ?_ | refine ifn ?_ | refine i6 ?_ | refine ati ?_ | refine mst ?_ | refine rmd ?_ | refine ibo (fun _ => ?_) (fun _ => ?_)) <;> conv => whnf))
    exact ⟨i + 1, _, _, hlt, .refl _ _, ⟨rfl, rfl, rfl, trivial⟩, trivial, by omega⟩
  · ((conv => whnf); repeat' ((first | refine odw ?_ | refine ify ?_ | refine ifn ?_ | refine i6 ?_ | refine ati ?_ | refine mst ?_ | refine rmd ?_ | refine ibo (fun _ => ?_) (fun _ => ?_)) <;> conv => whnf))
    exact rfl
def depthS : ByteArray := ⟨#[100, 101, 112, 116, 104]⟩
def progS : ByteArray := ⟨#[112, 114, 111, 103, 114, 97, 109]⟩
theorem lwords_nil (b : Bool) (d : Int) (ds : List Da) : Pure C1 49 [.agg [.nilp, .bool b, .int .i64 d, .list 2 ds]] (fun y => y = .tuple [.nilp, dF 10 0 graphS]) := by
  refine pure_of c1_ok (pl := pl_lww) (G := G_lww) Tryz.func49 rfl Tryz.ntmps49 run_lww cok_lww (by simp) ?_
  (conv => whnf)
  (repeat' ((first | refine ord_ok (by (conv => whnf); (repeat' ((first | refine call_eq rfl (fnew_pure 10 0 graphS) ?_ | refine ify ?_ | refine ifn ?_ | refine i6 ?_ | refine ati ?_ | refine mst ?_ | refine rmd ?_ | refine ibo (fun _ => ?_) (fun _ => ?_)) <;> conv => whnf)); (all_goals (repeat' (first | exact trivial | exact rfl | refine And.intro ?_ ?_)))) ?_ | refine call_eq rfl (fnew_pure 10 0 graphS) ?_ | refine ify ?_ | refine ifn ?_ | refine i6 ?_ | refine ati ?_ | refine mst ?_ | refine rmd ?_ | refine ibo (fun _ => ?_) (fun _ => ?_)) <;> conv => whnf))
  exact rfl
theorem lwords_deep (G : Gr) (b : Bool) (d : Int) (hd : 8 < d) (l : List Opp) : Pure C1 49 [dJ G b d l] (fun y => y = .tuple [.nilp, dF 3 0 depthS]) := by
  refine pure_of c1_ok (pl := pl_lww) (G := G_lww) Tryz.func49 rfl Tryz.ntmps49 run_lww cok_lww (by simp) ?_
  (conv => whnf)
  (repeat' ((first | refine ord_ok (by (conv => whnf); (repeat' ((first | refine call_eq rfl (fnew_pure 3 0 depthS) ?_ | refine ify ?_ | refine ifn ?_ | refine i6 ?_ | refine ati ?_ | refine mst ?_ | refine rmd ?_ | refine ibo (fun _ => ?_) (fun _ => ?_)) <;> conv => whnf)); (all_goals (repeat' (first | exact trivial | exact rfl | refine And.intro ?_ ?_)))) ?_ | refine call_eq rfl (fnew_pure 3 0 depthS) ?_ | refine ify ?_ | refine ifn ?_ | refine i6 ?_ | refine ati ?_ | refine mst ?_ | refine rmd ?_ | refine ibo (fun _ => ?_) (fun _ => ?_)) <;> conv => whnf))
  exact rfl
theorem pright_bad : Pure C1 104 [dOs [⟨99, 0⟩]] (fun y => y = dF 1 0 kindS) := by
  have hr := pright1_pure ⟨99, 0⟩ ((0 : Nat) : Int)
  rw [show rightY ⟨99, 0⟩ ((0 : Nat) : Int) = dF 1 0 kindS from rfl] at hr
  refine pure_of c1_ok (pl := pl_pgrs) (G := G_pgrs) Tryz.func104 rfl Tryz.ntmps104 run_pgrs cok_pgrs (by simp) ?_
  have hl1 : (List.map dO [⟨99, 0⟩]).length = 1 := rfl
  ((conv => whnf); repeat' ((first | refine odw ?_ | refine ify ?_ | refine ifn ?_ | refine i6 ?_ | refine ati ?_ | refine mst ?_ | refine rmd ?_ | refine ibo (fun _ => ?_) (fun _ => ?_)) <;> conv => whnf))
  refine loop_lo (ι := Nat) (fun i => i = 0) (fun i => [(12, .d (.int .i64 (i : Nat))), (11, .d (.int .i64 (List.map dO [⟨99, 0⟩]).length)), (10, .d (dOs [⟨99, 0⟩]))]) (fun _ => []) (fun i => 1 - i) 0 (fun _ => rfl) rfl (.refl _ _) ⟨rfl, rfl, rfl, trivial⟩ trivial ?_
  rintro i rfl
  refine sxCode_sound c1_ok (G := G_pgrs) (pl := pl_pgrs) _ _ _ _ (by kernel_rfl) ?_
  have hxd : (List.map dO [⟨99, 0⟩])[0]? = some (.agg [.int .i64 99, .int .i64 0]) := rfl
  (conv => whnf)
  (repeat' ((first | refine ord_ok (by (conv => whnf); (repeat' ((first | refine at_da hxd rfl ?_ | refine call_eq rfl hr ?_ | refine ify ?_ | refine ifn ?_ | refine i6 ?_ | refine ati ?_ | refine mst ?_ | refine rmd ?_ | refine ibo (fun _ => ?_) (fun _ => ?_)) <;> conv => whnf)); (all_goals (repeat' (first | exact trivial | exact rfl | refine And.intro ?_ ?_)))) ?_ | refine at_da hxd rfl ?_ | refine call_eq rfl hr ?_ | refine ify ?_ | refine ifn ?_ | refine i6 ?_ | refine ati ?_ | refine mst ?_ | refine rmd ?_ | refine ibo (fun _ => ?_) (fun _ => ?_)) <;> conv => whnf))
  exact rfl
theorem lwords_bad (G : Gr) (b : Bool) (d : Int) (hd : 1 ≤ d ∧ d ≤ 8) : Pure C1 49 [dJ G b d [⟨99, 0⟩]] (fun y => y = .tuple [.nilp, dS progS (dF 1 0 kindS)]) := by
  have h1 := hd.1
  have h2 := hd.2
  refine pure_of c1_ok (pl := pl_lww) (G := G_lww) Tryz.func49 rfl Tryz.ntmps49 run_lww cok_lww (by simp) ?_
  (conv => whnf)
  (repeat' ((first | refine ord_ok (by (conv => whnf); (repeat' ((first | refine call_eq rfl pright_bad ?_ | refine call_eq rfl (in_f_pure progS 1 0 kindS) ?_ | refine ify ?_ | refine ifn ?_ | refine i6 ?_ | refine ati ?_ | refine mst ?_ | refine rmd ?_ | refine ibo (fun _ => ?_) (fun _ => ?_)) <;> conv => whnf)); (all_goals (repeat' (first | exact trivial | exact rfl | refine And.intro ?_ ?_)))) ?_ | refine call_eq rfl pright_bad ?_ | refine call_eq rfl (in_f_pure progS 1 0 kindS) ?_ | refine ify ?_ | refine ifn ?_ | refine i6 ?_ | refine ati ?_ | refine mst ?_ | refine rmd ?_ | refine ibo (fun _ => ?_) (fun _ => ?_)) <;> conv => whnf))
  exact rfl
/-- what Right tells of a job whose words are wrong -/
theorem lright_of {G : Da} {b : Bool} {d : Int} {ds : List Da} {x : Da} (hG : G = .nilp ∨ ∃ g, G = dG g) (h : Pure C1 49 [.agg [G, .bool b, .int .i64 d, .list 2 ds]] (fun y => y = .tuple [.nilp, x])) (hx : (∃ c a s, x = dF c a s) ∨ ∃ z c a s, x = dS z (dF c a s)) : Pure C1 13 [.agg [G, .bool b, .int .i64 d, .list 2 ds]] (fun y => y = x) := by
  rcases hG with rfl | ⟨g, rfl⟩ <;> rcases hx with ⟨c, a, s, rfl⟩ | ⟨z, c, a, s, rfl⟩
  all_goals
    refine pure_of c1_ok (pl := pl_lwr) (G := G_lwr) Tryz.func13 rfl Tryz.ntmps13 run_lwr cok_lwr (by simp) ?_
    (conv => whnf)
    (repeat' ((first | refine ord_ok (by (conv => whnf); (repeat' ((first | refine call_eq rfl h ?_ | refine ify ?_ | refine ifn ?_ | refine i6 ?_ | refine ati ?_ | refine mst ?_ | refine rmd ?_ | refine ibo (fun _ => ?_) (fun _ => ?_)) <;> conv => whnf)); (all_goals (repeat' (first | exact trivial | exact rfl | refine And.intro ?_ ?_)))) ?_ | refine call_eq rfl h ?_ | refine ify ?_ | refine ifn ?_ | refine i6 ?_ | refine ati ?_ | refine mst ?_ | refine rmd ?_ | refine ibo (fun _ => ?_) (fun _ => ?_)) <;> conv => whnf))
    exact rfl
theorem tri_made : madeY [0, 0, 0] [⟨0, 2⟩, ⟨1, 2⟩, ⟨0, 1⟩] = .tuple [dG triG, dM triG.labels triG.edges, .bool true] := by
  have h1 : newErr [0, 0, 0] [⟨0, 2⟩, ⟨1, 2⟩, ⟨0, 1⟩] = none := by decide
  have h2 : canon [⟨0, 2⟩, ⟨1, 2⟩, ⟨0, 1⟩] = triG.edges := (canon_eq (by decide) (by decide) (by decide)).symm
  unfold madeY madeG
  rw [if_pos ⟨by decide, by decide⟩, h1]
  simp only [h2]
  rfl
theorem tri_job : JobOk triG false 3 [] := ⟨tri_ok, by decide, by decide, fun h => (by cases h), by omega, by decide, fun o ho => by cases ho⟩
def pl_lal8 : List (Nat × Plan) := []
def G_lal8 : List FuncId := [46]
theorem cok_lal8 : codeOk Tryz.prog G_lal8 pl_lal8 (Tryz.f9.body.getD .skip) = true := by kernel_rfl
theorem run_lal8 (vs : Array Value) (w : World) : (callFunc 9 vs).run C1.P w = .ok (.enter 9 vs) w := by kernel_rfl
theorem alive18_pure : Pure C1 9 [] (fun y => y = .bool true) := by
  have hm := made_pure [0, 0, 0] [⟨0, 2⟩, ⟨1, 2⟩, ⟨0, 1⟩]
  rw [tri_made] at hm
  have ha : Pure C1 14 [.agg [dG triG, .bool false, .int .i64 3, .nils], .int .i64 100] (fun z => z = .tuple [.list 1 ([[[0], [1], [2]], [[0, 1], [0, 2], [1, 2]], [[0, 1, 2]]].map dLs), .nili]) := by
    refine Sx.Pure.lax (.cons (.agg (.cons (.refl _) (.cons (.refl _) (.cons (.refl _) (.cons (.nils 2) .nil))))) (.cons (.refl _) .nil)) ?_
    have := all_pure tri_job 100
    rw [show wordsG triG false = triG from rfl] at this
    have hs : sumP triG (psJ triG false []) 3 = 7 := by
      unfold sumP
      show ((rowP _ _ 0).length + ((rowP _ _ 1).length + ((rowP _ _ 2).length + 0))) = 7
      rw [tri_row0, tri_row1, tri_row2]; rfl
    rw [show allY triG (psJ triG false []) (3 : Int).toNat 100 = .tuple [.list 1 ([[[0], [1], [2]], [[0, 1], [0, 2], [1, 2]], [[0, 1, 2]]].map dLs), .nili] by
      show allY triG (psJ triG false []) 3 100 = _
      unfold allY
      rw [hs, if_pos (by decide), tri_rows]] at this
    exact this
  have hr : Pure C1 13 [.agg [.nilp, .bool false, .int .i64 0, .nils]] (fun y => y = dF 10 0 graphS) :=
    Sx.Pure.lax (.cons (.agg (.cons (.refl _) (.cons (.refl _) (.cons (.refl _) (.cons (.nils 2) .nil))))) .nil) (lright_of (.inl rfl) (lwords_nil false 0 []) (.inl ⟨_, _, _, rfl⟩))
  have hc := code_pure 10 0 graphS
  have g0 : (List.map dLs [[[0], [1], [2]], [[0, 1], [0, 2], [1, 2]], [[0, 1, 2]]])[0]? = some (dLs [[0], [1], [2]]) := rfl
  have g1 : (List.map dLs [[[0], [1], [2]], [[0, 1], [0, 2], [1, 2]], [[0, 1, 2]]])[1]? = some (dLs [[0, 1], [0, 2], [1, 2]]) := rfl
  have g2 : (List.map dLs [[[0], [1], [2]], [[0, 1], [0, 2], [1, 2]], [[0, 1, 2]]])[2]? = some (dLs [[0, 1, 2]]) := rfl
  have l0 : (List.map dLs [[[0], [1], [2]], [[0, 1], [0, 2], [1, 2]], [[0, 1, 2]]]).length = 3 := rfl
  have l1 : (List.map dIs [[0], [1], [2]]).length = 3 := rfl
  have l2 : (List.map dIs [[0, 1], [0, 2], [1, 2]]).length = 3 := rfl
  have l3 : (List.map dIs [[0, 1, 2]]).length = 1 := rfl
  refine pure_of c1_ok (pl := pl_lal8) (G := G_lal8) Tryz.func9 rfl Tryz.ntmps9 run_lal8 cok_lal8 (by simp) ?_
  (conv => whnf)
  (repeat' ((first | refine ord_ok (by (conv => whnf); (repeat' ((first | refine call_eq (xs := [dIs [0, 0, 0], dEs [⟨0, 2⟩, ⟨1, 2⟩, ⟨0, 1⟩]]) rfl hm ?_ | refine call_frz 7 rfl ?_ | refine call_frz 11 rfl ?_ | refine call_eq rfl ha ?_ | refine call_eq rfl hr ?_ | refine call_eq rfl hc ?_ | refine at_da g0 rfl ?_ | refine at_da g1 rfl ?_ | refine at_da g2 rfl ?_ | refine ify ?_ | refine ifn ?_ | refine i6 ?_ | refine ati ?_ | refine mst ?_ | refine rmd ?_ | refine ibo (fun _ => ?_) (fun _ => ?_)) <;> conv => whnf)); (all_goals (repeat' (first | exact trivial | exact rfl | refine And.intro ?_ ?_)))) ?_ | refine call_eq (xs := [dIs [0, 0, 0], dEs [⟨0, 2⟩, ⟨1, 2⟩, ⟨0, 1⟩]]) rfl hm ?_ | refine call_frz 7 rfl ?_ | refine call_frz 11 rfl ?_ | refine call_eq rfl ha ?_ | refine call_eq rfl hr ?_ | refine call_eq rfl hc ?_ | refine at_da g0 rfl ?_ | refine at_da g1 rfl ?_ | refine at_da g2 rfl ?_ | refine ify ?_ | refine ifn ?_ | refine i6 ?_ | refine ati ?_ | refine mst ?_ | refine rmd ?_ | refine ibo (fun _ => ?_) (fun _ => ?_)) <;> conv => whnf))
  exact rfl
end Go.Proofs.YtaadeobcnamgdaaGreatDoor
end

section
/- fretworklaw18.LevelOnce returns true. -/
namespace Go.Proofs.YtaadeobcnamgdaaGreatDoor
open Go.Sx Go.RowKit Go.Reg Go.Gr

set_option maxRecDepth 100000
def pl_lon : List (Nat × Plan) := [(5, .split 4 6 (.leaf [0, 1, 0, 0, 2, 0, 6, 3] [0, 2, 3, 1, 4, 5, 6, 7] [0, 1, 0, 0, 8, 31, 24, 127]) (.leaf [0, 1, 0, 0, 2, 0, 6, 3] [0, 2, 3, 1, 6, 4, 5, 7] [0, 1, 0, 0, 72, 95, 0, 127])),
  (16, .leaf [0, 0, 0, 1, 0, 0, 1, 0, 0, 0, 0, 0, 0, 0, 0, 0, 0, 0, 1, 0, 0, 0, 1, 0, 0, 0, 1, 0, 0, 1, 2, 0, 0, 0] [0, 1, 2, 4, 8, 9, 3, 5, 6, 7, 10, 11, 12, 13, 14, 15, 16, 17, 19, 20, 23, 24, 25, 27, 18, 21, 22, 26, 28, 29, 30, 31, 32, 33] [0, 0, 3, 7, 0, 31, 63, 127, 0, 256, 1023, 2047, 4095, 8191, 16383, 32767, 32767, 131071, 262143, 32767, 557055, 2097151, 4194303, 32767, 32767, 25198591, 58753023, 32767, 260079615, 528515071, 1073741823, 2147483647, 4294967295, 8589934591]),
  (22, .leaf [0, 0, 0, 0, 0, 0, 1, 0, 0, 1, 0, 0, 0, 1, 0, 0, 1, 0, 0, 2, 0, 0] [0, 1, 2, 3, 4, 5, 7, 10, 11, 12, 14, 17, 6, 8, 9, 13, 15, 16, 18, 19, 20, 21] [0, 1, 3, 3, 11, 31, 63, 3, 255, 511, 3, 3, 3075, 7171, 3, 31747, 64515, 3, 261123, 524287, 1048575, 2097151]),
  (26, .leaf [0, 0, 0, 1, 0, 0, 1, 2, 0, 0, 0, 1, 0, 0, 1, 2, 2] [0, 1, 2, 4, 8, 9, 10, 12, 3, 5, 6, 11, 13, 14, 7, 15, 16] [0, 0, 3, 7, 0, 31, 63, 127, 0, 0, 768, 1792, 0, 7936, 16128, 32767, 65535]),
  (36, .leaf [0, 0, 0, 1, 0, 0, 0, 1, 2, 0] [0, 1, 2, 4, 5, 6, 3, 7, 8, 9] [0, 0, 3, 7, 0, 0, 48, 112, 255, 511])]
def G_lon : List FuncId := [11, 15, 16, 17, 18]
theorem cok_lon : codeOk Tryz.prog G_lon pl_lon (Tryz.f3.body.getD .skip) = true := by kernel_rfl
theorem run_lon (vs : Array Value) (w : World) : (callFunc 3 vs).run C1.P w = .ok (.enter 3 vs) w := by kernel_rfl
set_option maxHeartbeats 8000000 in
theorem lonce_pure (labels : List Int) (edges : List Edg) (e : Bool) (d : Int) (p : List Opp) (hp : p.length ≤ 8796093022207) : Pure C1 3 [dIs labels, dEs edges, .bool e, .int .i64 d, dOs p] (fun y => y = .bool true) := by
  have hal := alive18_pure
  have hmd := lmade_pure labels edges e d p
  have hof := law17of_pure p hp
  refine pure_of c1_ok (pl := pl_lon) (G := G_lon) Tryz.func3 rfl Tryz.ntmps3 run_lon cok_lon (by simp) ?_
  (conv => whnf)
  (repeat' ((first | refine ord_ok (by (conv => whnf); (repeat' ((first | refine call_eq rfl hal ?_ | refine ify ?_ | refine ifn ?_ | refine i6 ?_ | refine ati ?_ | refine mst ?_ | refine rmd ?_ | refine ibo (fun _ => ?_) (fun _ => ?_)) <;> conv => whnf)); (all_goals (repeat' (first | exact trivial | exact rfl | refine And.intro ?_ ?_)))) ?_ | refine call_eq rfl hal ?_ | refine ify ?_ | refine ifn ?_ | refine i6 ?_ | refine ati ?_ | refine mst ?_ | refine rmd ?_ | refine ibo (fun _ => ?_) (fun _ => ?_)) <;> conv => whnf))
  refine call_pure rfl hmd ?_
  rintro y (rfl | ⟨G, rfl, hJ⟩)
  · have hr := lright_of (.inl rfl) (lwords_nil false d (p.map dO)) (.inl ⟨_, _, _, rfl⟩)
    have hc := code_pure 10 0 graphS
    (conv => whnf)
    (repeat' ((first | refine ord_ok (by (conv => whnf); (repeat' ((first | refine call_eq rfl hof ?_ | refine call_eq rfl hr ?_ | refine call_eq rfl hc ?_ | refine ify ?_ | refine ifn ?_ | refine i6 ?_ | refine ati ?_ | refine mst ?_ | refine rmd ?_ | refine ibo (fun _ => ?_) (fun _ => ?_)) <;> conv => whnf)); (all_goals (repeat' (first | exact trivial | exact rfl | refine And.intro ?_ ?_)))) ?_ | refine call_eq rfl hof ?_ | refine call_eq rfl hr ?_ | refine call_eq rfl hc ?_ | refine ify ?_ | refine ifn ?_ | refine i6 ?_ | refine ati ?_ | refine mst ?_ | refine rmd ?_ | refine ibo (fun _ => ?_) (fun _ => ?_)) <;> conv => whnf))
    exact rfl
  · have h1 := hJ.d.1
    have h2 := hJ.d.2
    have hok := words_ok hJ.ok (by have := hJ.n; omega) hJ.m e
    have hsm := small_len hJ
    have ha := all_pure hJ 1048576
    obtain ⟨D, rfl⟩ := Int.eq_ofNat_of_zero_le (show 0 ≤ d by omega)
    have hJ2 : JobOk G e ((D % 8 + 1 : Nat) : Int) p := ⟨hJ.ok, hJ.n, hJ.m, hJ.me, by omega, hJ.l16, hJ.lok⟩
    have hb := all_pure hJ2 1048576
    have hDm : (D : Int).tmod 8 = ((D % 8 : Nat) : Int) := by rw [Int.tmod_eq_emod_of_nonneg (by omega)]; omega
    rw [Int.toNat_natCast] at ha hb
    rw [Int.natCast_add, ← hDm, Int.natCast_one] at hb
    generalize wordsG G e = w at hok hsm ha hb
    generalize psJ G e p = ps at ha hb
    have hbig : ∀ m, m ≤ 8 → (sumP w ps m : Int) ≤ max 1048576 0 := fun m hm => by
      have := sumP_few hok ps hsm hm
      omega
    unfold allY at ha hb
    rw [if_pos (hbig _ (by omega))] at ha hb
    have hRl := rows_len w ps D
    have hRg : ∀ n, n < (rowsP w ps D).length → (rowsP w ps D)[n]? = some (rowP w ps n) := fun n hn => rows_get hn
    have hRg2 : ∀ n, n < (rowsP w ps (D % 8 + 1)).length → (rowsP w ps (D % 8 + 1))[n]? = some (rowP w ps n) := fun n hn => rows_get hn
    have hRl2 := rows_len w ps (D % 8 + 1)
    generalize rowsP w ps D = R at ha hRl hRg
    generalize rowsP w ps (D % 8 + 1) = R2 at hb hRg2 hRl2
    have hdR : (R.map dLs).length = R.length := List.length_map _
    have hdR2 : (R2.map dLs).length = R2.length := List.length_map _
    have hrl : ∀ k, (rowP w ps k).length ≤ 256 := fun k => Nat.le_trans (rowP_len hok ps k) (Nat.le_trans (Nat.pow_le_pow_right (by decide) hsm) (by decide))
    (conv => whnf)
    (repeat' ((first | refine ord_ok (by (conv => whnf); (repeat' ((first | refine call_eq rfl ha ?_ | refine ify ?_ | refine ifn ?_ | refine i6 ?_ | refine ati ?_ | refine mst ?_ | refine rmd ?_ | refine ibo (fun _ => ?_) (fun _ => ?_)) <;> conv => whnf)); (all_goals (repeat' (first | exact trivial | exact rfl | refine And.intro ?_ ?_)))) ?_ | refine call_eq rfl ha ?_ | refine ify ?_ | refine ifn ?_ | refine i6 ?_ | refine ati ?_ | refine mst ?_ | refine rmd ?_ | refine ibo (fun _ => ?_) (fun _ => ?_)) <;> conv => whnf))
    refine loop_lo (ι := Nat) (fun n => n ≤ R.length) (fun n => [(17, .d (.int .i64 n)), (15, .d (.list 1 (R.map dLs))), (11, .own 11), (3, .d (.int .i64 (D : Int)))]) (fun _ => [(11, .cells 30 [.d (dG G), .d (.bool e), .d (.int .i64 (D : Int)), .d (dOs p)])]) (fun n => R.length - n) 0 (fun _ => rfl) (Nat.zero_le _) (.refl _ _) ⟨rfl, rfl, rfl, rfl, trivial⟩ ⟨rfl, trivial⟩ ?_
    intro n hn
    refine sxCode_sound c1_ok (G := G_lon) (pl := pl_lon) _ _ _ _ (by kernel_rfl) ?_
    by_cases hnl : n < R.length
    · have hgn := hRg n hnl
      have hgd : (R.map dLs)[n]? = some (.list 1 ((rowP w ps n).map dIs)) := by rw [List.getElem?_map, hgn]; rfl
      have hPl : ((rowP w ps n).map dIs).length = (rowP w ps n).length := List.length_map _
      have hP256 := hrl n
      ((conv => whnf); repeat' ((first | refine odw ?_ | refine ify ?_ | refine ifn ?_ | refine i6 ?_ | refine ati ?_ | refine mst ?_ | refine rmd ?_ | refine ibo (fun _ => ?_) (fun _ => ?_)) <;> conv => whnf))
      refine loop_lo (ι := Nat) (fun i => i ≤ (rowP w ps n).length) (fun i => [(18, .d (.int .i64 i)), (17, .d (.int .i64 n)), (15, .d (.list 1 (R.map dLs))), (11, .own 11), (3, .d (.int .i64 (D : Int)))]) (fun _ => [(11, .cells 30 [.d (dG G), .d (.bool e), .d (.int .i64 (D : Int)), .d (dOs p)])]) (fun i => (rowP w ps n).length - i) 0 (fun _ => rfl) (Nat.zero_le _) (.refl _ _) ⟨rfl, rfl, rfl, rfl, rfl, trivial⟩ ⟨rfl, trivial⟩ ?_
      intro i hi
      refine sxCode_sound c1_ok (G := G_lon) (pl := pl_lon) _ _ _ _ (by kernel_rfl) ?_
      by_cases hil : i < (rowP w ps n).length
      · have hx := List.getElem?_eq_getElem hil
        have hxn := rw_len hok (List.getElem_mem hil)
        generalize (rowP w ps n)[i] = x at hx hxn
        have hxd : ((rowP w ps n).map dIs)[i]? = some (.list 1 (x.map dI)) := by rw [List.getElem?_map, hx]; rfl
        have hxl : (x.map dI).length = x.length := List.length_map _
        rcases n with _ | m
        · by_cases hi0 : i = 0
          · (conv => whnf)
            (repeat' ((first | refine ord_ok (by (conv => whnf); (repeat' ((first | refine at_da hgd rfl ?_ | refine at_da hxd rfl ?_ | refine ify ?_ | refine ifn ?_ | refine i6 ?_ | refine ati ?_ | refine mst ?_ | refine rmd ?_ | refine ibo (fun _ => ?_) (fun _ => ?_)) <;> conv => whnf)); (all_goals (repeat' (first | exact trivial | exact rfl | refine And.intro ?_ ?_)))) ?_ | refine at_da hgd rfl ?_ | refine at_da hxd rfl ?_ | refine ify ?_ | refine ifn ?_ | refine i6 ?_ | refine ati ?_ | refine mst ?_ | refine rmd ?_ | refine ibo (fun _ => ?_) (fun _ => ?_)) <;> conv => whnf))
            refine loop_lo (ι := Nat) (fun k => k = 0) (fun k => [(20, .d (.int .i64 (0 : Nat))), (19, .d (.bool true)), (18, .d (.int .i64 i)), (17, .d (.int .i64 (0 : Nat))), (15, .d (.list 1 (R.map dLs))), (11, .own 11), (3, .d (.int .i64 (D : Int)))]) (fun _ => [(11, .cells 30 [.d (dG G), .d (.bool e), .d (.int .i64 (D : Int)), .d (dOs p)])]) (fun _ => 0) 0 (fun _ => rfl) rfl (.lax 19 rfl (.yes rfl) (.refl _ _)) ⟨rfl, rfl, rfl, rfl, rfl, rfl, rfl, trivial⟩ ⟨rfl, trivial⟩ ?_
            rintro k rfl
            refine sxCode_sound c1_ok (G := G_lon) (pl := pl_lon) _ _ _ _ (by kernel_rfl) ?_
            ((conv => whnf); repeat' ((first | refine odw ?_ | refine ify ?_ | refine ifn ?_ | refine i6 ?_ | refine ati ?_ | refine mst ?_ | refine rmd ?_ | refine ibo (fun _ => ?_) (fun _ => ?_)) <;> conv => whnf))
            refine loop_lo (ι := Nat) (fun k => k ≤ i) (fun k => [(21, .d (.int .i64 k)), (19, .d (.bool true)), (18, .d (.int .i64 i)), (17, .d (.int .i64 (0 : Nat))), (15, .d (.list 1 (R.map dLs))), (11, .own 11), (3, .d (.int .i64 (D : Int)))]) (fun _ => [(11, .cells 30 [.d (dG G), .d (.bool e), .d (.int .i64 (D : Int)), .d (dOs p)])]) (fun k => i - k) 0 (fun _ => rfl) (Nat.zero_le _) (.refl _ _) ⟨rfl, rfl, rfl, rfl, rfl, rfl, rfl, trivial⟩ ⟨rfl, trivial⟩ ?_
            intro k hk
            refine sxCode_sound c1_ok (G := G_lon) (pl := pl_lon) _ _ _ _ (by kernel_rfl) ?_
            by_cases hki : k < i
            · have hz := List.getElem?_eq_getElem (show k < (rowP w ps (0)).length by omega)
              generalize (rowP w ps (0))[k]'(by omega) = z at hz
              have hzn := rw_len hok (List.mem_of_getElem? hz)
              have hzd : ((rowP w ps (0)).map dIs)[k]? = some (.list 1 (z.map dI)) := by rw [List.getElem?_map, hz]; rfl
              have ho1 := of06_pure z (by omega)
              have ho2 := of06_pure x (by omega)
              have hs6 := same_pure (setOf z) (setOf x)
              rw [row_apart hok hki hz hx] at hs6
              (conv => whnf)
              (repeat' ((first | refine ord_ok (by (conv => whnf); (repeat' ((first | refine at_da hgd rfl ?_ | refine at_da hzd rfl ?_ | refine at_da hxd rfl ?_ | refine call_eq rfl ho1 ?_ | refine call_eq rfl ho2 ?_ | refine call_eq rfl hs6 ?_ | refine ify ?_ | refine ifn ?_ | refine i6 ?_ | refine ati ?_ | refine mst ?_ | refine rmd ?_ | refine ibo (fun _ => ?_) (fun _ => ?_)) <;> conv => whnf)); (all_goals (repeat' (first | exact trivial | exact rfl | refine And.intro ?_ ?_)))) ?_ | refine at_da hgd rfl ?_ | refine at_da hzd rfl ?_ | refine at_da hxd rfl ?_ | refine call_eq rfl ho1 ?_ | refine call_eq rfl ho2 ?_ | refine call_eq rfl hs6 ?_ | refine ify ?_ | refine ifn ?_ | refine i6 ?_ | refine ati ?_ | refine mst ?_ | refine rmd ?_ | refine ibo (fun _ => ?_) (fun _ => ?_)) <;> conv => whnf))
              exact ⟨k + 1, _, _, hki, .refl _ _, ⟨rfl, rfl, rfl, rfl, rfl, rfl, rfl, trivial⟩, ⟨rfl, trivial⟩, by omega⟩
            · ((conv => whnf); repeat' ((first | refine odw ?_ | refine ify ?_ | refine ifn ?_ | refine i6 ?_ | refine ati ?_ | refine mst ?_ | refine rmd ?_ | refine ibo (fun _ => ?_) (fun _ => ?_)) <;> conv => whnf))
              exact ⟨i + 1, _, _, hil, .refl _ _, ⟨rfl, rfl, rfl, rfl, rfl, trivial⟩, ⟨rfl, trivial⟩, by omega⟩
          · have hy := List.getElem?_eq_getElem (show i - 1 < (rowP w ps (0)).length by omega)
            generalize (rowP w ps (0))[i - 1]'(by omega) = y at hy
            have hyd : ((rowP w ps (0)).map dIs)[i - 1]? = some (.list 1 (y.map dI)) := by rw [List.getElem?_map, hy]; rfl
            have hcm := row_cmp hok hy (by rw [show i - 1 + 1 = i by omega]; exact hx)
            have hc6 := cmp06_pure y x
            rw [hcm] at hc6
            have hii : ((i : Nat) : Int) - 1 = ((i - 1 : Nat) : Int) := by omega
            (conv => whnf)
            (repeat' ((first | refine ord_ok (by (conv => whnf); (repeat' ((first | refine at_da hgd rfl ?_ | refine at_da hxd rfl ?_ | refine at_da hyd hii ?_ | refine call_eq rfl hc6 ?_ | refine ify ?_ | refine ifn ?_ | refine i6 ?_ | refine ati ?_ | refine mst ?_ | refine rmd ?_ | refine ibo (fun _ => ?_) (fun _ => ?_)) <;> conv => whnf)); (all_goals (repeat' (first | exact trivial | exact rfl | refine And.intro ?_ ?_)))) ?_ | refine at_da hgd rfl ?_ | refine at_da hxd rfl ?_ | refine at_da hyd hii ?_ | refine call_eq rfl hc6 ?_ | refine ify ?_ | refine ifn ?_ | refine i6 ?_ | refine ati ?_ | refine mst ?_ | refine rmd ?_ | refine ibo (fun _ => ?_) (fun _ => ?_)) <;> conv => whnf))
            refine loop_lo (ι := Nat) (fun k => k = 0) (fun k => [(20, .d (.int .i64 (0 : Nat))), (19, .d (.bool true)), (18, .d (.int .i64 i)), (17, .d (.int .i64 (0 : Nat))), (15, .d (.list 1 (R.map dLs))), (11, .own 11), (3, .d (.int .i64 (D : Int)))]) (fun _ => [(11, .cells 30 [.d (dG G), .d (.bool e), .d (.int .i64 (D : Int)), .d (dOs p)])]) (fun _ => 0) 0 (fun _ => rfl) rfl (.lax 19 rfl (.yes rfl) (.refl _ _)) ⟨rfl, rfl, rfl, rfl, rfl, rfl, rfl, trivial⟩ ⟨rfl, trivial⟩ ?_
            rintro k rfl
            refine sxCode_sound c1_ok (G := G_lon) (pl := pl_lon) _ _ _ _ (by kernel_rfl) ?_
            ((conv => whnf); repeat' ((first | refine odw ?_ | refine ify ?_ | refine ifn ?_ | refine i6 ?_ | refine ati ?_ | refine mst ?_ | refine rmd ?_ | refine ibo (fun _ => ?_) (fun _ => ?_)) <;> conv => whnf))
            refine loop_lo (ι := Nat) (fun k => k ≤ i) (fun k => [(21, .d (.int .i64 k)), (19, .d (.bool true)), (18, .d (.int .i64 i)), (17, .d (.int .i64 (0 : Nat))), (15, .d (.list 1 (R.map dLs))), (11, .own 11), (3, .d (.int .i64 (D : Int)))]) (fun _ => [(11, .cells 30 [.d (dG G), .d (.bool e), .d (.int .i64 (D : Int)), .d (dOs p)])]) (fun k => i - k) 0 (fun _ => rfl) (Nat.zero_le _) (.refl _ _) ⟨rfl, rfl, rfl, rfl, rfl, rfl, rfl, trivial⟩ ⟨rfl, trivial⟩ ?_
            intro k hk
            refine sxCode_sound c1_ok (G := G_lon) (pl := pl_lon) _ _ _ _ (by kernel_rfl) ?_
            by_cases hki : k < i
            · have hz := List.getElem?_eq_getElem (show k < (rowP w ps (0)).length by omega)
              generalize (rowP w ps (0))[k]'(by omega) = z at hz
              have hzn := rw_len hok (List.mem_of_getElem? hz)
              have hzd : ((rowP w ps (0)).map dIs)[k]? = some (.list 1 (z.map dI)) := by rw [List.getElem?_map, hz]; rfl
              have ho1 := of06_pure z (by omega)
              have ho2 := of06_pure x (by omega)
              have hs6 := same_pure (setOf z) (setOf x)
              rw [row_apart hok hki hz hx] at hs6
              (conv => whnf)
              (repeat' ((first | refine ord_ok (by (conv => whnf); (repeat' ((first | refine at_da hgd rfl ?_ | refine at_da hzd rfl ?_ | refine at_da hxd rfl ?_ | refine call_eq rfl ho1 ?_ | refine call_eq rfl ho2 ?_ | refine call_eq rfl hs6 ?_ | refine ify ?_ | refine ifn ?_ | refine i6 ?_ | refine ati ?_ | refine mst ?_ | refine rmd ?_ | refine ibo (fun _ => ?_) (fun _ => ?_)) <;> conv => whnf)); (all_goals (repeat' (first | exact trivial | exact rfl | refine And.intro ?_ ?_)))) ?_ | refine at_da hgd rfl ?_ | refine at_da hzd rfl ?_ | refine at_da hxd rfl ?_ | refine call_eq rfl ho1 ?_ | refine call_eq rfl ho2 ?_ | refine call_eq rfl hs6 ?_ | refine ify ?_ | refine ifn ?_ | refine i6 ?_ | refine ati ?_ | refine mst ?_ | refine rmd ?_ | refine ibo (fun _ => ?_) (fun _ => ?_)) <;> conv => whnf))
              exact ⟨k + 1, _, _, hki, .refl _ _, ⟨rfl, rfl, rfl, rfl, rfl, rfl, rfl, trivial⟩, ⟨rfl, trivial⟩, by omega⟩
            · ((conv => whnf); repeat' ((first | refine odw ?_ | refine ify ?_ | refine ifn ?_ | refine i6 ?_ | refine ati ?_ | refine mst ?_ | refine rmd ?_ | refine ibo (fun _ => ?_) (fun _ => ?_)) <;> conv => whnf))
              exact ⟨i + 1, _, _, hil, .refl _ _, ⟨rfl, rfl, rfl, rfl, rfl, trivial⟩, ⟨rfl, trivial⟩, by omega⟩
        · by_cases hi0 : i = 0
          · (conv => whnf)
            (repeat' ((first | refine ord_ok (by (conv => whnf); (repeat' ((first | refine at_da hgd rfl ?_ | refine at_da hxd rfl ?_ | refine ify ?_ | refine ifn ?_ | refine i6 ?_ | refine ati ?_ | refine mst ?_ | refine rmd ?_ | refine ibo (fun _ => ?_) (fun _ => ?_)) <;> conv => whnf)); (all_goals (repeat' (first | exact trivial | exact rfl | refine And.intro ?_ ?_)))) ?_ | refine at_da hgd rfl ?_ | refine at_da hxd rfl ?_ | refine ify ?_ | refine ifn ?_ | refine i6 ?_ | refine ati ?_ | refine mst ?_ | refine rmd ?_ | refine ibo (fun _ => ?_) (fun _ => ?_)) <;> conv => whnf))
            have hgm := hRg m (by omega)
            have hgmd : (R.map dLs)[m]? = some (.list 1 ((rowP w ps m).map dIs)) := by rw [List.getElem?_map, hgm]; rfl
            have hMl : ((rowP w ps m).map dIs).length = (rowP w ps m).length := List.length_map _
            have hM256 := hrl m
            have hhit := row_hit hok hx
            have hmm : (((m + 1 : Nat) : Int) - 1) = (m : Int) := by omega
            have hi1 : ((m + 1 : Nat) : Int) = ((m + 1 : Nat) : Int) := rfl
            have hi2 : m + 1 ≤ (x.map dI).length := by omega
            refine loop_lo (ι := Nat) (fun k => k ≤ (rowP w ps m).length) (fun k => [(20, .d (.int .i64 k)), (19, .d (.bool (hitB (rowP w ps m) (x.take (m + 1)) k))), (18, .d (.int .i64 i)), (17, .d (.int .i64 ((m + 1 : Nat) : Int))), (15, .d (.list 1 (R.map dLs))), (11, .own 11), (3, .d (.int .i64 (D : Int)))]) (fun _ => [(11, .cells 30 [.d (dG G), .d (.bool e), .d (.int .i64 (D : Int)), .d (dOs p)])]) (fun k => (rowP w ps m).length - k) 0 (fun _ => rfl) (Nat.zero_le _) (.lax 19 rfl (.no (by omega)) (.refl _ _)) ⟨rfl, rfl, rfl, rfl, rfl, rfl, rfl, trivial⟩ ⟨rfl, trivial⟩ ?_
            intro k hk
            refine sxCode_sound c1_ok (G := G_lon) (pl := pl_lon) _ _ _ _ (by kernel_rfl) ?_
            by_cases hkl : k < (rowP w ps m).length
            · have hz := List.getElem?_eq_getElem hkl
              generalize (rowP w ps m)[k] = z at hz
              have hzd : ((rowP w ps m).map dIs)[k]? = some (.list 1 (z.map dI)) := by rw [List.getElem?_map, hz]; rfl
              have hs4 := same_pure z (x.take (m + 1))
              rw [dIs_take] at hs4
              have hst4 := hitB_step (y := x.take (m + 1)) hz
              cases hb : hitB (rowP w ps m) (x.take (m + 1)) k with
              | true =>
                rw [hb, Bool.true_or] at hst4
                (conv => whnf)
                (repeat' ((first | refine ord_ok (by (conv => whnf); (repeat' ((first | refine at_da hgmd hmm ?_ | refine at_da hgd rfl ?_ | refine at_da hzd rfl ?_ | refine at_da hxd rfl ?_ | refine hi_is hi1 hi2 ?_ | refine call_eq rfl hs4 ?_ | refine ify ?_ | refine ifn ?_ | refine i6 ?_ | refine ati ?_ | refine mst ?_ | refine rmd ?_ | refine ibo (fun _ => ?_) (fun _ => ?_)) <;> conv => whnf)); (all_goals (repeat' (first | exact trivial | exact rfl | refine And.intro ?_ ?_)))) ?_ | refine at_da hgmd hmm ?_ | refine at_da hgd rfl ?_ | refine at_da hzd rfl ?_ | refine at_da hxd rfl ?_ | refine hi_is hi1 hi2 ?_ | refine call_eq rfl hs4 ?_ | refine ify ?_ | refine ifn ?_ | refine i6 ?_ | refine ati ?_ | refine mst ?_ | refine rmd ?_ | refine ibo (fun _ => ?_) (fun _ => ?_)) <;> conv => whnf))
                exact ⟨k + 1, _, _, hkl, .refl _ _, ⟨rfl, by rw [hst4]; rfl, rfl, rfl, rfl, rfl, rfl, trivial⟩, ⟨rfl, trivial⟩, by omega⟩
              | false =>
                rw [hb, Bool.false_or] at hst4
                (conv => whnf)
                (repeat' ((first | refine ord_ok (by (conv => whnf); (repeat' ((first | refine at_da hgmd hmm ?_ | refine at_da hgd rfl ?_ | refine at_da hzd rfl ?_ | refine at_da hxd rfl ?_ | refine hi_is hi1 hi2 ?_ | refine call_eq rfl hs4 ?_ | refine ify ?_ | refine ifn ?_ | refine i6 ?_ | refine ati ?_ | refine mst ?_ | refine rmd ?_ | refine ibo (fun _ => ?_) (fun _ => ?_)) <;> conv => whnf)); (all_goals (repeat' (first | exact trivial | exact rfl | refine And.intro ?_ ?_)))) ?_ | refine at_da hgmd hmm ?_ | refine at_da hgd rfl ?_ | refine at_da hzd rfl ?_ | refine at_da hxd rfl ?_ | refine hi_is hi1 hi2 ?_ | refine call_eq rfl hs4 ?_ | refine ify ?_ | refine ifn ?_ | refine i6 ?_ | refine ati ?_ | refine mst ?_ | refine rmd ?_ | refine ibo (fun _ => ?_) (fun _ => ?_)) <;> conv => whnf))
                exact ⟨k + 1, _, _, hkl, .refl _ _, ⟨rfl, by rw [hst4]; rfl, rfl, rfl, rfl, rfl, rfl, trivial⟩, ⟨rfl, trivial⟩, by omega⟩
            · rw [show k = (rowP w ps m).length by omega, hhit]
              (conv => whnf)
              (repeat' ((first | refine ord_ok (by (conv => whnf); (repeat' ((first | refine at_da hgmd hmm ?_ | refine ify ?_ | refine ifn ?_ | refine i6 ?_ | refine ati ?_ | refine mst ?_ | refine rmd ?_ | refine ibo (fun _ => ?_) (fun _ => ?_)) <;> conv => whnf)); (all_goals (repeat' (first | exact trivial | exact rfl | refine And.intro ?_ ?_)))) ?_ | refine at_da hgmd hmm ?_ | refine ify ?_ | refine ifn ?_ | refine i6 ?_ | refine ati ?_ | refine mst ?_ | refine rmd ?_ | refine ibo (fun _ => ?_) (fun _ => ?_)) <;> conv => whnf))
              refine loop_lo (ι := Nat) (fun k => k ≤ i) (fun k => [(21, .d (.int .i64 k)), (19, .d (.bool true)), (18, .d (.int .i64 i)), (17, .d (.int .i64 (m + 1 : Nat))), (15, .d (.list 1 (R.map dLs))), (11, .own 11), (3, .d (.int .i64 (D : Int)))]) (fun _ => [(11, .cells 30 [.d (dG G), .d (.bool e), .d (.int .i64 (D : Int)), .d (dOs p)])]) (fun k => i - k) 0 (fun _ => rfl) (Nat.zero_le _) (.refl _ _) ⟨rfl, rfl, rfl, rfl, rfl, rfl, rfl, trivial⟩ ⟨rfl, trivial⟩ ?_
              intro k hk
              refine sxCode_sound c1_ok (G := G_lon) (pl := pl_lon) _ _ _ _ (by kernel_rfl) ?_
              by_cases hki : k < i
              · have hz := List.getElem?_eq_getElem (show k < (rowP w ps (m + 1)).length by omega)
                generalize (rowP w ps (m + 1))[k]'(by omega) = z at hz
                have hzn := rw_len hok (List.mem_of_getElem? hz)
                have hzd : ((rowP w ps (m + 1)).map dIs)[k]? = some (.list 1 (z.map dI)) := by rw [List.getElem?_map, hz]; rfl
                have ho1 := of06_pure z (by omega)
                have ho2 := of06_pure x (by omega)
                have hs6 := same_pure (setOf z) (setOf x)
                rw [row_apart hok hki hz hx] at hs6
                (conv => whnf)
                (repeat' ((first | refine ord_ok (by (conv => whnf); (repeat' ((first | refine at_da hgd rfl ?_ | refine at_da hzd rfl ?_ | refine at_da hxd rfl ?_ | refine call_eq rfl ho1 ?_ | refine call_eq rfl ho2 ?_ | refine call_eq rfl hs6 ?_ | refine ify ?_ | refine ifn ?_ | refine i6 ?_ | refine ati ?_ | refine mst ?_ | refine rmd ?_ | refine ibo (fun _ => ?_) (fun _ => ?_)) <;> conv => whnf)); (all_goals (repeat' (first | exact trivial | exact rfl | refine And.intro ?_ ?_)))) ?_ | refine at_da hgd rfl ?_ | refine at_da hzd rfl ?_ | refine at_da hxd rfl ?_ | refine call_eq rfl ho1 ?_ | refine call_eq rfl ho2 ?_ | refine call_eq rfl hs6 ?_ | refine ify ?_ | refine ifn ?_ | refine i6 ?_ | refine ati ?_ | refine mst ?_ | refine rmd ?_ | refine ibo (fun _ => ?_) (fun _ => ?_)) <;> conv => whnf))
                exact ⟨k + 1, _, _, hki, .refl _ _, ⟨rfl, rfl, rfl, rfl, rfl, rfl, rfl, trivial⟩, ⟨rfl, trivial⟩, by omega⟩
              · ((conv => whnf); repeat' ((first | refine odw ?_ | refine ify ?_ | refine ifn ?_ | refine i6 ?_ | refine ati ?_ | refine mst ?_ | refine rmd ?_ | refine ibo (fun _ => ?_) (fun _ => ?_)) <;> conv => whnf))
                exact ⟨i + 1, _, _, hil, .refl _ _, ⟨rfl, rfl, rfl, rfl, rfl, trivial⟩, ⟨rfl, trivial⟩, by omega⟩
          · have hy := List.getElem?_eq_getElem (show i - 1 < (rowP w ps (m + 1)).length by omega)
            generalize (rowP w ps (m + 1))[i - 1]'(by omega) = y at hy
            have hyd : ((rowP w ps (m + 1)).map dIs)[i - 1]? = some (.list 1 (y.map dI)) := by rw [List.getElem?_map, hy]; rfl
            have hcm := row_cmp hok hy (by rw [show i - 1 + 1 = i by omega]; exact hx)
            have hc6 := cmp06_pure y x
            rw [hcm] at hc6
            have hii : ((i : Nat) : Int) - 1 = ((i - 1 : Nat) : Int) := by omega
            (conv => whnf)
            (repeat' ((first | refine ord_ok (by (conv => whnf); (repeat' ((first | refine at_da hgd rfl ?_ | refine at_da hxd rfl ?_ | refine at_da hyd hii ?_ | refine call_eq rfl hc6 ?_ | refine ify ?_ | refine ifn ?_ | refine i6 ?_ | refine ati ?_ | refine mst ?_ | refine rmd ?_ | refine ibo (fun _ => ?_) (fun _ => ?_)) <;> conv => whnf)); (all_goals (repeat' (first | exact trivial | exact rfl | refine And.intro ?_ ?_)))) ?_ | refine at_da hgd rfl ?_ | refine at_da hxd rfl ?_ | refine at_da hyd hii ?_ | refine call_eq rfl hc6 ?_ | refine ify ?_ | refine ifn ?_ | refine i6 ?_ | refine ati ?_ | refine mst ?_ | refine rmd ?_ | refine ibo (fun _ => ?_) (fun _ => ?_)) <;> conv => whnf))
            have hgm := hRg m (by omega)
            have hgmd : (R.map dLs)[m]? = some (.list 1 ((rowP w ps m).map dIs)) := by rw [List.getElem?_map, hgm]; rfl
            have hMl : ((rowP w ps m).map dIs).length = (rowP w ps m).length := List.length_map _
            have hM256 := hrl m
            have hhit := row_hit hok hx
            have hmm : (((m + 1 : Nat) : Int) - 1) = (m : Int) := by omega
            have hi1 : ((m + 1 : Nat) : Int) = ((m + 1 : Nat) : Int) := rfl
            have hi2 : m + 1 ≤ (x.map dI).length := by omega
            refine loop_lo (ι := Nat) (fun k => k ≤ (rowP w ps m).length) (fun k => [(20, .d (.int .i64 k)), (19, .d (.bool (hitB (rowP w ps m) (x.take (m + 1)) k))), (18, .d (.int .i64 i)), (17, .d (.int .i64 ((m + 1 : Nat) : Int))), (15, .d (.list 1 (R.map dLs))), (11, .own 11), (3, .d (.int .i64 (D : Int)))]) (fun _ => [(11, .cells 30 [.d (dG G), .d (.bool e), .d (.int .i64 (D : Int)), .d (dOs p)])]) (fun k => (rowP w ps m).length - k) 0 (fun _ => rfl) (Nat.zero_le _) (.lax 19 rfl (.no (by omega)) (.refl _ _)) ⟨rfl, rfl, rfl, rfl, rfl, rfl, rfl, trivial⟩ ⟨rfl, trivial⟩ ?_
            intro k hk
            refine sxCode_sound c1_ok (G := G_lon) (pl := pl_lon) _ _ _ _ (by kernel_rfl) ?_
            by_cases hkl : k < (rowP w ps m).length
            · have hz := List.getElem?_eq_getElem hkl
              generalize (rowP w ps m)[k] = z at hz
              have hzd : ((rowP w ps m).map dIs)[k]? = some (.list 1 (z.map dI)) := by rw [List.getElem?_map, hz]; rfl
              have hs4 := same_pure z (x.take (m + 1))
              rw [dIs_take] at hs4
              have hst4 := hitB_step (y := x.take (m + 1)) hz
              cases hb : hitB (rowP w ps m) (x.take (m + 1)) k with
              | true =>
                rw [hb, Bool.true_or] at hst4
                (conv => whnf)
                (repeat' ((first | refine ord_ok (by (conv => whnf); (repeat' ((first | refine at_da hgmd hmm ?_ | refine at_da hgd rfl ?_ | refine at_da hzd rfl ?_ | refine at_da hxd rfl ?_ | refine hi_is hi1 hi2 ?_ | refine call_eq rfl hs4 ?_ | refine ify ?_ | refine ifn ?_ | refine i6 ?_ | refine ati ?_ | refine mst ?_ | refine rmd ?_ | refine ibo (fun _ => ?_) (fun _ => ?_)) <;> conv => whnf)); (all_goals (repeat' (first | exact trivial | exact rfl | refine And.intro ?_ ?_)))) ?_ | refine at_da hgmd hmm ?_ | refine at_da hgd rfl ?_ | refine at_da hzd rfl ?_ | refine at_da hxd rfl ?_ | refine hi_is hi1 hi2 ?_ | refine call_eq rfl hs4 ?_ | refine ify ?_ | refine ifn ?_ | refine i6 ?_ | refine ati ?_ | refine mst ?_ | refine rmd ?_ | refine ibo (fun _ => ?_) (fun _ => ?_)) <;> conv => whnf))
                exact ⟨k + 1, _, _, hkl, .refl _ _, ⟨rfl, by rw [hst4]; rfl, rfl, rfl, rfl, rfl, rfl, trivial⟩, ⟨rfl, trivial⟩, by omega⟩
              | false =>
                rw [hb, Bool.false_or] at hst4
                (conv => whnf)
                (repeat' ((first | refine ord_ok (by (conv => whnf); (repeat' ((first | refine at_da hgmd hmm ?_ | refine at_da hgd rfl ?_ | refine at_da hzd rfl ?_ | refine at_da hxd rfl ?_ | refine hi_is hi1 hi2 ?_ | refine call_eq rfl hs4 ?_ | refine ify ?_ | refine ifn ?_ | refine i6 ?_ | refine ati ?_ | refine mst ?_ | refine rmd ?_ | refine ibo (fun _ => ?_) (fun _ => ?_)) <;> conv => whnf)); (all_goals (repeat' (first | exact trivial | exact rfl | refine And.intro ?_ ?_)))) ?_ | refine at_da hgmd hmm ?_ | refine at_da hgd rfl ?_ | refine at_da hzd rfl ?_ | refine at_da hxd rfl ?_ | refine hi_is hi1 hi2 ?_ | refine call_eq rfl hs4 ?_ | refine ify ?_ | refine ifn ?_ | refine i6 ?_ | refine ati ?_ | refine mst ?_ | refine rmd ?_ | refine ibo (fun _ => ?_) (fun _ => ?_)) <;> conv => whnf))
                exact ⟨k + 1, _, _, hkl, .refl _ _, ⟨rfl, by rw [hst4]; rfl, rfl, rfl, rfl, rfl, rfl, trivial⟩, ⟨rfl, trivial⟩, by omega⟩
            · rw [show k = (rowP w ps m).length by omega, hhit]
              (conv => whnf)
              (repeat' ((first | refine ord_ok (by (conv => whnf); (repeat' ((first | refine at_da hgmd hmm ?_ | refine ify ?_ | refine ifn ?_ | refine i6 ?_ | refine ati ?_ | refine mst ?_ | refine rmd ?_ | refine ibo (fun _ => ?_) (fun _ => ?_)) <;> conv => whnf)); (all_goals (repeat' (first | exact trivial | exact rfl | refine And.intro ?_ ?_)))) ?_ | refine at_da hgmd hmm ?_ | refine ify ?_ | refine ifn ?_ | refine i6 ?_ | refine ati ?_ | refine mst ?_ | refine rmd ?_ | refine ibo (fun _ => ?_) (fun _ => ?_)) <;> conv => whnf))
              refine loop_lo (ι := Nat) (fun k => k ≤ i) (fun k => [(21, .d (.int .i64 k)), (19, .d (.bool true)), (18, .d (.int .i64 i)), (17, .d (.int .i64 (m + 1 : Nat))), (15, .d (.list 1 (R.map dLs))), (11, .own 11), (3, .d (.int .i64 (D : Int)))]) (fun _ => [(11, .cells 30 [.d (dG G), .d (.bool e), .d (.int .i64 (D : Int)), .d (dOs p)])]) (fun k => i - k) 0 (fun _ => rfl) (Nat.zero_le _) (.refl _ _) ⟨rfl, rfl, rfl, rfl, rfl, rfl, rfl, trivial⟩ ⟨rfl, trivial⟩ ?_
              intro k hk
              refine sxCode_sound c1_ok (G := G_lon) (pl := pl_lon) _ _ _ _ (by kernel_rfl) ?_
              by_cases hki : k < i
              · have hz := List.getElem?_eq_getElem (show k < (rowP w ps (m + 1)).length by omega)
                generalize (rowP w ps (m + 1))[k]'(by omega) = z at hz
                have hzn := rw_len hok (List.mem_of_getElem? hz)
                have hzd : ((rowP w ps (m + 1)).map dIs)[k]? = some (.list 1 (z.map dI)) := by rw [List.getElem?_map, hz]; rfl
                have ho1 := of06_pure z (by omega)
                have ho2 := of06_pure x (by omega)
                have hs6 := same_pure (setOf z) (setOf x)
                rw [row_apart hok hki hz hx] at hs6
                (conv => whnf)
                (repeat' ((first | refine ord_ok (by (conv => whnf); (repeat' ((first | refine at_da hgd rfl ?_ | refine at_da hzd rfl ?_ | refine at_da hxd rfl ?_ | refine call_eq rfl ho1 ?_ | refine call_eq rfl ho2 ?_ | refine call_eq rfl hs6 ?_ | refine ify ?_ | refine ifn ?_ | refine i6 ?_ | refine ati ?_ | refine mst ?_ | refine rmd ?_ | refine ibo (fun _ => ?_) (fun _ => ?_)) <;> conv => whnf)); (all_goals (repeat' (first | exact trivial | exact rfl | refine And.intro ?_ ?_)))) ?_ | refine at_da hgd rfl ?_ | refine at_da hzd rfl ?_ | refine at_da hxd rfl ?_ | refine call_eq rfl ho1 ?_ | refine call_eq rfl ho2 ?_ | refine call_eq rfl hs6 ?_ | refine ify ?_ | refine ifn ?_ | refine i6 ?_ | refine ati ?_ | refine mst ?_ | refine rmd ?_ | refine ibo (fun _ => ?_) (fun _ => ?_)) <;> conv => whnf))
                exact ⟨k + 1, _, _, hki, .refl _ _, ⟨rfl, rfl, rfl, rfl, rfl, rfl, rfl, trivial⟩, ⟨rfl, trivial⟩, by omega⟩
              · ((conv => whnf); repeat' ((first | refine odw ?_ | refine ify ?_ | refine ifn ?_ | refine i6 ?_ | refine ati ?_ | refine mst ?_ | refine rmd ?_ | refine ibo (fun _ => ?_) (fun _ => ?_)) <;> conv => whnf))
                exact ⟨i + 1, _, _, hil, .refl _ _, ⟨rfl, rfl, rfl, rfl, rfl, trivial⟩, ⟨rfl, trivial⟩, by omega⟩
      · ((conv => whnf); repeat' ((first | refine odw ?_ | refine ify ?_ | refine ifn ?_ | refine i6 ?_ | refine ati ?_ | refine mst ?_ | refine rmd ?_ | refine ibo (fun _ => ?_) (fun _ => ?_)) <;> conv => whnf))
        exact ⟨n + 1, _, _, hnl, .refl _ _, ⟨rfl, rfl, rfl, rfl, trivial⟩, ⟨rfl, trivial⟩, by omega⟩
    · have hr9 := lright_of (.inr ⟨G, rfl⟩) (lwords_deep G e 9 (by decide) p) (.inl ⟨_, _, _, rfl⟩)
      have hc9 := code_pure 3 0 depthS
      have hrw := lright_of (.inr ⟨G, rfl⟩) (lwords_bad G e D ⟨by omega, by omega⟩) (.inr ⟨_, _, _, _, rfl⟩)
      have hcw := code_dS progS 1 0 kindS
      have hrj := lright_pure hJ
      have hofb := law17of_pure [⟨99, 0⟩] (by decide)
      (conv => whnf)
      (repeat' ((first | refine ord_ok (by (conv => whnf); (repeat' ((first | refine call_eq rfl hb ?_ | refine ify ?_ | refine ifn ?_ | refine i6 ?_ | refine ati ?_ | refine mst ?_ | refine rmd ?_ | refine ibo (fun _ => ?_) (fun _ => ?_)) <;> conv => whnf)); (all_goals (repeat' (first | exact trivial | exact rfl | refine And.intro ?_ ?_)))) ?_ | refine call_eq rfl hb ?_ | refine ify ?_ | refine ifn ?_ | refine i6 ?_ | refine ati ?_ | refine mst ?_ | refine rmd ?_ | refine ibo (fun _ => ?_) (fun _ => ?_)) <;> conv => whnf))
      refine loop_lo (ι := Nat) (fun n => n ≤ R.length) (fun n => [(25, .d (.int .i64 n)), (24, .d .nili), (23, .d (.list 1 (R2.map dLs))), (15, .d (.list 1 (R.map dLs))), (11, .own 11)]) (fun _ => [(11, .cells 30 [.d (dG G), .d (.bool e), .d (.int .i64 (D : Int)), .d (dOs p)])]) (fun n => R.length - n) 0 (fun _ => rfl) (Nat.zero_le _) (.refl _ _) ⟨rfl, rfl, rfl, rfl, rfl, trivial⟩ ⟨rfl, trivial⟩ ?_
      intro n hn
      refine sxCode_sound c1_ok (G := G_lon) (pl := pl_lon) _ _ _ _ (by kernel_rfl) ?_
      by_cases hn1 : n < R.length ∧ n < R2.length
      · have hn2 := hn1.2
        have hn3 := hn1.1
        have hgd : (R.map dLs)[n]? = some (dLs (rowP w ps n)) := by rw [List.getElem?_map, hRg n hn3]; rfl
        have hgd2 : (R2.map dLs)[n]? = some (dLs (rowP w ps n)) := by rw [List.getElem?_map, hRg2 n hn2]; rfl
        have hsm8 := lsame_pure (rowP w ps n) (by have := hrl n; omega)
        (conv => whnf)
        (repeat' ((first | refine ord_ok (by (conv => whnf); (repeat' ((first | refine at_da hgd rfl ?_ | refine at_da hgd2 rfl ?_ | refine call_eq rfl hsm8 ?_ | refine ify ?_ | refine ifn ?_ | refine i6 ?_ | refine ati ?_ | refine mst ?_ | refine rmd ?_ | refine ibo (fun _ => ?_) (fun _ => ?_)) <;> conv => whnf)); (all_goals (repeat' (first | exact trivial | exact rfl | refine And.intro ?_ ?_)))) ?_ | refine at_da hgd rfl ?_ | refine at_da hgd2 rfl ?_ | refine call_eq rfl hsm8 ?_ | refine ify ?_ | refine ifn ?_ | refine i6 ?_ | refine ati ?_ | refine mst ?_ | refine rmd ?_ | refine ibo (fun _ => ?_) (fun _ => ?_)) <;> conv => whnf))
        exact ⟨n + 1, _, _, hn3, .refl _ _, ⟨rfl, rfl, rfl, rfl, rfl, trivial⟩, ⟨rfl, trivial⟩, by omega⟩
      · by_cases hn3 : n < R.length
        · have hn2 : ¬ n < R2.length := fun h => hn1 ⟨hn3, h⟩
          (conv => whnf)
          (repeat' ((first | refine ord_ok (by (conv => whnf); (repeat' ((first | refine call_frz 211 rfl ?_ | refine call_eq (xs := [dOs [⟨99, 0⟩]]) rfl hofb ?_ | refine call_eq rfl hr9 ?_ | refine call_eq rfl hc9 ?_ | refine call_eq rfl hrw ?_ | refine call_eq rfl hcw ?_ | refine call_eq rfl hrj ?_ | refine ify ?_ | refine ifn ?_ | refine i6 ?_ | refine ati ?_ | refine mst ?_ | refine rmd ?_ | refine ibo (fun _ => ?_) (fun _ => ?_)) <;> conv => whnf)); (all_goals (repeat' (first | exact trivial | exact rfl | refine And.intro ?_ ?_)))) ?_ | refine call_frz 211 rfl ?_ | refine call_eq (xs := [dOs [⟨99, 0⟩]]) rfl hofb ?_ | refine call_eq rfl hr9 ?_ | refine call_eq rfl hc9 ?_ | refine call_eq rfl hrw ?_ | refine call_eq rfl hcw ?_ | refine call_eq rfl hrj ?_ | refine ify ?_ | refine ifn ?_ | refine i6 ?_ | refine ati ?_ | refine mst ?_ | refine rmd ?_ | refine ibo (fun _ => ?_) (fun _ => ?_)) <;> conv => whnf))
          exact rfl
        · (conv => whnf)
          (repeat' ((first | refine ord_ok (by (conv => whnf); (repeat' ((first | refine call_frz 211 rfl ?_ | refine call_eq (xs := [dOs [⟨99, 0⟩]]) rfl hofb ?_ | refine call_eq rfl hr9 ?_ | refine call_eq rfl hc9 ?_ | refine call_eq rfl hrw ?_ | refine call_eq rfl hcw ?_ | refine call_eq rfl hrj ?_ | refine ify ?_ | refine ifn ?_ | refine i6 ?_ | refine ati ?_ | refine mst ?_ | refine rmd ?_ | refine ibo (fun _ => ?_) (fun _ => ?_)) <;> conv => whnf)); (all_goals (repeat' (first | exact trivial | exact rfl | refine And.intro ?_ ?_)))) ?_ | refine call_frz 211 rfl ?_ | refine call_eq (xs := [dOs [⟨99, 0⟩]]) rfl hofb ?_ | refine call_eq rfl hr9 ?_ | refine call_eq rfl hc9 ?_ | refine call_eq rfl hrw ?_ | refine call_eq rfl hcw ?_ | refine call_eq rfl hrj ?_ | refine ify ?_ | refine ifn ?_ | refine i6 ?_ | refine ati ?_ | refine mst ?_ | refine rmd ?_ | refine ibo (fun _ => ?_) (fun _ => ?_)) <;> conv => whnf))
          exact rfl
end Go.Proofs.YtaadeobcnamgdaaGreatDoor
end

section
/- What the rows give (mini: one variable is laid): the variable, the arguments' elements, a world for the witness. -/
namespace Go.Proofs.YtaadeobcnamgdaaGreatDoor
open Go.ChangeShapes Go.WideShapes Go.ChangeAt Go.RowKit Go.Reg Go.Gr Go.Sx Go.ChangeMaps

theorem own : ownKnob Tryz.prog.godebug = none := by kernel_rfl
theorem laidOut : laidOutB Tryz.prog = true := by kernel_rfl
theorem gEt : Tryz.prog.globalNamed "errors.errorType" = some 0 := by kernel_rfl
theorem gRt : (Tryz.prog.cutTypes.find? (·.1 == "internal/reflectlite.rtype")).map (·.2) = some 284 := by kernel_rfl
theorem oneRow : ((List.range Tryz.prog.types.size).filter fun t => Tryz.prog.rowNamed t [101, 114, 114, 111, 114]) = [40] := by kernel_rfl
/-- all that is laid -/
abbrev laidAll : List (String × DataW Unit) := Rows.levelOnceRow.laid
theorem laid_parts {W : World} (h : laidMetH Tryz.prog laidAll W) : laidMet Tryz.prog [] W ∧ handlesMet Tryz.prog [("errors.errorType", Rows.laid_errors_errorType)] W := h

theorem var_exact {P : Program} {w : World} {name : String} {g : Nat} {cs : Array Value} (h : w.var? P name = some cs) (hg : P.globalNamed name = some g) : ∃ t fr, w.heap[g]? = some (.cells cs t fr) := by
  unfold World.var? at h
  rw [hg, Option.bind_some] at h
  cases hh : w.heap[g]? with
  | none => rw [hh] at h; cases h
  | some o =>
    rw [hh] at h
    cases o with
    | cells cs' t fr => simp only [Option.some.injEq] at h; subst h; exact ⟨t, fr, rfl⟩
    | _ => cases h
theorem errV_of_laid {W : World} (h : laidMetH Tryz.prog laidAll W) : ∃ t fr, W.heap[0]? = some (.cells #[.iface 284 (.agg #[.pointer (some ⟨5, 40, none⟩)])] t fr) := by
  obtain ⟨name, u, ty, e1, e2, e3, e4, e5⟩ := (laid_parts h).2 _ (List.mem_singleton.2 rfl)
  have en : name = [101, 114, 114, 111, 114] := (Option.some.inj e1).symm
  subst en
  obtain rfl := Option.some.inj (gRt.symm.trans e2)
  have hm : ty ∈ (List.range Tryz.prog.types.size).filter fun t => Tryz.prog.rowNamed t [101, 114, 114, 111, 114] := List.mem_filter.2 ⟨List.mem_range.2 e3, e4⟩
  rw [oneRow] at hm
  obtain rfl := List.mem_singleton.1 hm
  have hh : typeHandle Tryz.prog 40 = .pointer (some ⟨5, 40, none⟩) := by kernel_rfl
  rw [hh] at e5
  exact var_exact e5 gEt
theorem grep_of {W : World} {g : Nat} {cs : Array Value} {t : TypeId} {fr : Nat × Nat} {d : Da} (h : W.heap[g]? = some (.cells cs t fr)) (hr : Sx.RepC [] W d cs.toList) (hs : cs.size = Sx.gsz d) : Sx.GRep [] W (g, d) := by
  refine ⟨⟨[_], ?_, rfl⟩, by simp, cs, t, fr, h, hs⟩
  simp only [Sx.RepC]
  refine ⟨g, 0, cs.toList, rfl, by simp, (Array.getElem?_eq_some_iff.1 h).1, hr, fun j u hj => ?_⟩
  rw [Lib.cell_of_heap h, Nat.zero_add]
  simpa using hj
/-- the variables, as the walk knows them -/
theorem globs_of {W : World} (h : laidMetH Tryz.prog laidAll W) : Sx.Glob C1 [] W := by
  obtain ⟨t1, f1, e1⟩ := errV_of_laid h
  intro g hg
  rw [List.mem_singleton.1 hg]
  exact grep_of e1 (by simp only [Sx.RepC]) rfl

def eI : Sx.Enc Int := ⟨fun n => [.int .i64 n], dI, 1, fun _ => rfl, fun n u hu => by simp at hu; rw [hu]; rfl, fun O w n => by simp [dI, Sx.RepC]⟩
def eE : Sx.Enc Edg := ⟨fun e => [.int .i64 e.a, .int .i64 e.b], dE, 2, fun _ => rfl, fun n u hu => by simp at hu; rcases hu with rfl | rfl <;> rfl, fun O w n => by simp [dE, Sx.RepC, Sx.RepCs]⟩
set_option maxRecDepth 100000 in
theorem int_el {H : Type} {e' : TypeId × Value → H} {w : World} {base : Nat} {spare : Nat → Bool} {held : Bool} (n : Nat) (cs : List Value) (y : DataW H × List MemPlace)
    (h : DataW.trod e' Tryz.prog w base spare held n 3 cs = some y) : ∃ x : Int, cs = eI.enc x ∧ True := by
  obtain ⟨m, h0, _⟩ := DataW.trod_int Tryz.underlying3 h
  exact ⟨m, h0, trivial⟩
set_option maxRecDepth 100000 in
theorem edge_el {H : Type} {e' : TypeId × Value → H} {w : World} {base : Nat} {spare : Nat → Bool} {held : Bool} (n : Nat) (cs : List Value) (y : DataW H × List MemPlace)
    (h : DataW.trod e' Tryz.prog w base spare held n 105 cs = some y) : ∃ x : Edg, cs = eE.enc x ∧ True := by
  obtain ⟨xs, k, _, _, hcl, hxl, hf⟩ := DataW.trod_struct Tryz.underlying105 h
  have cl : cs.length = 2 := hcl.trans (by kernel_rfl)
  match cs, cl with
  | [c0, c1], _ =>
    have hx4 : xs.length = 2 := hxl
    match xs, hx4 with
    | [y0, y1], _ =>
      have k3 : Tryz.prog.cellsOf 3 = 1 := by kernel_rfl
      have g0 := hf 0 _ rfl
      have g1 := hf 1 _ rfl
      simp [k3] at g0 g1
      obtain ⟨n0, h0, _⟩ := DataW.trod_int Tryz.underlying3 g0
      obtain ⟨n1, h1, _⟩ := DataW.trod_int Tryz.underlying3 g1
      simp at h0 h1
      subst h0; subst h1
      exact ⟨⟨n0, n1⟩, rfl, trivial⟩
theorem rep_bool {O : List Nat} {w : World} {v : Value} {b : Bool} (h : Sx.Rep O w (.bool b) v) : v = .bool b := by obtain ⟨cs, r, rfl⟩ := h; simp only [Sx.RepC] at r; subst r; rfl
/-- A WORLD FOR THE WITNESS: the settled one, the variable's cell laid. -/
noncomputable def laidWorld (os : Os) : World :=
  let w0 := World.holding Tryz.prog os ⟨#[], #[], []⟩
  { w0 with heap := w0.heap.modify 0 fun
      | .cells _ t frozen => .cells #[.iface 284 (.agg #[.pointer (some ⟨5, 40, none⟩)])] t frozen
      | o => o }
theorem laidWorld_met (os : Os) (args : Array Value) : laidMetH Tryz.prog laidAll ((laidWorld os).forCall (fun _ _ => 0) ⟨#[], args, []⟩).memory :=
  laidMetH_of_parts (laidMet_nil _ _) (by kernel_rfl)
end Go.Proofs.YtaadeobcnamgdaaGreatDoor
end

section
/- Five parameters; tests that came in. -/
namespace Go.Reg
open Go Go.Deep
theorem sized_len {H : Type} {P : Program} {enc : TypeId × Value → H} {w : World} {base : Nat} {spare : Nat → Bool} {held : Bool} {t e : TypeId} {d : DataW H} {ps : List MemPlace} {a : Option Addr} {n c : Nat} {ts : List TypeId} {ds : List (DataW H)} (ht : P.underlying t = some (.slice e))
    (h : DataW.Trod enc P w base spare held t (.slice a n c) d ps) (hs : (DataW.weightsEach P ts ds).all (· ≤ reachBytes) = true) {j : Nat} (hj : ts[j]? = some t) (hd : ds[j]? = some d) : n * P.bytesOf e ≤ 140737488351232 := by
  obtain ⟨fuel, hf⟩ := h
  rcases open_slice ht hf with ⟨h1, _⟩ | ⟨a, len, cap, m, k, D, Pl, h1, _, _, _, hm, hx, _⟩
  · simp [Value.cells] at h1
    obtain ⟨_, rfl, _⟩ := h1
    simp
  · simp [Value.cells] at h1
    obtain ⟨_, rfl, _⟩ := h1
    have hx1 := congrArg Prod.fst hx
    simp only at hx1
    rw [hx1] at hd
    have := sized_slice hs hj hd ht
    simp only [List.length_map, List.length_range] at this
    have h2 : n * P.bytesOf e ≤ (n + (m - n)) * P.bytesOf e := Nat.mul_le_mul_right _ (by omega)
    have h3 : reachBytes ≤ 140737488351232 := by decide
    omega
section
open Go.ChangeShapes Go.RowKit
variable {H : Type} {enc : TypeId × Value → H} {P : Program} {w : World} {base : Nat} {spare : Nat → Bool} {held : Bool}
theorem trodAll_five {t0 t1 t2 t3 t4 : TypeId} {args : Array Value} {ds : List (DataW H)} {ps : List MemPlace} (h : DataW.TrodAll enc P w base spare held [t0, t1, t2, t3, t4] args.toList ds ps) :
    ∃ v0 v1 v2 v3 v4 d0 d1 d2 d3 d4 p0 p1 p2 p3 p4, args = #[v0, v1, v2, v3, v4] ∧ ds = [d0, d1, d2, d3, d4] ∧ ps = p0 ++ (p1 ++ (p2 ++ (p3 ++ p4))) ∧ DataW.Trod enc P w base spare held t0 v0 d0 p0 ∧ DataW.Trod enc P w base spare held t1 v1 d1 p1 ∧ DataW.Trod enc P w base spare held t2 v2 d2 p2 ∧ DataW.Trod enc P w base spare held t3 v3 d3 p3 ∧ DataW.Trod enc P w base spare held t4 v4 d4 p4 := by
  obtain ⟨v0, vs0, d0, ds0, p0, q0, hargs, rfl, rfl, hd0, hr0⟩ := trodAll_cons h
  obtain ⟨v1, vs1, d1, ds1, p1, q1, rfl, rfl, rfl, hd1, hr1⟩ := trodAll_cons hr0
  obtain ⟨v2, vs2, d2, ds2, p2, q2, rfl, rfl, rfl, hd2, hr2⟩ := trodAll_cons hr1
  obtain ⟨v3, vs3, d3, ds3, p3, q3, rfl, rfl, rfl, hd3, hr3⟩ := trodAll_cons hr2
  obtain ⟨v4, vs4, d4, ds4, p4, q4, rfl, rfl, rfl, hd4, hr4⟩ := trodAll_cons hr3
  obtain ⟨rfl, rfl, rfl⟩ := trodAll_nil hr4
  exact ⟨v0, v1, v2, v3, v4, d0, d1, d2, d3, d4, p0, p1, p2, p3, p4, by cases args; simp_all, rfl, by simp, hd0, hd1, hd2, hd3, hd4⟩
theorem trodAll_mk5 {t0 t1 t2 t3 t4 : TypeId} {v0 v1 v2 v3 v4 : Value} {d0 d1 d2 d3 d4 : DataW H} {p0 p1 p2 p3 p4 : List MemPlace} (h0 : DataW.Trod enc P w base spare held t0 v0 d0 p0) (h1 : DataW.Trod enc P w base spare held t1 v1 d1 p1)
    (h2 : DataW.Trod enc P w base spare held t2 v2 d2 p2) (h3 : DataW.Trod enc P w base spare held t3 v3 d3 p3) (h4 : DataW.Trod enc P w base spare held t4 v4 d4 p4) : DataW.TrodAll enc P w base spare held [t0, t1, t2, t3, t4] [v0, v1, v2, v3, v4] [d0, d1, d2, d3, d4] (p0 ++ (p1 ++ (p2 ++ (p3 ++ p4)))) := ⟨p0, p1 ++ (p2 ++ (p3 ++ p4)), h0, trodAll_mk4 h1 h2 h3 h4, rfl⟩
end
end Go.Reg
namespace Go.Proofs.YtaadeobcnamgdaaGreatDoor
open Go.ChangeShapes Go.WideShapes Go.ChangeAt Go.RowKit Go.Reg Go.Gr Go.Sx Go.ChangeMaps

def eO : Sx.Enc Opp := ⟨fun e => [.int .i64 e.kind, .int .i64 e.n], dO, 2, fun _ => rfl, fun n u hu => by simp at hu; rcases hu with rfl | rfl <;> rfl, fun O w n => by simp [dO, Sx.RepC, Sx.RepCs]⟩
set_option maxRecDepth 100000 in
theorem op_el {H : Type} {e' : TypeId × Value → H} {w : World} {base : Nat} {spare : Nat → Bool} {held : Bool} (n : Nat) (cs : List Value) (y : DataW H × List MemPlace)
    (h : DataW.trod e' Tryz.prog w base spare held n 51 cs = some y) : ∃ x : Opp, cs = eO.enc x ∧ True := by
  obtain ⟨xs, k, _, _, hcl, hxl, hf⟩ := DataW.trod_struct Tryz.underlying51 h
  have cl : cs.length = 2 := hcl.trans (by kernel_rfl)
  match cs, cl with
  | [c0, c1], _ =>
    have hx4 : xs.length = 2 := hxl
    match xs, hx4 with
    | [y0, y1], _ =>
      have k3 : Tryz.prog.cellsOf 3 = 1 := by kernel_rfl
      have g0 := hf 0 _ rfl
      have g1 := hf 1 _ rfl
      simp [k3] at g0 g1
      obtain ⟨n0, h0, _⟩ := DataW.trod_int Tryz.underlying3 g0
      obtain ⟨n1, h1, _⟩ := DataW.trod_int Tryz.underlying3 g1
      simp at h0 h1
      subst h0; subst h1
      exact ⟨⟨n0, n1⟩, rfl, trivial⟩
/-- how many tests there can be -/
theorem ops_few {H : Type} {e' : TypeId × Value → H} {w : World} {base : Nat} {spare : Nat → Bool} {held : Bool} {v : Value} {d : DataW H} {ps : List MemPlace} {x : List Opp} (a : ArgSl 2 eO.enc w v x) (h : DataW.Trod e' Tryz.prog w base spare held 24 v d ps) {ts : List TypeId} {ds : List (DataW H)} (hs : (DataW.weightsEach Tryz.prog ts ds).all (· ≤ reachBytes) = true) {j : Nat} (hj : ts[j]? = some 24) (hd : ds[j]? = some d) : x.length ≤ 8796093022207 := by
  obtain ⟨aa, cc, rfl, _, _⟩ := a
  have hb := sized_len Tryz.underlying24 h hs hj hd
  rw [show Tryz.prog.bytesOf 51 = 16 by kernel_rfl] at hb
  omega
end Go.Proofs.YtaadeobcnamgdaaGreatDoor
end
