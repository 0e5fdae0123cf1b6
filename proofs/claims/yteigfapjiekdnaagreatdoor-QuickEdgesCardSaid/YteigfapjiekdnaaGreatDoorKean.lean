/- Merged: Grk Lnb Lnc. -/
import Derived.Test.YteigfapjiekdnaaGreatDoorKeaj
import Derived.Test.YteigfapjiekdnaaGreatDoorKeam
import Derived.Test.YteigfapjiekdnaaGreatDoorKeal
import Derived.Test.YteigfapjiekdnaaGreatDoorKeai
import Derived.Test.YteigfapjiekdnaaGreatDoorSxu
section
/- Graphs: At. -/
namespace Go.Proofs.YteigfapjiekdnaaGreatDoor
open Go.Sx Go.RowKit Go.Reg Go.Gr

set_option maxRecDepth 100000
theorem values_pure (l : List Int) : Pure C1 61 [dIs l] (fun y => y = .func (.func 119) [] [.ref (dIs l)]) := by
  refine pure_of c1_ok (pl := []) (G := []) Tryz.func61 rfl Tryz.ntmps61 (by intro vs w; kernel_rfl) (by kernel_rfl) (by simp) ?_
  ((conv => whnf); repeat' ((first | refine odw ?_ | refine ify ?_ | refine ifn ?_ | refine i6 ?_ | refine ati ?_ | refine mst ?_ | refine rmd ?_ | refine ibo (fun _ => ?_) (fun _ => ?_)) <;> conv => whnf))
  exact rfl
end Go.Proofs.YteigfapjiekdnaaGreatDoor
end

section
/- Line graphs: Pairs, Touch, Of; the document's. -/
namespace Go.Proofs.YteigfapjiekdnaaGreatDoor
open Go.Sx Go.RowKit Go.Reg Go.Gr

set_option maxRecDepth 100000
/-! ### Of -/
/-! ### Touch -/
/-- do two edges touch, by any numbers -/
def touchV (E : List Edg) (a b : Int) : Bool := decide (0 ≤ a) && decide (0 ≤ b) && tch E a.toNat b.toNat
theorem touchV_no {E : List Edg} {a b : Int} (h : ¬ (0 ≤ a ∧ a < E.length) ∨ ¬ (0 ≤ b ∧ b < E.length) ∨ a = b) : touchV E a b = false := by
  unfold touchV tch
  by_cases ha : 0 ≤ a
  · by_cases hb : 0 ≤ b
    · obtain ⟨m, rfl⟩ := Int.eq_ofNat_of_zero_le ha
      obtain ⟨n, rfl⟩ := Int.eq_ofNat_of_zero_le hb
      simp only [Int.toNat_natCast]
      by_cases hm : m < E.length
      · by_cases hn : n < E.length
        · have : m = n := by omega
          subst this
          rw [List.getElem?_eq_getElem hm]; simp
        · rw [List.getElem?_eq_none (l := E) (i := n) (by omega), List.getElem?_eq_getElem hm]; simp
      · rw [List.getElem?_eq_none (l := E) (i := m) (by omega)]; simp
    · simp [hb]
  · simp [ha]
theorem touchV_at {E : List Edg} {m n : Nat} {x y : Edg} (hx : E[m]? = some x) (hy : E[n]? = some y) (hne : m ≠ n) : touchV E m n = (decide (x.a = y.a) || decide (x.a = y.b) || decide (x.b = y.a) || decide (x.b = y.b)) := by
  unfold touchV tch
  have h1 : (0 : Int) ≤ m := by omega
  have h2 : (0 : Int) ≤ n := by omega
  simp only [Int.toNat_natCast, hx, hy, h1, h2, decide_true, Bool.true_and, ne_eq, hne, not_false_eq_true]
def pl_ltouch : List (Nat × Plan) := []
def G_ltouch : List FuncId := []
theorem cok_ltouch : codeOk Tryz.prog G_ltouch pl_ltouch (Tryz.f143.body.getD .skip) = true := by kernel_rfl
theorem run_ltouch (vs : Array Value) (w : World) : (callFunc 143 vs).run C1.P w = .ok (.enter 143 vs) w := by kernel_rfl
set_option maxHeartbeats 1000000 in
theorem touch_pure (G : Gr) (a b : Int) : Pure C1 143 [dG G, .int .i64 a, .int .i64 b] (fun y => y = .bool (touchV G.edges a b)) := by
  refine pure_of c1_ok (pl := pl_ltouch) (G := G_ltouch) Tryz.func143 rfl Tryz.ntmps143 run_ltouch cok_ltouch (by simp) ?_
  ((conv => whnf); repeat' ((first | refine odw ?_ | refine ify ?_ | refine ifn ?_ | refine i6 ?_ | refine ati ?_ | refine mst ?_ | refine rmd ?_ | refine ibo (fun _ => ?_) (fun _ => ?_)) <;> conv => whnf))
  refine call_pure rfl (edge_pure G a) ?_; rintro y rfl
  by_cases ha : 0 ≤ a ∧ a < G.edges.length
  · obtain ⟨m, rfl⟩ := Int.eq_ofNat_of_zero_le ha.1
    have hmm : m < G.edges.length := by omega
    have hx := List.getElem?_eq_getElem hmm
    generalize G.edges[m] = x at hx
    have e : edgeY G.edges (m : Int) = .tuple [dE x, .bool true] := by unfold edgeY; rw [if_pos ha, Int.toNat_natCast, hx]; rfl
    obtain ⟨xa, xb⟩ := x
    rw [e, show dE ⟨xa, xb⟩ = .agg [.int .i64 xa, .int .i64 xb] from rfl]
    ((conv => whnf); repeat' ((first | refine odw ?_ | refine ify ?_ | refine ifn ?_ | refine i6 ?_ | refine ati ?_ | refine mst ?_ | refine rmd ?_ | refine ibo (fun _ => ?_) (fun _ => ?_)) <;> conv => whnf))
    refine call_pure rfl (edge_pure G b) ?_; rintro y rfl
    by_cases hb : 0 ≤ b ∧ b < G.edges.length
    · obtain ⟨n, rfl⟩ := Int.eq_ofNat_of_zero_le hb.1
      have hnn : n < G.edges.length := by omega
      have hy := List.getElem?_eq_getElem hnn
      generalize G.edges[n] = y at hy
      have e : edgeY G.edges (n : Int) = .tuple [dE y, .bool true] := by unfold edgeY; rw [if_pos hb, Int.toNat_natCast, hy]; rfl
      obtain ⟨ya, yb⟩ := y
      rw [e, show dE ⟨ya, yb⟩ = .agg [.int .i64 ya, .int .i64 yb] from rfl]
      by_cases hne : m = n
      · rw [touchV_no (.inr (.inr (by rw [hne])))]
        ((conv => whnf); repeat' ((first | refine odw ?_ | refine ify ?_ | refine ifn ?_ | refine i6 ?_ | refine ati ?_ | refine mst ?_ | refine rmd ?_ | refine ibo (fun _ => ?_) (fun _ => ?_)) <;> conv => whnf))
        exact rfl
      · rw [touchV_at hx hy hne]
        by_cases h1 : xa = ya
        · ((conv => whnf); repeat' ((first | refine odw ?_ | refine ify ?_ | refine ifn ?_ | refine i6 ?_ | refine ati ?_ | refine mst ?_ | refine rmd ?_ | refine ibo (fun _ => ?_) (fun _ => ?_)) <;> conv => whnf))
          exact Eq.trans (b := Da.bool true) rfl (by simp [h1])
        by_cases h2 : xa = yb
        · ((conv => whnf); repeat' ((first | refine odw ?_ | refine ify ?_ | refine ifn ?_ | refine i6 ?_ | refine ati ?_ | refine mst ?_ | refine rmd ?_ | refine ibo (fun _ => ?_) (fun _ => ?_)) <;> conv => whnf))
          exact Eq.trans (b := Da.bool true) rfl (by simp [h2])
        by_cases h3 : xb = ya
        · ((conv => whnf); repeat' ((first | refine odw ?_ | refine ify ?_ | refine ifn ?_ | refine i6 ?_ | refine ati ?_ | refine mst ?_ | refine rmd ?_ | refine ibo (fun _ => ?_) (fun _ => ?_)) <;> conv => whnf))
          exact Eq.trans (b := Da.bool true) rfl (by simp [h3])
        · ((conv => whnf); repeat' ((first | refine odw ?_ | refine ify ?_ | refine ifn ?_ | refine i6 ?_ | refine ati ?_ | refine mst ?_ | refine rmd ?_ | refine ibo (fun _ => ?_) (fun _ => ?_)) <;> conv => whnf))
          show Da.plain _ = _
          simp [Da.plain, h1, h2, h3]
    · have e : edgeY G.edges b = .tuple [dE ⟨0, 0⟩, .bool false] := by unfold edgeY; rw [if_neg hb]
      rw [e, touchV_no (.inr (.inl hb))]
      ((conv => whnf); repeat' ((first | refine odw ?_ | refine ify ?_ | refine ifn ?_ | refine i6 ?_ | refine ati ?_ | refine mst ?_ | refine rmd ?_ | refine ibo (fun _ => ?_) (fun _ => ?_)) <;> conv => whnf))
      exact rfl
  · have e : edgeY G.edges a = .tuple [dE ⟨0, 0⟩, .bool false] := by unfold edgeY; rw [if_neg ha]
    rw [e, touchV_no (.inl ha)]
    ((conv => whnf); repeat' ((first | refine odw ?_ | refine ify ?_ | refine ifn ?_ | refine i6 ?_ | refine ati ?_ | refine mst ?_ | refine rmd ?_ | refine ibo (fun _ => ?_) (fun _ => ?_)) <;> conv => whnf))
    refine call_pure rfl (edge_pure G b) ?_; rintro y rfl
    by_cases hb : 0 ≤ b ∧ b < G.edges.length
    · have e : edgeY G.edges b = .tuple [dE ((G.edges[b.toNat]?).getD ⟨0, 0⟩), .bool true] := by unfold edgeY; rw [if_pos hb]
      rw [e]
      ((conv => whnf); repeat' ((first | refine odw ?_ | refine ify ?_ | refine ifn ?_ | refine i6 ?_ | refine ati ?_ | refine mst ?_ | refine rmd ?_ | refine ibo (fun _ => ?_) (fun _ => ?_)) <;> conv => whnf))
      exact rfl
    · have e : edgeY G.edges b = .tuple [dE ⟨0, 0⟩, .bool false] := by unfold edgeY; rw [if_neg hb]
      rw [e]
      ((conv => whnf); repeat' ((first | refine odw ?_ | refine ify ?_ | refine ifn ?_ | refine i6 ?_ | refine ati ?_ | refine mst ?_ | refine rmd ?_ | refine ibo (fun _ => ?_) (fun _ => ?_)) <;> conv => whnf))
      exact rfl
theorem touchV_nat (E : List Edg) (m n : Nat) : touchV E m n = tch E m n := by
  unfold touchV
  have h1 : (0 : Int) ≤ m := by omega
  have h2 : (0 : Int) ≤ n := by omega
  simp [h1, h2]
/-! ### the document's -/
end Go.Proofs.YteigfapjiekdnaaGreatDoor
end
