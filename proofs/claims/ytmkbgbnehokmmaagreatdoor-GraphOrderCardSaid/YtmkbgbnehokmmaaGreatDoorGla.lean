/- fretworklaw04: the chapter's example; GraphLarge: plain laws and the walk. -/
import Derived.Test.YtmkbgbnehokmmaaGreatDoorGrh
import Derived.Test.YtmkbgbnehokmmaaGreatDoorFsu
import Derived.Test.YtmkbgbnehokmmaaGreatDoorSxu
namespace Go.Gr
/-! ### the edges that GraphLarge makes -/
def rowT (a b : Nat) : List Edg := ((List.range b).filter (fun x : Nat => decide (a < x))).map fun x : Nat => ⟨(x : Int), (a : Int)⟩
def rowsT (a : Nat) : List Edg := (List.range a).flatMap fun j => rowT j 200
theorem rowT_start (a : Nat) : rowT a (a + 1) = [] := by
  unfold rowT
  have : (List.range (a + 1)).filter (fun x : Nat => decide (a < x)) = [] := by
    rw [List.filter_eq_nil_iff]
    intro b hb
    have := List.mem_range.1 hb
    simp; omega
  rw [this]; rfl
theorem rowT_step {a b : Nat} (h : a < b) : rowT a (b + 1) = rowT a b ++ [⟨(b : Int), (a : Int)⟩] := by
  unfold rowT
  rw [List.range_succ, List.filter_append, List.map_append]
  congr 1
  simp [h]
theorem rowsT_step (a : Nat) : rowsT (a + 1) = rowsT a ++ rowT a 200 := by simp [rowsT, List.range_succ]
theorem rowsT_many : (rowsT 199).length = 19900 := by decide +kernel
theorem mem_rowT {a b : Nat} {e : Edg} : e ∈ rowT a b ↔ ∃ x : Nat, x < b ∧ a < x ∧ e = ⟨(x : Int), (a : Int)⟩ := by
  simp only [rowT, List.mem_map, List.mem_filter, List.mem_range, decide_eq_true_eq]
  constructor
  · rintro ⟨x, ⟨h1, h2⟩, rfl⟩; exact ⟨x, h1, h2, rfl⟩
  · rintro ⟨x, h1, h2, rfl⟩; exact ⟨x, ⟨h1, h2⟩, rfl⟩
theorem mem_rowsT {a : Nat} {e : Edg} : e ∈ rowsT a ↔ ∃ j x : Nat, j < a ∧ x < 200 ∧ j < x ∧ e = ⟨(x : Int), (j : Int)⟩ := by
  simp only [rowsT, List.mem_flatMap, List.mem_range, mem_rowT]
  constructor
  · rintro ⟨j, hj, x, h1, h2, rfl⟩; exact ⟨j, x, hj, h1, h2, rfl⟩
  · rintro ⟨j, x, hj, h1, h2, rfl⟩; exact ⟨j, hj, x, h1, h2, rfl⟩
def ltT (x y : Edg) : Prop := x.b < y.b ∨ (x.b = y.b ∧ x.a < y.a)
theorem rowT_rise (a b : Nat) : (rowT a b).Pairwise ltT := by
  unfold rowT
  rw [List.pairwise_map]
  exact (List.pairwise_lt_range.filter _).imp fun h => .inr ⟨rfl, Int.ofNat_lt.2 h⟩
theorem rowsT_rise (a : Nat) : (rowsT a).Pairwise ltT := by
  induction a with
  | zero => exact List.Pairwise.nil
  | succ a ih =>
    rw [rowsT_step, List.pairwise_append]
    refine ⟨ih, rowT_rise _ _, fun x hx y hy => ?_⟩
    obtain ⟨j, u, h1, h2, h3, rfl⟩ := mem_rowsT.1 hx
    obtain ⟨v, h4, h5, rfl⟩ := mem_rowT.1 hy
    exact .inl (Int.ofNat_lt.2 h1)
/-- a beginning of the edges -/
def PreT (L : List Edg) : Prop := ∃ a b, b ≤ 200 ∧ L = rowsT a ++ rowT a b
theorem PreT.mem {L : List Edg} (h : PreT L) {e : Edg} (he : e ∈ L) : 0 ≤ e.b ∧ e.b < e.a ∧ e.a < 200 := by
  obtain ⟨a, b, hb, rfl⟩ := h
  rcases List.mem_append.1 he with he | he
  · obtain ⟨j, x, h1, h2, h3, rfl⟩ := mem_rowsT.1 he
    exact ⟨by simp only; omega, by simp only; omega, by simp only; omega⟩
  · obtain ⟨x, h1, h2, rfl⟩ := mem_rowT.1 he
    exact ⟨by simp only; omega, by simp only; omega, by simp only; omega⟩
theorem PreT.rise {L : List Edg} (h : PreT L) : L.Pairwise ltT := by
  obtain ⟨a, b, hb, rfl⟩ := h
  rw [List.pairwise_append]
  refine ⟨rowsT_rise _, rowT_rise _ _, fun x hx y hy => ?_⟩
  obtain ⟨j, u, h1, h2, h3, rfl⟩ := mem_rowsT.1 hx
  obtain ⟨v, h4, h5, rfl⟩ := mem_rowT.1 hy
  exact .inl (Int.ofNat_lt.2 h1)
theorem turn_flip {e : Edg} (h : e.b < e.a) : turn e = ⟨e.b, e.a⟩ := by unfold turn; simp only [Edg.mk.injEq]; omega
theorem PreT.ok {L : List Edg} (h : PreT L) (hl : L.length ≤ 16384) : newErr (List.replicate 200 0) L = none := by
  have hnd : (L.map turn).Nodup := by
    unfold List.Nodup
    rw [List.pairwise_map]
    refine (List.Pairwise.and_mem.1 h.rise).imp ?_
    rintro x y ⟨hx, hy, hlt⟩ he
    rw [turn_flip (h.mem hx).2.1, turn_flip (h.mem hy).2.1] at he
    simp only [Edg.mk.injEq] at he
    rcases hlt with h1 | ⟨h1, h2⟩ <;> omega
  refine newErr_none (by rw [List.length_replicate]; omega) (fun x hx => by rw [(List.mem_replicate.1 hx).2]; rfl) fun j hj => ?_
  unfold ecodeAt
  rw [List.getElem?_eq_getElem hj]
  simp only [ecode, List.length_replicate]
  have he := h.mem (List.getElem_mem hj)
  have hnot : turn L[j] ∉ (L.take j).map turn := by
    intro hmem
    rw [List.map_take] at hmem
    obtain ⟨k, hk, e⟩ := List.mem_take_iff_getElem.1 hmem
    have hj2 : j < (L.map turn).length := by rw [List.length_map]; exact hj
    have h2 := (List.pairwise_iff_getElem.1 hnd) k j (by omega) hj2 (by omega)
    apply h2
    rw [e, List.getElem_map]
  rw [if_neg (by omega), if_neg (by omega), if_neg hnot]
theorem zeros_ok {n : Nat} (h : n ≤ 4096) : newErr (List.replicate n 0) [] = none :=
  newErr_none (by rw [List.length_replicate]; simp; omega) (fun x hx => by rw [(List.mem_replicate.1 hx).2]; rfl) (fun j hj => absurd hj (Nat.not_lt_zero j))
end Go.Gr
namespace Go.Sx
open Go
end Go.Sx
namespace Go.Proofs.YtmkbgbnehokmmaaGreatDoor
open Go.Sx Go.RowKit Go.Reg Go.Gr

set_option maxRecDepth 100000
def gexE : List Edg := [⟨2, 1⟩, ⟨0, 1⟩]
def gexS : List Edg := [⟨0, 1⟩, ⟨1, 2⟩]
theorem gex_canon : canon gexE = gexS := (canon_eq (by decide) (by decide) (by decide)).symm
theorem gex_new : newY [0, 0, 1] gexE = .tuple [dG ⟨[0, 0, 1], gexS⟩, .nili] := by
  rw [newY_none (by decide), gex_canon]
theorem gex_bad : newY [0] [⟨0, 0⟩] = .tuple [.nilp, dS edgeS (dF 1 0 edgeS)] := by
  rw [newY_some (x := (1, 0, true)) (by decide)]; rfl
def pl_galive : List (Nat × Plan) := []
def G_galive : List FuncId := []
theorem cok_galive : codeOk Tryz.prog G_galive pl_galive (Tryz.f4.body.getD .skip) = true := by kernel_rfl
theorem run_galive (vs : Array Value) (w : World) : (callFunc 4 vs).run C1.P w = .ok (.enter 4 vs) w := by kernel_rfl
theorem galive_pure : Pure C1 4 [] (fun y => y = .bool true) := by
  refine pure_of c1_ok (pl := pl_galive) (G := G_galive) Tryz.func4 rfl Tryz.ntmps4 run_galive cok_galive (by simp) ?_
  ((conv => whnf); repeat' ((first | refine odw ?_ | refine ify ?_ | refine ifn ?_ | refine i6 ?_ | refine ati ?_ | refine mst ?_ | refine rmd ?_ | refine ibo (fun _ => ?_) (fun _ => ?_)) <;> conv => whnf))
  refine call_frz 8 rfl ?_
  refine call_frz 11 rfl ?_
  refine call_eq (xs := [dIs [0, 0, 1], dEs gexE]) rfl (new_pure [0, 0, 1] gexE) ?_
  rw [gex_new]
  ((conv => whnf); repeat' ((first | refine odw ?_ | refine ify ?_ | refine ifn ?_ | refine i6 ?_ | refine ati ?_ | refine mst ?_ | refine rmd ?_ | refine ibo (fun _ => ?_) (fun _ => ?_)) <;> conv => whnf))
  refine call_frz 16 rfl ?_
  refine call_frz 18 rfl ?_
  refine call_eq (xs := [dIs [0], dEs [⟨0, 0⟩]]) rfl (new_pure [0] [⟨0, 0⟩]) ?_
  rw [gex_bad]
  ((conv => whnf); repeat' ((first | refine odw ?_ | refine ify ?_ | refine ifn ?_ | refine i6 ?_ | refine ati ?_ | refine mst ?_ | refine rmd ?_ | refine ibo (fun _ => ?_) (fun _ => ?_)) <;> conv => whnf))
  refine call_eq rfl (edge_pure ⟨[0, 0, 1], gexS⟩ 1) ?_
  rw [show edgeY gexS 1 = .tuple [.agg [.int .i64 1, .int .i64 2], .bool true] from rfl]
  ((conv => whnf); repeat' ((first | refine odw ?_ | refine ify ?_ | refine ifn ?_ | refine i6 ?_ | refine ati ?_ | refine mst ?_ | refine rmd ?_ | refine ibo (fun _ => ?_) (fun _ => ?_)) <;> conv => whnf))
  refine call_eq rfl (code_dS edgeS 1 0 edgeS) ?_
  ((conv => whnf); repeat' ((first | refine odw ?_ | refine ify ?_ | refine ifn ?_ | refine i6 ?_ | refine ati ?_ | refine mst ?_ | refine rmd ?_ | refine ibo (fun _ => ?_) (fun _ => ?_)) <;> conv => whnf))
  exact rfl
end Go.Proofs.YtmkbgbnehokmmaaGreatDoor
