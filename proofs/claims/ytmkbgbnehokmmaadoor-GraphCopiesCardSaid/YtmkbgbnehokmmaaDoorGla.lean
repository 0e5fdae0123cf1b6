/- fretworklaw04: the chapter's example; GraphLarge: plain laws and the walk. -/
import Derived.Test.YtmkbgbnehokmmaaDoorGrh
import Derived.Test.YtmkbgbnehokmmaaDoorFsu
import Derived.Test.YtmkbgbnehokmmaaDoorSxu
namespace Go.Gr
/-! ### the edges that GraphLarge makes -/
def rowT (a b : Nat) : List Edg := ((List.range b).filter (fun x : Nat => decide (a < x))).map fun x : Nat => ⟨(x : Int), (a : Int)⟩
def rowsT (a : Nat) : List Edg := (List.range a).flatMap fun j => rowT j 200
theorem rowT_start (a : Nat) : rowT a (a + 1) = [] := by
  unfold rowT
  have : (List.range (a + 1)).filter (fun x : Nat => decide (a < x)) = [] := by
    rw [List.filter_eq_nil_iff]
    intro b hb
    have := List.mem_range.1 hb
    simp; omega
  rw [this]; rfl
theorem rowT_step {a b : Nat} (h : a < b) : rowT a (b + 1) = rowT a b ++ [⟨(b : Int), (a : Int)⟩] := by
  unfold rowT
  rw [List.range_succ, List.filter_append, List.map_append]
  congr 1
  simp [h]
theorem rowsT_step (a : Nat) : rowsT (a + 1) = rowsT a ++ rowT a 200 := by simp [rowsT, List.range_succ]
theorem rowsT_many : (rowsT 199).length = 19900 := by decide +kernel
theorem mem_rowT {a b : Nat} {e : Edg} : e ∈ rowT a b ↔ ∃ x : Nat, x < b ∧ a < x ∧ e = ⟨(x : Int), (a : Int)⟩ := by
  simp only [rowT, List.mem_map, List.mem_filter, List.mem_range, decide_eq_true_eq]
  constructor
  · rintro ⟨x, ⟨h1, h2⟩, rfl⟩; exact ⟨x, h1, h2, rfl⟩
  · rintro ⟨x, h1, h2, rfl⟩; exact ⟨x, ⟨h1, h2⟩, rfl⟩
theorem mem_rowsT {a : Nat} {e : Edg} : e ∈ rowsT a ↔ ∃ j x : Nat, j < a ∧ x < 200 ∧ j < x ∧ e = ⟨(x : Int), (j : Int)⟩ := by
  simp only [rowsT, List.mem_flatMap, List.mem_range, mem_rowT]
  constructor
  · rintro ⟨j, hj, x, h1, h2, rfl⟩; exact ⟨j, x, hj, h1, h2, rfl⟩
  · rintro ⟨j, x, hj, h1, h2, rfl⟩; exact ⟨j, hj, x, h1, h2, rfl⟩
def ltT (x y : Edg) : Prop := x.b < y.b ∨ (x.b = y.b ∧ x.a < y.a)
theorem rowT_rise (a b : Nat) : (rowT a b).Pairwise ltT := by
  unfold rowT
  rw [List.pairwise_map]
  exact (List.pairwise_lt_range.filter _).imp fun h => .inr ⟨rfl, Int.ofNat_lt.2 h⟩
theorem rowsT_rise (a : Nat) : (rowsT a).Pairwise ltT := by
  induction a with
  | zero => exact List.Pairwise.nil
  | succ a ih =>
    rw [rowsT_step, List.pairwise_append]
    refine ⟨ih, rowT_rise _ _, fun x hx y hy => ?_⟩
    obtain ⟨j, u, h1, h2, h3, rfl⟩ := mem_rowsT.1 hx
    obtain ⟨v, h4, h5, rfl⟩ := mem_rowT.1 hy
    exact .inl (Int.ofNat_lt.2 h1)
/-- a beginning of the edges -/
def PreT (L : List Edg) : Prop := ∃ a b, b ≤ 200 ∧ L = rowsT a ++ rowT a b
theorem PreT.mem {L : List Edg} (h : PreT L) {e : Edg} (he : e ∈ L) : 0 ≤ e.b ∧ e.b < e.a ∧ e.a < 200 := by
  obtain ⟨a, b, hb, rfl⟩ := h
  rcases List.mem_append.1 he with he | he
  · obtain ⟨j, x, h1, h2, h3, rfl⟩ := mem_rowsT.1 he
    exact ⟨by simp only; omega, by simp only; omega, by simp only; omega⟩
  · obtain ⟨x, h1, h2, rfl⟩ := mem_rowT.1 he
    exact ⟨by simp only; omega, by simp only; omega, by simp only; omega⟩
theorem PreT.rise {L : List Edg} (h : PreT L) : L.Pairwise ltT := by
  obtain ⟨a, b, hb, rfl⟩ := h
  rw [List.pairwise_append]
  refine ⟨rowsT_rise _, rowT_rise _ _, fun x hx y hy => ?_⟩
  obtain ⟨j, u, h1, h2, h3, rfl⟩ := mem_rowsT.1 hx
  obtain ⟨v, h4, h5, rfl⟩ := mem_rowT.1 hy
  exact .inl (Int.ofNat_lt.2 h1)
theorem turn_flip {e : Edg} (h : e.b < e.a) : turn e = ⟨e.b, e.a⟩ := by unfold turn; simp only [Edg.mk.injEq]; omega
theorem PreT.ok {L : List Edg} (h : PreT L) (hl : L.length ≤ 16384) : newErr (List.replicate 200 0) L = none := by
  have hnd : (L.map turn).Nodup := by
    unfold List.Nodup
    rw [List.pairwise_map]
    refine (List.Pairwise.and_mem.1 h.rise).imp ?_
    rintro x y ⟨hx, hy, hlt⟩ he
    rw [turn_flip (h.mem hx).2.1, turn_flip (h.mem hy).2.1] at he
    simp only [Edg.mk.injEq] at he
    rcases hlt with h1 | ⟨h1, h2⟩ <;> omega
  refine newErr_none (by rw [List.length_replicate]; omega) (fun x hx => by rw [(List.mem_replicate.1 hx).2]; rfl) fun j hj => ?_
  unfold ecodeAt
  rw [List.getElem?_eq_getElem hj]
  simp only [ecode, List.length_replicate]
  have he := h.mem (List.getElem_mem hj)
  have hnot : turn L[j] ∉ (L.take j).map turn := by
    intro hmem
    rw [List.map_take] at hmem
    obtain ⟨k, hk, e⟩ := List.mem_take_iff_getElem.1 hmem
    have hj2 : j < (L.map turn).length := by rw [List.length_map]; exact hj
    have h2 := (List.pairwise_iff_getElem.1 hnd) k j (by omega) hj2 (by omega)
    apply h2
    rw [e, List.getElem_map]
  rw [if_neg (by omega), if_neg (by omega), if_neg hnot]
theorem zeros_ok {n : Nat} (h : n ≤ 4096) : newErr (List.replicate n 0) [] = none :=
  newErr_none (by rw [List.length_replicate]; simp; omega) (fun x hx => by rw [(List.mem_replicate.1 hx).2]; rfl) (fun j hj => absurd hj (Nat.not_lt_zero j))
end Go.Gr
namespace Go.Sx
open Go
end Go.Sx
namespace Go.Proofs.YtmkbgbnehokmmaaDoor
open Go.Sx Go.RowKit Go.Reg Go.Gr

set_option maxRecDepth 100000
def gexE : List Edg := [⟨2, 1⟩, ⟨0, 1⟩]
def gexS : List Edg := [⟨0, 1⟩, ⟨1, 2⟩]
theorem gex_canon : canon gexE = gexS := (canon_eq (by decide) (by decide) (by decide)).symm
theorem gex_new : newY [0, 0, 1] gexE = .tuple [dG ⟨[0, 0, 1], gexS⟩, .nili] := by
  rw [newY_none (by decide), gex_canon]
theorem gex_bad : newY [0] [⟨0, 0⟩] = .tuple [.nilp, dS edgeS (dF 1 0 edgeS)] := by
  rw [newY_some (x := (1, 0, true)) (by decide)]; rfl
def pl_galive : List (Nat × Plan) := []
def G_galive : List FuncId := []
theorem cok_galive : codeOk Tryd.prog G_galive pl_galive (Tryd.f10.body.getD .skip) = true := by kernel_rfl
theorem run_galive (vs : Array Value) (w : World) : (callFunc 10 vs).run C1.P w = .ok (.enter 10 vs) w := by kernel_rfl
theorem galive_pure : Pure C1 10 [] (fun y => y = .bool true) := by
  refine pure_of c1_ok (pl := pl_galive) (G := G_galive) Tryd.func10 rfl Tryd.ntmps10 run_galive cok_galive (by simp) ?_
  ((conv => whnf); repeat' ((first | refine odw ?_ | refine ify ?_ | refine ifn ?_ | refine i6 ?_ | refine ati ?_ | refine mst ?_ | refine rmd ?_ | refine ibo (fun _ => ?_) (fun _ => ?_)) <;> conv => whnf))
  refine call_frz 8 rfl ?_
  refine call_frz 11 rfl ?_
  refine call_eq (xs := [dIs [0, 0, 1], dEs gexE]) rfl (new_pure [0, 0, 1] gexE) ?_
  rw [gex_new]
  ((conv => whnf); repeat' ((first | refine odw ?_ | refine ify ?_ | refine ifn ?_ | refine i6 ?_ | refine ati ?_ | refine mst ?_ | refine rmd ?_ | refine ibo (fun _ => ?_) (fun _ => ?_)) <;> conv => whnf))
  refine call_frz 16 rfl ?_
  refine call_frz 18 rfl ?_
  refine call_eq (xs := [dIs [0], dEs [⟨0, 0⟩]]) rfl (new_pure [0] [⟨0, 0⟩]) ?_
  rw [gex_bad]
  ((conv => whnf); repeat' ((first | refine odw ?_ | refine ify ?_ | refine ifn ?_ | refine i6 ?_ | refine ati ?_ | refine mst ?_ | refine rmd ?_ | refine ibo (fun _ => ?_) (fun _ => ?_)) <;> conv => whnf))
  refine call_eq rfl (edge_pure ⟨[0, 0, 1], gexS⟩ 1) ?_
  rw [show edgeY gexS 1 = .tuple [.agg [.int .i64 1, .int .i64 2], .bool true] from rfl]
  ((conv => whnf); repeat' ((first | refine odw ?_ | refine ify ?_ | refine ifn ?_ | refine i6 ?_ | refine ati ?_ | refine mst ?_ | refine rmd ?_ | refine ibo (fun _ => ?_) (fun _ => ?_)) <;> conv => whnf))
  refine call_eq rfl (code_dS edgeS 1 0 edgeS) ?_
  ((conv => whnf); repeat' ((first | refine odw ?_ | refine ify ?_ | refine ifn ?_ | refine i6 ?_ | refine ati ?_ | refine mst ?_ | refine rmd ?_ | refine ibo (fun _ => ?_) (fun _ => ?_)) <;> conv => whnf))
  exact rfl
def pl_glarge : List (Nat × Plan) := []
def G_glarge : List FuncId := [13, 14, 12]
theorem cok_glarge : codeOk Tryd.prog G_glarge pl_glarge (Tryd.f3.body.getD .skip) = true := by kernel_rfl
theorem run_glarge (vs : Array Value) (w : World) : (callFunc 3 vs).run C1.P w = .ok (.enter 3 vs) w := by kernel_rfl
set_option maxHeartbeats 4000000 in
theorem glarge_pure (n m : Int) (hn : 0 ≤ n ∧ n ≤ 65535) (hm : 0 ≤ m ∧ m ≤ 65535) : Pure C1 3 [.int .u16 n, .int .u16 m] (fun y => y = .bool true) := by
  have hr : 0 ≤ n.tmod 12 ∧ n.tmod 12 < 12 := by rw [tmod_nn hn.1]; omega
  have hr2 : 0 ≤ m.tmod 8 ∧ m.tmod 8 < 8 := by rw [tmod_nn hm.1]; omega
  obtain ⟨v, hv⟩ := Int.eq_ofNat_of_zero_le (show 0 ≤ 4090 + n.tmod 12 by omega)
  obtain ⟨k, hk⟩ := Int.eq_ofNat_of_zero_le (show 0 ≤ 16380 + m.tmod 8 by omega)
  refine pure_of c1_ok (pl := pl_glarge) (G := G_glarge) Tryd.func3 rfl Tryd.ntmps3 run_glarge cok_glarge (by simp) ?_
  ((conv => whnf); repeat' ((first | refine odw ?_ | refine ify ?_ | refine ifn ?_ | refine i6 ?_ | refine ati ?_ | refine mst ?_ | refine rmd ?_ | refine ibo (fun _ => ?_) (fun _ => ?_)) <;> conv => whnf))
  refine call_eq rfl galive_pure ?_
  (conv => whnf)
  (repeat' ((first | refine ord_ok (by (conv => whnf); (repeat' ((first | refine mk_ok v (by omega) (by omega) (by omega) ?_ | refine ify ?_ | refine ifn ?_ | refine i6 ?_ | refine ati ?_ | refine mst ?_ | refine rmd ?_ | refine ibo (fun _ => ?_) (fun _ => ?_)) <;> conv => whnf)); (all_goals (repeat' (first | exact trivial | exact rfl | refine And.intro ?_ ?_)))) ?_ | refine mk_ok v (by omega) (by omega) (by omega) ?_ | refine ify ?_ | refine ifn ?_ | refine i6 ?_ | refine ati ?_ | refine mst ?_ | refine rmd ?_ | refine ibo (fun _ => ?_) (fun _ => ?_)) <;> conv => whnf))
  rw [hv]
  have hz : List.replicate v (dI 0) = (List.replicate v 0).map dI := by simp
  have hnew : Pure C1 11 [dIs (List.replicate v 0), .nils] (fun y => y = newY (List.replicate v 0) []) := Pure.lax (.cons (.refl _) (.cons (.nils 2) .nil)) (new_pure (List.replicate v 0) [])
  refine call_frz 22 rfl ?_
  refine call_eq (xs := [dIs (List.replicate v 0), .nils]) (by show some [Da.list 1 (List.replicate v (dI 0)), _] = _; rw [hz]; rfl) hnew ?_
  by_cases hbig : 4096 < v
  · rw [newY_some (newErr_large (.inl (by rw [List.length_replicate]; exact hbig)))]
    have hcode := code_pure 6 0 graphS
    (conv => whnf)
    (repeat' ((first | refine ord_ok (by (conv => whnf); (repeat' ((first | refine call_eq rfl hcode ?_ | refine ify ?_ | refine ifn ?_ | refine i6 ?_ | refine ati ?_ | refine mst ?_ | refine rmd ?_ | refine ibo (fun _ => ?_) (fun _ => ?_)) <;> conv => whnf)); (all_goals (repeat' (first | exact trivial | exact rfl | refine And.intro ?_ ?_)))) ?_ | refine call_eq rfl hcode ?_ | refine ify ?_ | refine ifn ?_ | refine i6 ?_ | refine ati ?_ | refine mst ?_ | refine rmd ?_ | refine ibo (fun _ => ?_) (fun _ => ?_)) <;> conv => whnf))
    exact rfl
  rw [newY_none (zeros_ok (by omega))]
  have hlen := len_pure ⟨List.replicate v 0, canon []⟩
  rw [show ((⟨List.replicate v 0, canon []⟩ : Gr).labels.length : Int) = v by simp] at hlen
  (conv => whnf)
  (repeat' ((first | refine ord_ok (by (conv => whnf); (repeat' ((first | refine call_eq rfl hlen ?_ | refine ify ?_ | refine ifn ?_ | refine i6 ?_ | refine ati ?_ | refine mst ?_ | refine rmd ?_ | refine ibo (fun _ => ?_) (fun _ => ?_)) <;> conv => whnf)); (all_goals (repeat' (first | exact trivial | exact rfl | refine And.intro ?_ ?_)))) ?_ | refine call_eq rfl hlen ?_ | refine ify ?_ | refine ifn ?_ | refine i6 ?_ | refine ati ?_ | refine mst ?_ | refine rmd ?_ | refine ibo (fun _ => ?_) (fun _ => ?_)) <;> conv => whnf))
  rw [hk]
  refine loop_lo (ι := Nat × List Edg) (fun p => p.2.length ≤ k ∧ ((p.2 = rowsT p.1 ∧ p.1 ≤ 199) ∨ (p.2.length = k ∧ PreT p.2))) (fun p => [(10, .d (.int .i64 p.1)), (9, .own 300), (8, .d (.int .i64 k))]) (fun p => [(300, .slice 34 2 (p.2.map dE))])
    (fun p => 200 - p.1) (0, []) (fun _ => rfl) ⟨Nat.zero_le _, .inl ⟨rfl, by simp⟩⟩ (.own 9 300 34 2 rfl rfl (.refl _ _)) ⟨rfl, rfl, rfl, trivial⟩ ⟨rfl, trivial⟩ ?_
  rintro ⟨a, L⟩ ⟨hLk, hL⟩
  simp only at hLk hL
  refine sxCode_sound c1_ok (G := G_glarge) (pl := pl_glarge) _ _ _ _ (by kernel_rfl) ?_
  have hLd : (List.map dE ((a, L) : Nat × List Edg).snd).length = L.length := List.length_map _
  by_cases hlt : L.length < k
  · rcases hL with ⟨hLa, ha⟩ | ⟨h, _⟩
    · have ha2 : a ≤ 198 := by
        refine Classical.byContradiction fun hh => ?_
        have : a = 199 := by omega
        subst this
        rw [hLa, rowsT_many] at hlt; omega
      ((conv => whnf); repeat' ((first | refine odw ?_ | refine ify ?_ | refine ifn ?_ | refine i6 ?_ | refine ati ?_ | refine mst ?_ | refine rmd ?_ | refine ibo (fun _ => ?_) (fun _ => ?_)) <;> conv => whnf))
      refine loop_lo (ι := Nat) (fun b => b ≤ 200 ∧ a < b ∧ (rowsT a ++ rowT a b).length ≤ k) (fun b => [(11, .d (.int .i64 b)), (10, .d (.int .i64 a)), (9, .own 300), (8, .d (.int .i64 k))]) (fun b => [(300, .slice 34 2 ((rowsT a ++ rowT a b).map dE))])
        (fun b => 200 - b) (a + 1) (fun _ => rfl) ⟨by omega, by omega, by rw [rowT_start, List.append_nil, ← hLa]; omega⟩ (.refl _ _) ⟨rfl, rfl, rfl, rfl, trivial⟩ ⟨slice_is (by rw [rowT_start, List.append_nil, ← hLa]), trivial⟩ ?_
      rintro b ⟨hb, hab, hbk⟩
      refine sxCode_sound c1_ok (G := G_glarge) (pl := pl_glarge) _ _ _ _ (by kernel_rfl) ?_
      have hbd : ((rowsT a ++ rowT a b).map dE).length = (rowsT a ++ rowT a b).length := List.length_map _
      by_cases hb2 : b < 200
      · have hst := rowT_step hab
        by_cases hlk : (rowsT a ++ rowT a b).length < k
        · have hfin : (rowsT a ++ rowT a b).map dE ++ [.agg [.int .i64 (b : Int), .int .i64 (a : Int)]] = (rowsT a ++ rowT a (b + 1)).map dE := by
            rw [hst, ← List.append_assoc]
            exact (List.map_append (f := dE) (l₁ := rowsT a ++ rowT a b) (l₂ := [⟨(b : Int), (a : Int)⟩])).symm
          have hln : (rowsT a ++ rowT a (b + 1)).length ≤ k := by rw [hst, ← List.append_assoc, List.length_append]; simp only [List.length_singleton]; omega
          have hln2 : (rowsT a).length + (rowT a b).length < k := by rw [← List.length_append]; exact hlk
          ((conv => whnf); repeat' ((first | refine odw ?_ | refine ify ?_ | refine ifn ?_ | refine i6 ?_ | refine ati ?_ | refine mst ?_ | refine rmd ?_ | refine ibo (fun _ => ?_) (fun _ => ?_)) <;> conv => whnf))
          exact ⟨b + 1, _, _, ⟨hb2, by omega, hln⟩, .refl _ _, ⟨rfl, rfl, rfl, rfl, trivial⟩, ⟨slice_is hfin, trivial⟩, by omega⟩
        · ((conv => whnf); repeat' ((first | refine odw ?_ | refine ify ?_ | refine ifn ?_ | refine i6 ?_ | refine ati ?_ | refine mst ?_ | refine rmd ?_ | refine ibo (fun _ => ?_) (fun _ => ?_)) <;> conv => whnf))
          exact ⟨(a + 1, rowsT a ++ rowT a b), _, _, ⟨hbk, .inr ⟨by simp only; omega, a, b, hb, rfl⟩⟩, .refl _ _, ⟨rfl, rfl, rfl, trivial⟩, ⟨rfl, trivial⟩, by simp only; omega⟩
      · have : b = 200 := by omega
        subst this
        rw [← rowsT_step] at hbk ⊢
        ((conv => whnf); repeat' ((first | refine odw ?_ | refine ify ?_ | refine ifn ?_ | refine i6 ?_ | refine ati ?_ | refine mst ?_ | refine rmd ?_ | refine ibo (fun _ => ?_) (fun _ => ?_)) <;> conv => whnf))
        exact ⟨(a + 1, rowsT (a + 1)), _, _, ⟨hbk, .inl ⟨rfl, by simp only; omega⟩⟩, .refl _ _, ⟨rfl, rfl, rfl, trivial⟩, ⟨rfl, trivial⟩, by simp only; omega⟩
    · omega
  · have hLe : L.length = k := by omega
    have hpre : PreT L := by
      rcases hL with ⟨rfl, _⟩ | ⟨_, h⟩
      · exact ⟨a, 0, by omega, by simp [rowT]⟩
      · exact h
    have hz2 : List.replicate 200 (dI 0) = (List.replicate 200 0).map dI := by simp
    (conv => whnf)
    (repeat' ((first | refine ord_ok (by (conv => whnf); (repeat' ((first | refine mk_ok 200 rfl rfl (by omega) ?_ | refine ify ?_ | refine ifn ?_ | refine i6 ?_ | refine ati ?_ | refine mst ?_ | refine rmd ?_ | refine ibo (fun _ => ?_) (fun _ => ?_)) <;> conv => whnf)); (all_goals (repeat' (first | exact trivial | exact rfl | refine And.intro ?_ ?_)))) ?_ | refine mk_ok 200 rfl rfl (by omega) ?_ | refine ify ?_ | refine ifn ?_ | refine i6 ?_ | refine ati ?_ | refine mst ?_ | refine rmd ?_ | refine ibo (fun _ => ?_) (fun _ => ?_)) <;> conv => whnf))
    refine call_frz 72 rfl ?_
    refine call_frz 300 rfl ?_
    refine call_eq (xs := [dIs (List.replicate 200 0), dEs L]) (by show some [Da.list 1 (List.replicate 200 (dI 0)), _] = _; rw [hz2]; rfl) (new_pure (List.replicate 200 0) L) ?_
    by_cases hkb : 16384 < k
    · rw [newY_some (newErr_large (.inr (by omega)))]
      have hcode := code_pure 6 0 graphS
      (conv => whnf)
      (repeat' ((first | refine ord_ok (by (conv => whnf); (repeat' ((first | refine call_eq rfl hcode ?_ | refine ify ?_ | refine ifn ?_ | refine i6 ?_ | refine ati ?_ | refine mst ?_ | refine rmd ?_ | refine ibo (fun _ => ?_) (fun _ => ?_)) <;> conv => whnf)); (all_goals (repeat' (first | exact trivial | exact rfl | refine And.intro ?_ ?_)))) ?_ | refine call_eq rfl hcode ?_ | refine ify ?_ | refine ifn ?_ | refine i6 ?_ | refine ati ?_ | refine mst ?_ | refine rmd ?_ | refine ibo (fun _ => ?_) (fun _ => ?_)) <;> conv => whnf))
      all_goals exact rfl
    · rw [newY_none (hpre.ok (by omega))]
      have hsz := size_pure ⟨List.replicate 200 0, canon L⟩
      rw [show ((⟨List.replicate 200 0, canon L⟩ : Gr).edges.length : Int) = k by simp only; rw [canon_len, hLe]] at hsz
      have hcode := code_nil_pure
      (conv => whnf)
      (repeat' ((first | refine ord_ok (by (conv => whnf); (repeat' ((first | refine call_eq rfl hcode ?_ | refine call_eq rfl hsz ?_ | refine ify ?_ | refine ifn ?_ | refine i6 ?_ | refine ati ?_ | refine mst ?_ | refine rmd ?_ | refine ibo (fun _ => ?_) (fun _ => ?_)) <;> conv => whnf)); (all_goals (repeat' (first | exact trivial | exact rfl | refine And.intro ?_ ?_)))) ?_ | refine call_eq rfl hcode ?_ | refine call_eq rfl hsz ?_ | refine ify ?_ | refine ifn ?_ | refine i6 ?_ | refine ati ?_ | refine mst ?_ | refine rmd ?_ | refine ibo (fun _ => ?_) (fun _ => ?_)) <;> conv => whnf))
      show Da.plain _ = _
      simp [Da.plain]
end Go.Proofs.YtmkbgbnehokmmaaDoor
