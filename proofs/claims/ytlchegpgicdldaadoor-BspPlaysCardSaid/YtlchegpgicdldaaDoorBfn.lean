/- law20.Fine; rounds reckoned plainly; what any act leaves. -/
import Derived.Test.YtlchegpgicdldaaDoorBmq
import Derived.Test.YtlchegpgicdldaaDoorBdx
namespace Go.Proofs.YtlchegpgicdldaaDoor
open Go.Sx Go.RowKit Go.Reg

set_option maxRecDepth 100000
structure FineP (states : List ByteArray) (to : List (List Int)) : Prop where
  n1 : 1 ≤ states.length
  n6 : states.length ≤ 6
  t6 : to.length ≤ 6
  tos : ∀ x ∈ to, x.length ≤ 6 ∧ ∀ n ∈ x, 0 ≤ n ∧ n < states.length
  sts : ∀ s ∈ states, s.size ≤ 60
theorem take_snoc {α : Type} {l : List α} {i : Nat} {x : α} (h : l[i]? = some x) {P : α → Prop} (h1 : ∀ y ∈ l.take i, P y) (hx : P x) : ∀ y ∈ l.take (i + 1), P y := by
  intro y hy
  rw [List.take_add_one, h] at hy
  rcases List.mem_append.1 hy with hy | hy
  · exact h1 y hy
  · rw [List.mem_singleton.1 hy]; exact hx
theorem take_full {α : Type} {l : List α} {i : Nat} (h : l.length ≤ i) {P : α → Prop} (h1 : ∀ y ∈ l.take i, P y) : ∀ y ∈ l, P y := by
  rw [List.take_of_length_le h] at h1; exact h1
def pl_l20f : List (Nat × Plan) := []
def G_l20f : List FuncId := []
theorem cok_l20f : codeOk Tryd.prog G_l20f pl_l20f (Tryd.f21.body.getD .skip) = true := by kernel_rfl
theorem run_l20f (vs : Array Value) (w : World) : (callFunc 21 vs).run C1.P w = .ok (.enter 21 vs) w := by kernel_rfl
set_option maxHeartbeats 1000000 in
theorem fine_pure (states : List ByteArray) (to : List (List Int)) : Pure C1 21 [.list 1 (states.map dTx), .list 1 (to.map dTB)] (fun y => ∃ b : Bool, y = .bool b ∧ (b = true ↔ FineP states to)) := by
  have k1 : (states.map dTx).length = states.length := List.length_map _
  have k2 : (to.map dTB).length = to.length := List.length_map _
  have no : ¬ FineP states to → ∃ b : Bool, (Da.bool false) = .bool b ∧ (b = true ↔ FineP states to) := fun h => ⟨false, rfl, ⟨fun e => (by cases e), fun hh => absurd hh h⟩⟩
  refine pure_of c1_ok (pl := pl_l20f) (G := G_l20f) Tryd.func21 rfl Tryd.ntmps21 run_l20f cok_l20f (by simp) ?_
  by_cases h1 : states.length < 1
  · ((conv => whnf); repeat' ((first | refine odw ?_ | refine ify ?_ | refine ifn ?_ | refine i6 ?_ | refine ati ?_ | refine mst ?_ | refine rmd ?_ | refine ibo (fun _ => ?_) (fun _ => ?_)) <;> conv => whnf))
    exact no fun h => by have := h.n1; omega
  by_cases h2 : 6 < states.length
  · ((conv => whnf); repeat' ((first | refine odw ?_ | refine ify ?_ | refine ifn ?_ | refine i6 ?_ | refine ati ?_ | refine mst ?_ | refine rmd ?_ | refine ibo (fun _ => ?_) (fun _ => ?_)) <;> conv => whnf))
    exact no fun h => by have := h.n6; omega
  by_cases h3 : 6 < to.length
  · ((conv => whnf); repeat' ((first | refine odw ?_ | refine ify ?_ | refine ifn ?_ | refine i6 ?_ | refine ati ?_ | refine mst ?_ | refine rmd ?_ | refine ibo (fun _ => ?_) (fun _ => ?_)) <;> conv => whnf))
    exact no fun h => by have := h.t6; omega
  ((conv => whnf); repeat' ((first | refine odw ?_ | refine ify ?_ | refine ifn ?_ | refine i6 ?_ | refine ati ?_ | refine mst ?_ | refine rmd ?_ | refine ibo (fun _ => ?_) (fun _ => ?_)) <;> conv => whnf))
  refine loop_lo (ι := Nat) (fun i => i ≤ to.length ∧ ∀ x ∈ to.take i, x.length ≤ 6 ∧ ∀ n ∈ x, 0 ≤ n ∧ n < states.length) (fun i => [(5, .d (.int .i64 (i : Nat))), (1, .d (.list 1 (to.map dTB))), (0, .d (.list 1 (states.map dTx)))]) (fun _ => []) (fun i => to.length - i) 0 (fun _ => rfl) ⟨by omega, by simp⟩ (.refl _ _) ⟨rfl, rfl, rfl, trivial⟩ trivial ?_
  rintro i ⟨hi, hto⟩
  refine sxCode_sound c1_ok (G := G_l20f) (pl := pl_l20f) _ _ _ _ (by kernel_rfl) ?_
  by_cases hil : i < to.length
  · have hx := List.getElem?_eq_getElem hil
    have hxm := List.getElem_mem hil
    generalize to[i] = x at hx hxm
    have hxd : (to.map dTB)[i]? = some (.list 1 (x.map dIB)) := by rw [List.getElem?_map, hx]; rfl
    have hxl : (x.map dIB).length = x.length := List.length_map _
    by_cases h6 : 6 < x.length
    · (conv => whnf)
      (repeat' ((first | refine ord_ok (by (conv => whnf); (repeat' ((first | refine at_da hxd rfl ?_ | refine ify ?_ | refine ifn ?_ | refine i6 ?_ | refine ati ?_ | refine mst ?_ | refine rmd ?_ | refine ibo (fun _ => ?_) (fun _ => ?_)) <;> conv => whnf)); (all_goals (repeat' (first | exact trivial | exact rfl | refine And.intro ?_ ?_)))) ?_ | refine at_da hxd rfl ?_ | refine ify ?_ | refine ifn ?_ | refine i6 ?_ | refine ati ?_ | refine mst ?_ | refine rmd ?_ | refine ibo (fun _ => ?_) (fun _ => ?_)) <;> conv => whnf))
      exact no fun h => by have := (h.tos x hxm).1; omega
    (conv => whnf)
    (repeat' ((first | refine ord_ok (by (conv => whnf); (repeat' ((first | refine at_da hxd rfl ?_ | refine ify ?_ | refine ifn ?_ | refine i6 ?_ | refine ati ?_ | refine mst ?_ | refine rmd ?_ | refine ibo (fun _ => ?_) (fun _ => ?_)) <;> conv => whnf)); (all_goals (repeat' (first | exact trivial | exact rfl | refine And.intro ?_ ?_)))) ?_ | refine at_da hxd rfl ?_ | refine ify ?_ | refine ifn ?_ | refine i6 ?_ | refine ati ?_ | refine mst ?_ | refine rmd ?_ | refine ibo (fun _ => ?_) (fun _ => ?_)) <;> conv => whnf))
    refine loop_lo (ι := Nat) (fun k => k ≤ x.length ∧ ∀ n ∈ x.take k, 0 ≤ n ∧ n < states.length) (fun k => [(6, .d (.int .i64 (k : Nat))), (5, .d (.int .i64 (i : Nat))), (1, .d (.list 1 (to.map dTB))), (0, .d (.list 1 (states.map dTx)))]) (fun _ => []) (fun k => x.length - k) 0 (fun _ => rfl) ⟨by omega, by simp⟩ (.refl _ _) ⟨rfl, rfl, rfl, rfl, trivial⟩ trivial ?_
    rintro k ⟨hk, hn⟩
    refine sxCode_sound c1_ok (G := G_l20f) (pl := pl_l20f) _ _ _ _ (by kernel_rfl) ?_
    by_cases hkl : k < x.length
    · have hy := List.getElem?_eq_getElem hkl
      have hym := List.getElem_mem hkl
      generalize x[k] = y at hy hym
      have hyd : (x.map dIB)[k]? = some (.int .i64 y) := by rw [List.getElem?_map, hy]; rfl
      by_cases hy0 : y < 0
      · (conv => whnf)
        (repeat' ((first | refine ord_ok (by (conv => whnf); (repeat' ((first | refine at_da hxd rfl ?_ | refine at_da hyd rfl ?_ | refine ify ?_ | refine ifn ?_ | refine i6 ?_ | refine ati ?_ | refine mst ?_ | refine rmd ?_ | refine ibo (fun _ => ?_) (fun _ => ?_)) <;> conv => whnf)); (all_goals (repeat' (first | exact trivial | exact rfl | refine And.intro ?_ ?_)))) ?_ | refine at_da hxd rfl ?_ | refine at_da hyd rfl ?_ | refine ify ?_ | refine ifn ?_ | refine i6 ?_ | refine ati ?_ | refine mst ?_ | refine rmd ?_ | refine ibo (fun _ => ?_) (fun _ => ?_)) <;> conv => whnf))
        exact no fun h => by have := (h.tos x hxm).2 y hym; omega
      by_cases hyn : (states.length : Int) ≤ y
      · (conv => whnf)
        (repeat' ((first | refine ord_ok (by (conv => whnf); (repeat' ((first | refine at_da hxd rfl ?_ | refine at_da hyd rfl ?_ | refine ify ?_ | refine ifn ?_ | refine i6 ?_ | refine ati ?_ | refine mst ?_ | refine rmd ?_ | refine ibo (fun _ => ?_) (fun _ => ?_)) <;> conv => whnf)); (all_goals (repeat' (first | exact trivial | exact rfl | refine And.intro ?_ ?_)))) ?_ | refine at_da hxd rfl ?_ | refine at_da hyd rfl ?_ | refine ify ?_ | refine ifn ?_ | refine i6 ?_ | refine ati ?_ | refine mst ?_ | refine rmd ?_ | refine ibo (fun _ => ?_) (fun _ => ?_)) <;> conv => whnf))
        exact no fun h => by have := (h.tos x hxm).2 y hym; omega
      (conv => whnf)
      (repeat' ((first | refine ord_ok (by (conv => whnf); (repeat' ((first | refine at_da hxd rfl ?_ | refine at_da hyd rfl ?_ | refine ify ?_ | refine ifn ?_ | refine i6 ?_ | refine ati ?_ | refine mst ?_ | refine rmd ?_ | refine ibo (fun _ => ?_) (fun _ => ?_)) <;> conv => whnf)); (all_goals (repeat' (first | exact trivial | exact rfl | refine And.intro ?_ ?_)))) ?_ | refine at_da hxd rfl ?_ | refine at_da hyd rfl ?_ | refine ify ?_ | refine ifn ?_ | refine i6 ?_ | refine ati ?_ | refine mst ?_ | refine rmd ?_ | refine ibo (fun _ => ?_) (fun _ => ?_)) <;> conv => whnf))
      exact ⟨k + 1, _, _, ⟨hkl, take_snoc hy hn ⟨by omega, by omega⟩⟩, .refl _ _, ⟨rfl, rfl, rfl, rfl, trivial⟩, trivial, by omega⟩
    · have hn2 := take_full (by omega) hn
      (conv => whnf)
      (repeat' ((first | refine ord_ok (by (conv => whnf); (repeat' ((first | refine at_da hxd rfl ?_ | refine ify ?_ | refine ifn ?_ | refine i6 ?_ | refine ati ?_ | refine mst ?_ | refine rmd ?_ | refine ibo (fun _ => ?_) (fun _ => ?_)) <;> conv => whnf)); (all_goals (repeat' (first | exact trivial | exact rfl | refine And.intro ?_ ?_)))) ?_ | refine at_da hxd rfl ?_ | refine ify ?_ | refine ifn ?_ | refine i6 ?_ | refine ati ?_ | refine mst ?_ | refine rmd ?_ | refine ibo (fun _ => ?_) (fun _ => ?_)) <;> conv => whnf))
      exact ⟨i + 1, _, _, ⟨hil, take_snoc hx hto ⟨by omega, hn2⟩⟩, .refl _ _, ⟨rfl, rfl, rfl, trivial⟩, trivial, by omega⟩
  have hto2 := take_full (by omega) hto
  ((conv => whnf); repeat' ((first | refine odw ?_ | refine ify ?_ | refine ifn ?_ | refine i6 ?_ | refine ati ?_ | refine mst ?_ | refine rmd ?_ | refine ibo (fun _ => ?_) (fun _ => ?_)) <;> conv => whnf))
  refine loop_lo (ι := Nat) (fun i => i ≤ states.length ∧ ∀ s ∈ states.take i, s.size ≤ 60) (fun i => [(7, .d (.int .i64 (i : Nat))), (0, .d (.list 1 (states.map dTx)))]) (fun _ => []) (fun i => states.length - i) 0 (fun _ => rfl) ⟨by omega, by simp⟩ (.refl _ _) ⟨rfl, rfl, trivial⟩ trivial ?_
  rintro j ⟨hj, hs⟩
  refine sxCode_sound c1_ok (G := G_l20f) (pl := pl_l20f) _ _ _ _ (by kernel_rfl) ?_
  by_cases hjl : j < states.length
  · have hx := List.getElem?_eq_getElem hjl
    have hxm := List.getElem_mem hjl
    generalize states[j] = s at hx hxm
    have hxd : (states.map dTx)[j]? = some (.str s) := by rw [List.getElem?_map, hx]; rfl
    by_cases h60 : 60 < s.size
    · (conv => whnf)
      (repeat' ((first | refine ord_ok (by (conv => whnf); (repeat' ((first | refine at_da hxd rfl ?_ | refine ify ?_ | refine ifn ?_ | refine i6 ?_ | refine ati ?_ | refine mst ?_ | refine rmd ?_ | refine ibo (fun _ => ?_) (fun _ => ?_)) <;> conv => whnf)); (all_goals (repeat' (first | exact trivial | exact rfl | refine And.intro ?_ ?_)))) ?_ | refine at_da hxd rfl ?_ | refine ify ?_ | refine ifn ?_ | refine i6 ?_ | refine ati ?_ | refine mst ?_ | refine rmd ?_ | refine ibo (fun _ => ?_) (fun _ => ?_)) <;> conv => whnf))
      exact no fun h => by have := h.sts s hxm; omega
    (conv => whnf)
    (repeat' ((first | refine ord_ok (by (conv => whnf); (repeat' ((first | refine at_da hxd rfl ?_ | refine ify ?_ | refine ifn ?_ | refine i6 ?_ | refine ati ?_ | refine mst ?_ | refine rmd ?_ | refine ibo (fun _ => ?_) (fun _ => ?_)) <;> conv => whnf)); (all_goals (repeat' (first | exact trivial | exact rfl | refine And.intro ?_ ?_)))) ?_ | refine at_da hxd rfl ?_ | refine ify ?_ | refine ifn ?_ | refine i6 ?_ | refine ati ?_ | refine mst ?_ | refine rmd ?_ | refine ibo (fun _ => ?_) (fun _ => ?_)) <;> conv => whnf))
    exact ⟨j + 1, _, _, ⟨hjl, take_snoc hx hs (by omega)⟩, .refl _ _, ⟨rfl, rfl, trivial⟩, trivial, by omega⟩
  have hs2 := take_full (by omega) hs
  ((conv => whnf); repeat' ((first | refine odw ?_ | refine ify ?_ | refine ifn ?_ | refine i6 ?_ | refine ati ?_ | refine mst ?_ | refine rmd ?_ | refine ibo (fun _ => ?_) (fun _ => ?_)) <;> conv => whnf))
  exact ⟨true, rfl, ⟨fun _ => ⟨by omega, by omega, by omega, hto2, hs2⟩, fun _ => rfl⟩⟩
/-- the states, the inboxes behind r rounds -/
def Rst (to : List (List Int)) (states : List ByteArray) : Nat → List ByteArray × List (List ByteArray)
  | 0 => (states, List.replicate states.length [])
  | r + 1 => (roundS (Rst to states r).1 (Rst to states r).2, roundB to (Rst to states r).1)
theorem Rst_len (to : List (List Int)) (states : List ByteArray) : ∀ r, (Rst to states r).1.length = states.length
  | 0 => rfl
  | r + 1 => by
    show (roundS _ _).length = _
    rw [roundS_len, Rst_len to states r]
theorem RunM.mono {to : List (List Int)} {want : List ByteArray} {inbox : List (List ByteArray)} {wk : List Bool} {r : Int} {B C : Nat} {M : Mach} (h : RunM to want inbox wk r B M) (hb : B ≤ C) : RunM to want inbox wk r C M := ⟨{ h.inv with net := h.inv.net.mono hb }, h.job, h.wb⟩
theorem fresh_run {to : List (List Int)} {states : List ByteArray} (h : FineP states to) : RunM to (Rst to states 0).1 (Rst to states 0).2 (List.replicate states.length false) ((0 : Nat) : Int) 0 (M0 33 (jobX to) states) :=
  M0_run to _ _ states ⟨jobB to (by have := h.t6; omega) (fun x hx => by have := (h.tos x hx).1; omega)⟩ h.n1 (by have := h.n6; omega) (fun s hs => by have := h.sts s hs; omega) (by have := h.t6; omega) (fun x hx => ⟨by have := (h.tos x hx).1; omega, (h.tos x hx).2⟩)
/-- a machine of a job, somewhere in its rounds -/
def GoodM (to : List (List Int)) (states : List ByteArray) (i : Nat) (M : Mach) : Prop := ∃ r wk, RunM to (Rst to states r).1 (Rst to states r).2 wk ((r : Nat) : Int) (1000 * i) M ∧ r ≤ i
def Left (to : List (List Int)) (states : List ByteArray) (i : Nat) : Dat → Sg → Prop := fun d σ => ∃ z : Mach × Da, d = .d z.2 ∧ σ = sM z.1 ∧ GoodM to states (i + 1) z.1
theorem _root_.Go.Sx.RecCall.weaken {C : Cx} {f : FuncId} {args : List Dat} {σ0 : Sg} {ks : List Nat} {Q Q' : Dat → Sg → Prop} (h : RecCall C f args σ0 ks Q) (hq : ∀ d σ, Q d σ → Q' d σ) : RecCall C f args σ0 ks Q' := by
  intro B S w η φ css hm hr
  obtain ⟨g1, g2⟩ := h B S w η φ css hm hr
  refine ⟨g1, g2.mono ?_⟩
  rintro e w' ⟨v, d, σ1, η1, φ1, he, hQ, h1, h2, h3⟩
  exact ⟨v, d, σ1, η1, φ1, he, hq d σ1 hQ, h1, h2, h3⟩
section
variable {to : List (List Int)} {states : List ByteArray} {i : Nat} {M : Mach}
theorem GoodM.keep (h : GoodM to states i M) : GoodM to states (i + 1) M := by
  obtain ⟨r, wk, h, hr⟩ := h
  exact ⟨r, wk, h.mono (by omega), by omega⟩
theorem GoodM.len (h : GoodM to states i M) : M.states.length = states.length := by
  obtain ⟨r, wk, h, hr⟩ := h
  rw [h.len, Rst_len]
theorem work_any (h : GoodM to states i M) (hi : i ≤ 1000) (n : Int) : RecCall C1 14 [.own 900, .d (.int .i64 n)] (sM M) [900] (Left to states i) := by
  by_cases hn : n < 0 ∨ M.states.length ≤ n
  · exact (mwork_no M n hn).weaken fun d σ ⟨h1, h2⟩ => ⟨(M, _), h1, h2, h.keep⟩
  · obtain ⟨w, rfl⟩ := Int.eq_ofNat_of_zero_le (show 0 ≤ n by omega)
    have hk := h.keep
    obtain ⟨r, wk, h1, hr⟩ := h
    have hl := h1.len
    have hwl : w < wk.length := by rw [h1.inv.wl, ← hl]; omega
    have hw := List.getElem?_eq_getElem hwl
    generalize wk[w] = b at hw
    cases b with
    | true => exact (mwork_there M w (by omega) (by rw [h1.inv.wkd]; exact hw)).weaken fun d σ ⟨h1, h2⟩ => ⟨(M, _), h1, h2, hk⟩
    | false => exact (work_inv h1 (by omega) hw).weaken fun d σ ⟨h2, h3⟩ => ⟨(_, _), h2, h3, r, _, (h1.did hw).mono (by omega), by omega⟩
theorem del_any (h : GoodM to states i M) (hi : i ≤ 1000) (n : Int) : RecCall C1 20 [.own 900, .d (.int .i64 n)] (sM M) [900] (Left to states i) := by
  by_cases hn : n < 0 ∨ M.net.flying.length ≤ n
  · exact (mdel_no M n hn).weaken fun d σ ⟨⟨s, h1⟩, h2⟩ => ⟨(M, _), h1, h2, h.keep⟩
  · obtain ⟨w, rfl⟩ := Int.eq_ofNat_of_zero_le (show 0 ≤ n by omega)
    obtain ⟨r, wk, h1, hr⟩ := h
    have hl := List.getElem?_eq_getElem (show w < M.net.flying.length by omega)
    have hf := h1.inv.net.fly
    exact (mdel_ok M w _ hl (by omega)).weaken fun d σ ⟨h2, h3⟩ => ⟨(_, _), h2, h3, r, wk, (h1.deliver hl).mono (by omega), by omega⟩
theorem dbl_any (h : GoodM to states i M) (hi : i ≤ 1000) (n : Int) : RecCall C1 22 [.own 900, .d (.int .i64 n)] (sM M) [900] (Left to states i) := by
  by_cases hn : n < 0 ∨ M.net.flying.length ≤ n
  · exact (mdbl_no M n hn).weaken fun d σ ⟨⟨s, h1⟩, h2⟩ => ⟨(M, _), h1, h2, h.keep⟩
  · obtain ⟨w, rfl⟩ := Int.eq_ofNat_of_zero_le (show 0 ≤ n by omega)
    obtain ⟨r, wk, h1, hr⟩ := h
    have hl := List.getElem?_eq_getElem (show w < M.net.flying.length by omega)
    have hf := h1.inv.net.fly
    exact (mdbl_ok M w _ hl (by omega)).weaken fun d σ ⟨h2, h3⟩ => ⟨(_, _), h2, h3, r, wk, (h1.double hl).mono (by omega), by omega⟩
theorem cra_any (h : GoodM to states i M) (n : Int) : RecCall C1 23 [.own 900, .d (.int .i64 n)] (sM M) [900] (Left to states i) := by
  by_cases hn : n < 0 ∨ M.states.length ≤ n
  · exact (mcra_no M n hn).weaken fun d σ ⟨h1, h2⟩ => ⟨(M, _), h1, h2, h.keep⟩
  · obtain ⟨r, wk, h1, hr⟩ := h
    have hl := h1.len
    have h64 := h1.wb.n2
    exact (mcra_ok M n (by omega) (by omega) (by omega)).weaken fun d σ ⟨h2, h3⟩ => ⟨(_, _), h2, h3, r, _, h1.back.mono (by omega), by omega⟩
theorem pas_any (h : GoodM to states i M) (hi : i ≤ 1000) : RecCall C1 18 [.own 900] (sM M) [900] (Left to states i) := by
  have hk := h.keep
  obtain ⟨r, wk, h1, hr⟩ := h
  have hl := h1.len
  have h64 := h1.wb.n2
  have hwl : M.worked.length ≤ 1000 := by rw [h1.inv.wkd, h1.inv.wl]; omega
  by_cases hw : false ∈ M.worked
  · exact (mpass_wk M hw hwl).weaken fun d σ ⟨h2, h3⟩ => ⟨(M, _), h2, h3, hk⟩
  · by_cases h0 : Go.Proofs.YtlchegpgicdldaaDoor.M M.net = 0
    · have ha : ∀ b ∈ wk, b = true := fun b hb => by
        cases b with
        | true => rfl
        | false => exact absurd (by rw [h1.inv.wkd]; exact hb) hw
      exact (pass_inv h1 (by omega) (by omega) ha h0).weaken fun d σ ⟨h2, h3⟩ => ⟨(_, _), h2, h3, r + 1, _, (h1.pass ha).mono (by omega), by omega⟩
    · exact (mpass_fly M hw hwl h1.inv.net (by omega) h0).weaken fun d σ ⟨h2, h3⟩ => ⟨(M, _), h2, h3, hk⟩
end
end Go.Proofs.YtlchegpgicdldaaDoor
