/- Merged: Ptd Pso Bit Prm Prn. -/
import Derived.Test.YtjejpdfldmempaaGreatDoorOen
import Derived.Test.YtjejpdfldmempaaGreatDoorlgae
import Derived.Test.YtjejpdfldmempaaGreatDoorlgac
import Derived.Test.YtjejpdfldmempaaGreatDoorSxu
import Derived.Test.YtjejpdfldmempaaGreatDoorlgab
import Derived.Test.YtjejpdfldmempaaGreatDoorlgad
section
namespace Go.Gr
theorem eAt_none {n : Nat} {E : List Edg} {i : Nat} {e : Edg} (hx : E[i]? = some e) (h1 : 0 ≤ min e.a e.b ∧ max e.a e.b < n) (h2 : e.a < e.b) (h3 : i = 0 ∨ ∃ q, E[i - 1]? = some q ∧ cmpE q e < 0) : eAt n E i = none := by
 unfold eAt
 rw [hx]
 simp only [Option.map_eq_none_iff]
 unfold eBad
 rw [if_neg (fun h => h h1), if_neg (by omega)]
 rcases h3 with h3 | ⟨q, h3, h4⟩
 ·rw [if_pos h3]
 ·by_cases h0 : i = 0
  ·rw [if_pos h0]
  ·rw [if_neg h0, h3]
   simp only
   rw [if_pos h4]
theorem eAt_out {n : Nat} {E : List Edg} {i : Nat} {e : Edg} (hx : E[i]? = some e) (h1 : ¬ (0 ≤ min e.a e.b ∧ max e.a e.b < n)) : eAt n E i = some (3, i) := by
 unfold eAt
 rw [hx]
 simp only
 unfold eBad
 rw [if_pos h1]; rfl
theorem eAt_form {n : Nat} {E : List Edg} {i : Nat} {e : Edg} (hx : E[i]? = some e) (h1 : 0 ≤ min e.a e.b ∧ max e.a e.b < n) (h2 : e.b ≤ e.a) : eAt n E i = some (2, i) := by
 unfold eAt
 rw [hx]
 simp only
 unfold eBad
 rw [if_neg (fun h => h h1), if_pos h2]; rfl
theorem eAt_order {n : Nat} {E : List Edg} {i : Nat} {e q : Edg} (hx : E[i]? = some e) (h1 : 0 ≤ min e.a e.b ∧ max e.a e.b < n) (h2 : e.a < e.b) (h0 : i ≠ 0) (hq : E[i - 1]? = some q) (h3 : ¬ cmpE q e < 0) : eAt n E i = some (2, i) := by
 unfold eAt
 rw [hx]
 simp only
 unfold eBad
 rw [if_neg (fun h => h h1), if_neg (by omega), if_neg h0, hq]
 simp only
 rw [if_neg h3]; rfl
theorem eErr_at {n : Nat} {E : List Edg} {i : Nat} {y : Int × Nat} (h : ∀ k, k < i → eAt n E k = none) (hi : eAt n E i = some y) : eErr n E = some y := by
 have hl : i < E.length := by
  rcases Nat.lt_or_ge i E.length with h | h
  ·exact h
  ·unfold eAt at hi
   rw [List.getElem?_eq_none h] at hi
   cases hi
 exact findSome_at h hi hl
theorem eErr_no {n : Nat} {E : List Edg} (h : ∀ k, k < E.length → eAt n E k = none) : eErr n E = none := findSome_no h
theorem none_step {n : Nat} {E : List Edg} {i : Nat} (h : ∀ k, k < i → eAt n E k = none) (hi : eAt n E i = none) : ∀ k, k < i + 1 → eAt n E k = none := by
 intro k hk
 rcases Nat.lt_or_ge k i with hl | hl
 ·exact h k hl
 ·have : k = i := by omega
  subst this; exact hi
def hasR (E : List Edg) (x y : Int) : Bool := E.any fun e => decide (e.a = x ∧ e.b = y ∨ e.a = y ∧ e.b = x)
def eIdx (E : List Edg) (e : Edg) : Int := match E.findIdx? (fun x => decide (x = e)) with
 | none => -1
 | some i => i
theorem eIdx_at {E : List Edg} {e : Edg} {i : Nat} (h : ∀ k x, k < i → E[k]? = some x → x ≠ e) (hx : E[i]? = some e) : eIdx E e = i := by
 have : E.findIdx? (fun x => decide (x = e)) = some i := by
  rw [List.findIdx?_eq_some_iff_getElem]
  obtain ⟨h1, h2⟩ := List.getElem?_eq_some_iff.1 hx
  refine ⟨h1, by simp [h2], fun j hj => ?_⟩
  have := h j _ hj (List.getElem?_eq_getElem (by omega))
  simpa using this
 unfold eIdx; rw [this]
theorem eIdx_no {E : List Edg} {e : Edg} (h : ∀ k x, k < E.length → E[k]? = some x → x ≠ e) : eIdx E e = -1 := by
 have : E.findIdx? (fun x => decide (x = e)) = none := by
  rw [List.findIdx?_eq_none_iff]
  intro x hx
  obtain ⟨i, hi, rfl⟩ := List.mem_iff_getElem.1 hx
  simpa using h i _ hi (List.getElem?_eq_getElem hi)
 unfold eIdx; rw [this]
theorem eIdx_mem {E : List Edg} {e : Edg} : (0 ≤ eIdx E e) ↔ e ∈ E := by
 unfold eIdx
 cases h : E.findIdx? (fun x => decide (x = e)) with
 | none =>
   rw [List.findIdx?_eq_none_iff] at h
   refine ⟨fun h => by simp at h, fun he => ?_⟩
   have := h e he
   simp at this
 | some i =>
   rw [List.findIdx?_eq_some_iff_getElem] at h
   obtain ⟨h1, h2, _⟩ := h
   refine ⟨fun _ => ?_, fun _ => by simp⟩
   have h2 : E[i] = e := by simpa using h2
   rw [← h2]; exact List.getElem_mem h1
end Go.Gr
namespace Go.Proofs.YtjejpdfldmempaaGreatDoor
open Go.Sx Go.RowKit Go.Reg Go.Gr
set_option maxRecDepth 100000
def pl_ptr : List (Nat × Plan) := [(9, .leaf [0, 1, 0, 1, 0, 0, 0, 0, 0, 0, 1, 0, 0, 0, 1, 1, 2, 0, 0, 0, 0] [0, 2, 1, 3, 4, 5, 6, 7, 8, 9, 11, 12, 10, 13, 14, 15, 16, 17, 18, 19, 20] [0, 1, 0, 4, 15, 31, 63, 127, 255, 511, 1023, 511, 2559, 8191, 16383, 511, 65535, 131071, 262143, 524287, 1048575])]
def G_ptr : List FuncId := [50, 48]
theorem cok_ptr : codeOk Tryz.prog G_ptr pl_ptr (Tryz.f13.body.getD .skip) = true := by kernel_rfl
theorem run_ptr (vs : Array Value) (w : World) : (callFunc 13 vs).run C1.P w = .ok (.enter 13 vs) w := by kernel_rfl
set_option maxHeartbeats 4000000 in
theorem pright_pure (p : Pt) (hm : p.labels.length ≤ 9223372036854775807) (hme : p.edges.length ≤ 9223372036854775807) : Pure C1 13 [dPt p] (fun y => y = rightP p) := by
 have hdl : (p.labels.map dI).length = p.labels.length := List.length_map _
 have hde : (p.edges.map dE).length = p.edges.length := List.length_map _
 have hlb := plabels_pure p.labels hm
 refine pure_of c1_ok (pl := pl_ptr) (G := G_ptr) Tryz.func13 rfl Tryz.ntmps13 run_ptr cok_ptr (by simp) ?_
 cases hl : lErr p.labels with
 | some x =>
   obtain ⟨c, i⟩ := x
   have e1 : labelsY p.labels = dF c i (if c = 6 then patS else labS) := by unfold labelsY; rw [hl]
   have e2 : rightP p = dF c i (if c = 6 then patS else labS) := by unfold rightP; rw [hl]
   rw [e1] at hlb
   rw [e2]
   (conv => whnf)
   (repeat' ((first | refine ord_ok ?_ ?_ | refine call_eq rfl hlb ?_ | refine ify ?_ | refine ifn ?_ | refine i6 ?_ | refine ati ?_ | refine mst ?_ | refine rmd ?_ | refine ibo (fun _ => ?_) (fun _ => ?_) | exact oend) <;> conv => whnf))
   exact rfl
 | none =>
   have e1 : labelsY p.labels = .nili := by unfold labelsY; rw [hl]
   rw [e1] at hlb
   have e2 : rightP p = match eErr p.labels.length p.edges with | none => .nili | some (c, i) => dF c i edgS := by unfold rightP; rw [hl]; try rfl
   rw [e2]
   (conv => whnf)
   (repeat' ((first | refine ord_ok ?_ ?_ | refine call_eq rfl hlb ?_ | refine ify ?_ | refine ifn ?_ | refine i6 ?_ | refine ati ?_ | refine mst ?_ | refine rmd ?_ | refine ibo (fun _ => ?_) (fun _ => ?_) | exact oend) <;> conv => whnf))
   refine loop_lo (ι := Nat) (fun i => i ≤ p.edges.length ∧ ∀ k, k < i → eAt p.labels.length p.edges k = none) (fun i => [(15, .d (.int .i64 i)), (14, .d (.int .i64 p.edges.length)), (13, .d (dEs p.edges)), (1, .own 1)]) (fun _ => [(1, .cells 31 [.d (dIs p.labels), .d (dEs p.edges)])]) (fun i => p.edges.length - i) 0 (fun _ => rfl) ⟨Nat.zero_le _, (by intro k h; omega)⟩ (.refl _ _) ⟨rfl, by rw [← hde]; rfl, rfl, rfl, trivial⟩ ⟨rfl, trivial⟩ ?_
   rintro i ⟨hi, hok⟩
   refine sxCode_sound c1_ok (G := G_ptr) (pl := pl_ptr) _ _ _ _ (by kernel_rfl) ?_
   by_cases hil : i < p.edges.length
   ·have hx := List.getElem?_eq_getElem hil
    generalize p.edges[i] = e at hx
    have hxd : (p.edges.map dE)[i]? = some (.agg [.int .i64 e.a, .int .i64 e.b]) := by rw [List.getElem?_map, hx]; rfl
    have hwi := within_pure e p.labels.length
    rw [← hdl] at hwi
    by_cases h1 : 0 ≤ min e.a e.b ∧ max e.a e.b < p.labels.length
    ·rw [decide_eq_true (by rw [hdl]; exact h1)] at hwi
     by_cases h2 : e.a < e.b
     ·by_cases h0 : i = 0
      ·subst h0
       (conv => whnf)
       (repeat' ((first | refine ord_ok ?_ ?_ | refine at_da hxd rfl ?_ | refine call_eq rfl hwi ?_ | refine ify ?_ | refine ifn ?_ | refine i6 ?_ | refine ati ?_ | refine mst ?_ | refine rmd ?_ | refine ibo (fun _ => ?_) (fun _ => ?_) | exact oend) <;> conv => whnf))
       exact ⟨0 + 1, _, _, ⟨by omega, none_step hok (eAt_none hx h1 h2 (.inl rfl))⟩, .refl _ _, ⟨rfl, rfl, rfl, rfl, trivial⟩, ⟨rfl, trivial⟩, by omega⟩
      ·have hy := List.getElem?_eq_getElem (l := p.edges) (i := i - 1) (by omega)
       generalize p.edges[i - 1]'(by omega) = q at hy
       have hyd : (p.edges.map dE)[i - 1]? = some (.agg [.int .i64 q.a, .int .i64 q.b]) := by rw [List.getElem?_map, hy]; rfl
       have hor := porder_pure q e
       by_cases h3 : cmpE q e < 0
       ·(conv => whnf)
        (repeat' ((first | refine ord_ok ?_ ?_ | refine at_da hxd rfl ?_ | refine call_eq rfl hwi ?_ | refine at_da hyd (by omega) ?_ | refine call_eq rfl hor ?_ | refine ify ?_ | refine ifn ?_ | refine i6 ?_ | refine ati ?_ | refine mst ?_ | refine rmd ?_ | refine ibo (fun _ => ?_) (fun _ => ?_) | exact oend) <;> conv => whnf))
        exact ⟨i + 1, _, _, ⟨by omega, none_step hok (eAt_none hx h1 h2 (.inr ⟨q, hy, h3⟩))⟩, .refl _ _, ⟨rfl, rfl, rfl, rfl, trivial⟩, ⟨rfl, trivial⟩, by omega⟩
       ·rw [eErr_at hok (eAt_order hx h1 h2 h0 hy h3)]
        (conv => whnf)
        (repeat' ((first | refine ord_ok ?_ ?_ | refine at_da hxd rfl ?_ | refine call_eq rfl hwi ?_ | refine at_da hyd (by omega) ?_ | refine call_eq rfl hor ?_ | refine call_eq rfl (fnew_pure 2 i edgS) ?_ | refine ify ?_ | refine ifn ?_ | refine i6 ?_ | refine ati ?_ | refine mst ?_ | refine rmd ?_ | refine ibo (fun _ => ?_) (fun _ => ?_) | exact oend) <;> conv => whnf))
        exact rfl
     ·rw [eErr_at hok (eAt_form hx h1 (by omega))]
      (conv => whnf)
      (repeat' ((first | refine ord_ok ?_ ?_ | refine at_da hxd rfl ?_ | refine call_eq rfl hwi ?_ | refine call_eq rfl (fnew_pure 2 i edgS) ?_ | refine ify ?_ | refine ifn ?_ | refine i6 ?_ | refine ati ?_ | refine mst ?_ | refine rmd ?_ | refine ibo (fun _ => ?_) (fun _ => ?_) | exact oend) <;> conv => whnf))
      exact rfl
    ·rw [decide_eq_false (by rw [hdl]; exact h1)] at hwi
     rw [eErr_at hok (eAt_out hx h1)]
     (conv => whnf)
     (repeat' ((first | refine ord_ok ?_ ?_ | refine at_da hxd rfl ?_ | refine call_eq rfl hwi ?_ | refine call_eq rfl (fnew_pure 3 i edgS) ?_ | refine ify ?_ | refine ifn ?_ | refine i6 ?_ | refine ati ?_ | refine mst ?_ | refine rmd ?_ | refine ibo (fun _ => ?_) (fun _ => ?_) | exact oend) <;> conv => whnf))
     exact rfl
   ·rw [eErr_no (fun k hk => hok k (by omega))]
    ((conv => whnf); repeat' ((first | refine odw ?_ | refine ify ?_ | refine ifn ?_ | refine i6 ?_ | refine ati ?_ | refine mst ?_ | refine rmd ?_ | refine ibo (fun _ => ?_) (fun _ => ?_)) <;> conv => whnf))
    exact rfl
def pl_r8r : List (Nat × Plan) := [(5, .leaf [0, 1, 0, 0, 1, 0, 1, 0, 2] [0, 2, 5, 1, 3, 4, 6, 7, 8] [0, 1, 0, 7, 15, 0, 32, 96, 255]),
 (7, .leaf [0, 1, 0, 0, 0, 1, 0, 1, 0, 0, 0, 1, 0, 0, 0, 0, 0, 0, 1, 0, 0, 0, 1, 0, 1, 0, 0, 1, 2, 0, 0, 0] [0, 2, 6, 8, 1, 3, 4, 5, 7, 9, 10, 11, 12, 13, 14, 15, 16, 17, 19, 20, 23, 25, 18, 21, 22, 24, 26, 27, 28, 29, 30, 31] [0, 1, 0, 7, 15, 31, 0, 64, 0, 448, 960, 1984, 4095, 8191, 16383, 32767, 65535, 131071, 262143, 131071, 655359, 2097151, 4194303, 131071, 8519679, 131071, 58851327, 125960191, 268435455, 536870911, 1073741823, 2147483647])]
def G_r8r : List FuncId := [181, 182]
theorem cok_r8r : codeOk Tryz.prog G_r8r pl_r8r (Tryz.f121.body.getD .skip) = true := by kernel_rfl
theorem run_r8r (vs : Array Value) (w : World) : (callFunc 121 vs).run C1.P w = .ok (.enter 121 vs) w := by kernel_rfl
set_option maxHeartbeats 4000000 in
theorem rright_pure (p : Pt) (hm : p.labels.length ≤ 9223372036854775807) (hme : p.edges.length ≤ 9223372036854775807) : Pure C1 121 [dPt p] (fun y => y = codeP (pErr p)) := by
 have hdl : (p.labels.map dI).length = p.labels.length := List.length_map _
 have hde : (p.edges.map dE).length = p.edges.length := List.length_map _
 have hlb := rlabels_pure p.labels hm
 refine pure_of c1_ok (pl := pl_r8r) (G := G_r8r) Tryz.func121 rfl Tryz.ntmps121 run_r8r cok_r8r (by simp) ?_
 cases hl : lErr p.labels with
 | some x =>
   obtain ⟨c, i⟩ := x
   have hc0 : c ≠ 0 := by
    intro e
    subst e
    unfold lErr at hl
    split at hl
    ·simp at hl
    ·obtain ⟨l1, k, l2, _, h2, _⟩ := List.findSome?_eq_some_iff.1 hl
     split at h2 <;> simp at h2
   have e2 : pErr p = some (c, i) := by unfold pErr; rw [hl]
   rw [hl] at hlb
   rw [e2]
   (conv => whnf)
   (repeat' ((first | refine ord_ok ?_ ?_ | refine call_eq rfl hlb ?_ | refine ify ?_ | refine ifn ?_ | refine i6 ?_ | refine ati ?_ | refine mst ?_ | refine rmd ?_ | refine ibo (fun _ => ?_) (fun _ => ?_) | exact oend) <;> conv => whnf))
   refine loop_lo (ι := Unit) (fun _ => True) (fun _ => [(6, .d (.int .i64 0)), (5, .d (.int .i64 i)), (4, .d (.int .i64 c)), (1, .own 1)]) (fun _ => [(1, .cells 35 [.d (dIs p.labels), .d (dEs p.edges)])]) (fun _ => 0) () (fun _ => rfl) trivial (.refl _ _) ⟨rfl, rfl, rfl, rfl, trivial⟩ ⟨rfl, trivial⟩ ?_
   intro _ _
   refine sxCode_sound c1_ok (G := G_r8r) (pl := pl_r8r) _ _ _ _ (by kernel_rfl) ?_
   ((conv => whnf); repeat' ((first | refine odw ?_ | refine ify ?_ | refine ifn ?_ | refine i6 ?_ | refine ati ?_ | refine mst ?_ | refine rmd ?_ | refine ibo (fun _ => ?_) (fun _ => ?_)) <;> conv => whnf))
   exact rfl
 | none =>
   rw [hl] at hlb
   have e2 : pErr p = eErr p.labels.length p.edges := by unfold pErr; rw [hl]
   rw [e2]
   (conv => whnf)
   (repeat' ((first | refine ord_ok ?_ ?_ | refine call_eq rfl hlb ?_ | refine ify ?_ | refine ifn ?_ | refine i6 ?_ | refine ati ?_ | refine mst ?_ | refine rmd ?_ | refine ibo (fun _ => ?_) (fun _ => ?_) | exact oend) <;> conv => whnf))
   refine loop_lo (ι := Nat) (fun i => i ≤ p.edges.length ∧ ∀ k, k < i → eAt p.labels.length p.edges k = none) (fun i => [(6, .d (.int .i64 i)), (5, .d (.int .i64 0)), (4, .d (.int .i64 0)), (1, .own 1)]) (fun _ => [(1, .cells 35 [.d (dIs p.labels), .d (dEs p.edges)])]) (fun i => p.edges.length - i) 0 (fun _ => rfl) ⟨Nat.zero_le _, (by intro k h; omega)⟩ (.refl _ _) ⟨rfl, rfl, rfl, rfl, trivial⟩ ⟨rfl, trivial⟩ ?_
   rintro i ⟨hi, hok⟩
   refine sxCode_sound c1_ok (G := G_r8r) (pl := pl_r8r) _ _ _ _ (by kernel_rfl) ?_
   by_cases hil : i < p.edges.length
   ·have hx := List.getElem?_eq_getElem hil
    generalize p.edges[i] = e at hx
    have hxd : (p.edges.map dE)[i]? = some (.agg [.int .i64 e.a, .int .i64 e.b]) := by rw [List.getElem?_map, hx]; rfl
    have hwi := rout_pure e p.labels.length
    rw [← hdl] at hwi
    by_cases h1 : 0 ≤ min e.a e.b ∧ max e.a e.b < p.labels.length
    ·rw [decide_eq_false (by rw [hdl]; exact fun h => h h1)] at hwi
     by_cases h2 : e.a < e.b
     ·by_cases h0 : i = 0
      ·subst h0
       (conv => whnf)
       (repeat' ((first | refine ord_ok ?_ ?_ | refine at_da hxd rfl ?_ | refine call_eq rfl hwi ?_ | refine ify ?_ | refine ifn ?_ | refine i6 ?_ | refine ati ?_ | refine mst ?_ | refine rmd ?_ | refine ibo (fun _ => ?_) (fun _ => ?_) | exact oend) <;> conv => whnf))
       exact ⟨0 + 1, _, _, ⟨by omega, none_step hok (eAt_none hx h1 h2 (.inl rfl))⟩, .refl _ _, ⟨rfl, rfl, rfl, rfl, trivial⟩, ⟨rfl, trivial⟩, by omega⟩
      ·have hy := List.getElem?_eq_getElem (l := p.edges) (i := i - 1) (by omega)
       generalize p.edges[i - 1]'(by omega) = q at hy
       have hyd : (p.edges.map dE)[i - 1]? = some (.agg [.int .i64 q.a, .int .i64 q.b]) := by rw [List.getElem?_map, hy]; rfl
       have hor := rless8_pure q e
       by_cases h3 : cmpE q e < 0
       ·rw [decide_eq_true h3] at hor
        (conv => whnf)
        (repeat' ((first | refine ord_ok ?_ ?_ | refine at_da hxd rfl ?_ | refine call_eq rfl hwi ?_ | refine at_da hyd (by omega) ?_ | refine call_eq rfl hor ?_ | refine ify ?_ | refine ifn ?_ | refine i6 ?_ | refine ati ?_ | refine mst ?_ | refine rmd ?_ | refine ibo (fun _ => ?_) (fun _ => ?_) | exact oend) <;> conv => whnf))
        exact ⟨i + 1, _, _, ⟨by omega, none_step hok (eAt_none hx h1 h2 (.inr ⟨q, hy, h3⟩))⟩, .refl _ _, ⟨rfl, rfl, rfl, rfl, trivial⟩, ⟨rfl, trivial⟩, by omega⟩
       ·rw [decide_eq_false h3] at hor
        rw [eErr_at hok (eAt_order hx h1 h2 h0 hy h3)]
        (conv => whnf)
        (repeat' ((first | refine ord_ok ?_ ?_ | refine at_da hxd rfl ?_ | refine call_eq rfl hwi ?_ | refine at_da hyd (by omega) ?_ | refine call_eq rfl hor ?_ | refine ify ?_ | refine ifn ?_ | refine i6 ?_ | refine ati ?_ | refine mst ?_ | refine rmd ?_ | refine ibo (fun _ => ?_) (fun _ => ?_) | exact oend) <;> conv => whnf))
        exact rfl
     ·rw [eErr_at hok (eAt_form hx h1 (by omega))]
      (conv => whnf)
      (repeat' ((first | refine ord_ok ?_ ?_ | refine at_da hxd rfl ?_ | refine call_eq rfl hwi ?_ | refine ify ?_ | refine ifn ?_ | refine i6 ?_ | refine ati ?_ | refine mst ?_ | refine rmd ?_ | refine ibo (fun _ => ?_) (fun _ => ?_) | exact oend) <;> conv => whnf))
      exact rfl
    ·rw [decide_eq_true (by rw [hdl]; exact h1)] at hwi
     rw [eErr_at hok (eAt_out hx h1)]
     (conv => whnf)
     (repeat' ((first | refine ord_ok ?_ ?_ | refine at_da hxd rfl ?_ | refine call_eq rfl hwi ?_ | refine ify ?_ | refine ifn ?_ | refine i6 ?_ | refine ati ?_ | refine mst ?_ | refine rmd ?_ | refine ibo (fun _ => ?_) (fun _ => ?_) | exact oend) <;> conv => whnf))
     exact rfl
   ·rw [eErr_no (fun k hk => hok k (by omega))]
    ((conv => whnf); repeat' ((first | refine odw ?_ | refine ify ?_ | refine ifn ?_ | refine i6 ?_ | refine ati ?_ | refine mst ?_ | refine rmd ?_ | refine ibo (fun _ => ?_) (fun _ => ?_)) <;> conv => whnf))
    exact rfl
def pl_sie : List (Nat × Plan) := [(4, .leaf [1, 0, 0, 0, 1, 3] [1, 2, 3, 0, 4, 5] [0, 0, 0, 6, 14, 31])]
def G_sie : List FuncId := []
theorem cok_sie : codeOk Tryz.prog G_sie pl_sie (Tryz.f290.body.getD .skip) = true := by kernel_rfl
theorem run_sie (vs : Array Value) (w : World) : (callFunc 290 vs).run C1.P w = .ok (.enter 290 vs) w := by kernel_rfl
theorem eindex_pure (E : List Edg) (e : Edg) (hm : E.length ≤ 9223372036854775807) : Pure C1 290 [dEs E, dE e] (fun y => y = .int .i64 (eIdx E e)) := by
 have hde : (E.map dE).length = E.length := List.length_map _
 refine pure_of c1_ok (pl := pl_sie) (G := G_sie) Tryz.func290 rfl Tryz.ntmps290 run_sie cok_sie (by simp) ?_
 ((conv => whnf); repeat' ((first | refine odw ?_ | refine ify ?_ | refine ifn ?_ | refine i6 ?_ | refine ati ?_ | refine mst ?_ | refine rmd ?_ | refine ibo (fun _ => ?_) (fun _ => ?_)) <;> conv => whnf))
 refine loop_lo (ι := Nat) (fun i => i ≤ E.length ∧ ∀ k x, k < i → E[k]? = some x → x ≠ e) (fun i => [(8, .d (.int .i64 i)), (7, .d (.int .i64 E.length)), (3, .own 3), (0, .d (dEs E))]) (fun _ => [(3, .cells 103 [.d (.int .i64 e.a), .d (.int .i64 e.b)])]) (fun i => E.length - i) 0 (fun _ => rfl) ⟨Nat.zero_le _, (by intro k x h; omega)⟩ (.refl _ _) ⟨rfl, by rw [← hde]; rfl, rfl, rfl, trivial⟩ ⟨rfl, trivial⟩ ?_
 rintro i ⟨hi, hok⟩
 refine sxCode_sound c1_ok (G := G_sie) (pl := pl_sie) _ _ _ _ (by kernel_rfl) ?_
 by_cases hil : i < E.length
 ·have hx := List.getElem?_eq_getElem hil
  generalize E[i] = x at hx
  have hxd : (E.map dE)[i]? = some (.agg [.int .i64 x.a, .int .i64 x.b]) := by rw [List.getElem?_map, hx]; rfl
  by_cases hxe : x = e
  ·subst hxe
   rw [eIdx_at hok hx]
   (conv => whnf)
   (repeat' ((first | refine ord_ok ?_ ?_ | refine at_da hxd rfl ?_ | refine ify ?_ | refine ifn ?_ | refine i6 ?_ | refine ati ?_ | refine mst ?_ | refine rmd ?_ | refine ibo (fun _ => ?_) (fun _ => ?_) | exact oend) <;> conv => whnf))
   exact rfl
  ·have hne : ¬ (e.a = x.a ∧ e.b = x.b) := fun h => hxe (by cases x; cases e; simp only at h; rw [h.1, h.2])
   (conv => whnf)
   (repeat' ((first | refine ord_ok ?_ ?_ | refine at_da hxd rfl ?_ | refine ify ?_ | refine ifn ?_ | refine i6 ?_ | refine ati ?_ | refine mst ?_ | refine rmd ?_ | refine ibo (fun _ => ?_) (fun _ => ?_) | exact oend) <;> conv => whnf))
   refine ⟨i + 1, _, _, ⟨by omega, fun k y hk hy => ?_⟩, .refl _ _, ⟨rfl, rfl, rfl, rfl, trivial⟩, ⟨rfl, trivial⟩, by omega⟩
   rcases Nat.lt_or_ge k i with hl | hl
   ·exact hok k y hl hy
   ·have : k = i := by omega
    subst this
    rw [hx] at hy; cases hy; exact hxe
 ·rw [eIdx_no (fun k x hk hx => hok k x (by omega) hx)]
  ((conv => whnf); repeat' ((first | refine odw ?_ | refine ify ?_ | refine ifn ?_ | refine i6 ?_ | refine ati ?_ | refine mst ?_ | refine rmd ?_ | refine ibo (fun _ => ?_) (fun _ => ?_)) <;> conv => whnf))
  exact rfl
def pl_sce : List (Nat × Plan) := []
def G_sce : List FuncId := []
theorem cok_sce : codeOk Tryz.prog G_sce pl_sce (Tryz.f289.body.getD .skip) = true := by kernel_rfl
theorem run_sce (vs : Array Value) (w : World) : (callFunc 289 vs).run C1.P w = .ok (.enter 289 vs) w := by kernel_rfl
theorem econtains_pure (E : List Edg) (e : Edg) (hm : E.length ≤ 9223372036854775807) : Pure C1 289 [dEs E, dE e] (fun y => y = .bool (decide (e ∈ E))) := by
 have h := eindex_pure E e hm
 refine pure_of c1_ok (pl := pl_sce) (G := G_sce) Tryz.func289 rfl Tryz.ntmps289 run_sce cok_sce (by simp) ?_
 (conv => whnf)
 (repeat' ((first | refine ord_ok ?_ ?_ | refine call_eq rfl h ?_ | refine ify ?_ | refine ifn ?_ | refine i6 ?_ | refine ati ?_ | refine mst ?_ | refine rmd ?_ | refine ibo (fun _ => ?_) (fun _ => ?_) | exact oend) <;> conv => whnf))
 exact congrArg Da.bool (decide_eq_decide.2 eIdx_mem)
def pl_pth : List (Nat × Plan) := [(1, .leaf [0, 1, 0, 0, 0, 2, 2, 0] [0, 2, 3, 4, 1, 5, 6, 7] [0, 1, 0, 0, 12, 28, 63, 127])]
def G_pth : List FuncId := [57, 289]
theorem cok_pth : codeOk Tryz.prog G_pth pl_pth (Tryz.f286.body.getD .skip) = true := by kernel_rfl
theorem run_pth (vs : Array Value) (w : World) : (callFunc 286 vs).run C1.P w = .ok (.enter 286 vs) w := by kernel_rfl
theorem phas_pure (p : Pt) (a b : Int) (hme : p.edges.length ≤ 9223372036854775807) : Pure C1 286 [dPt p, .int .i64 a, .int .i64 b] (fun y => y = .bool (decide (turn ⟨a, b⟩ ∈ p.edges))) := by
 have h1 := pturned_pure ⟨a, b⟩
 have h2 := econtains_pure p.edges (turn ⟨a, b⟩) hme
 refine pure_of c1_ok (pl := pl_pth) (G := G_pth) Tryz.func286 rfl Tryz.ntmps286 run_pth cok_pth (by simp) ?_
 (conv => whnf)
 (repeat' ((first | refine ord_ok ?_ ?_ | refine call_eq rfl h1 ?_ | refine call_eq rfl h2 ?_ | refine ify ?_ | refine ifn ?_ | refine i6 ?_ | refine ati ?_ | refine mst ?_ | refine rmd ?_ | refine ibo (fun _ => ?_) (fun _ => ?_) | exact oend) <;> conv => whnf))
 exact rfl
def pl_r8h : List (Nat × Plan) := []
def G_r8h : List FuncId := []
theorem cok_r8h : codeOk Tryz.prog G_r8h pl_r8h (Tryz.f183.body.getD .skip) = true := by kernel_rfl
theorem run_r8h (vs : Array Value) (w : World) : (callFunc 183 vs).run C1.P w = .ok (.enter 183 vs) w := by kernel_rfl
set_option maxHeartbeats 4000000 in
theorem rhas_pure (p : Pt) (a b : Int) (hme : p.edges.length ≤ 9223372036854775807) : Pure C1 183 [dPt p, .int .i64 a, .int .i64 b] (fun y => y = .bool (hasR p.edges a b)) := by
 have hde : (p.edges.map dE).length = p.edges.length := List.length_map _
 refine pure_of c1_ok (pl := pl_r8h) (G := G_r8h) Tryz.func183 rfl Tryz.ntmps183 run_r8h cok_r8h (by simp) ?_
 ((conv => whnf); repeat' ((first | refine odw ?_ | refine ify ?_ | refine ifn ?_ | refine i6 ?_ | refine ati ?_ | refine mst ?_ | refine rmd ?_ | refine ibo (fun _ => ?_) (fun _ => ?_)) <;> conv => whnf))
 refine loop_lo (ι := Nat) (fun i => i ≤ p.edges.length ∧ ∀ k x, k < i → p.edges[k]? = some x → ¬ (x.a = a ∧ x.b = b ∨ x.a = b ∧ x.b = a)) (fun i => [(7, .d (.int .i64 i)), (3, .own 3), (2, .d (.int .i64 b)), (1, .d (.int .i64 a))]) (fun _ => [(3, .cells 35 [.d (dIs p.labels), .d (dEs p.edges)])]) (fun i => p.edges.length - i) 0 (fun _ => rfl) ⟨Nat.zero_le _, (by intro k x h; omega)⟩ (.refl _ _) ⟨rfl, rfl, rfl, rfl, trivial⟩ ⟨rfl, trivial⟩ ?_
 rintro i ⟨hi, hok⟩
 refine sxCode_sound c1_ok (G := G_r8h) (pl := pl_r8h) _ _ _ _ (by kernel_rfl) ?_
 by_cases hil : i < p.edges.length
 ·have hx := List.getElem?_eq_getElem hil
  generalize p.edges[i] = x at hx
  have hxd : (p.edges.map dE)[i]? = some (.agg [.int .i64 x.a, .int .i64 x.b]) := by rw [List.getElem?_map, hx]; rfl
  by_cases hc : x.a = a ∧ x.b = b ∨ x.a = b ∧ x.b = a
  ·have ht : hasR p.edges a b = true := by
    unfold hasR
    rw [List.any_eq_true]
    exact ⟨x, List.mem_of_getElem? hx, decide_eq_true hc⟩
   rw [ht]
   by_cases h1 : x.a = a ∧ x.b = b
   ·obtain ⟨h1, h2⟩ := h1
    (conv => whnf)
    (repeat' ((first | refine ord_ok ?_ ?_ | refine at_da hxd rfl ?_ | refine ify ?_ | refine ifn ?_ | refine i6 ?_ | refine ati ?_ | refine mst ?_ | refine rmd ?_ | refine ibo (fun _ => ?_) (fun _ => ?_) | exact oend) <;> conv => whnf))
    exact rfl
   ·obtain ⟨h3, h4⟩ := hc.resolve_left h1
    by_cases h5 : x.a = a
    ·have h6 : ¬ x.b = b := fun h => h1 ⟨h5, h⟩
     (conv => whnf)
     (repeat' ((first | refine ord_ok ?_ ?_ | refine at_da hxd rfl ?_ | refine ify ?_ | refine ifn ?_ | refine i6 ?_ | refine ati ?_ | refine mst ?_ | refine rmd ?_ | refine ibo (fun _ => ?_) (fun _ => ?_) | exact oend) <;> conv => whnf))
     exact rfl
    ·(conv => whnf)
     (repeat' ((first | refine ord_ok ?_ ?_ | refine at_da hxd rfl ?_ | refine ify ?_ | refine ifn ?_ | refine i6 ?_ | refine ati ?_ | refine mst ?_ | refine rmd ?_ | refine ibo (fun _ => ?_) (fun _ => ?_) | exact oend) <;> conv => whnf))
     exact rfl
  ·have hs : ∀ k y, k < i + 1 → p.edges[k]? = some y → ¬ (y.a = a ∧ y.b = b ∨ y.a = b ∧ y.b = a) := by
    intro k y hk hy
    rcases Nat.lt_or_ge k i with hl | hl
    ·exact hok k y hl hy
    ·have : k = i := by omega
     subst this
     rw [hx] at hy; cases hy; exact hc
   by_cases h1 : x.a = a
   ·have h2 : ¬ x.b = b := fun h => hc (.inl ⟨h1, h⟩)
    by_cases h3 : x.a = b
    ·have h4 : ¬ x.b = a := fun h => hc (.inr ⟨h3, h⟩)
     (conv => whnf)
     (repeat' ((first | refine ord_ok ?_ ?_ | refine at_da hxd rfl ?_ | refine ify ?_ | refine ifn ?_ | refine i6 ?_ | refine ati ?_ | refine mst ?_ | refine rmd ?_ | refine ibo (fun _ => ?_) (fun _ => ?_) | exact oend) <;> conv => whnf))
     exact ⟨i + 1, _, _, ⟨by omega, hs⟩, .refl _ _, ⟨rfl, rfl, rfl, rfl, trivial⟩, ⟨rfl, trivial⟩, by omega⟩
    ·(conv => whnf)
     (repeat' ((first | refine ord_ok ?_ ?_ | refine at_da hxd rfl ?_ | refine ify ?_ | refine ifn ?_ | refine i6 ?_ | refine ati ?_ | refine mst ?_ | refine rmd ?_ | refine ibo (fun _ => ?_) (fun _ => ?_) | exact oend) <;> conv => whnf))
     exact ⟨i + 1, _, _, ⟨by omega, hs⟩, .refl _ _, ⟨rfl, rfl, rfl, rfl, trivial⟩, ⟨rfl, trivial⟩, by omega⟩
   ·by_cases h3 : x.a = b
    ·have h4 : ¬ x.b = a := fun h => hc (.inr ⟨h3, h⟩)
     (conv => whnf)
     (repeat' ((first | refine ord_ok ?_ ?_ | refine at_da hxd rfl ?_ | refine ify ?_ | refine ifn ?_ | refine i6 ?_ | refine ati ?_ | refine mst ?_ | refine rmd ?_ | refine ibo (fun _ => ?_) (fun _ => ?_) | exact oend) <;> conv => whnf))
     exact ⟨i + 1, _, _, ⟨by omega, hs⟩, .refl _ _, ⟨rfl, rfl, rfl, rfl, trivial⟩, ⟨rfl, trivial⟩, by omega⟩
    ·(conv => whnf)
     (repeat' ((first | refine ord_ok ?_ ?_ | refine at_da hxd rfl ?_ | refine ify ?_ | refine ifn ?_ | refine i6 ?_ | refine ati ?_ | refine mst ?_ | refine rmd ?_ | refine ibo (fun _ => ?_) (fun _ => ?_) | exact oend) <;> conv => whnf))
     exact ⟨i + 1, _, _, ⟨by omega, hs⟩, .refl _ _, ⟨rfl, rfl, rfl, rfl, trivial⟩, ⟨rfl, trivial⟩, by omega⟩
 ·have ht : hasR p.edges a b = false := by
   unfold hasR
   rw [List.any_eq_false]
   intro x hx
   obtain ⟨k, hk, rfl⟩ := List.mem_iff_getElem.1 hx
   simpa using hok k _ (by omega) (List.getElem?_eq_getElem hk)
  rw [ht]
  ((conv => whnf); repeat' ((first | refine odw ?_ | refine ify ?_ | refine ifn ?_ | refine i6 ?_ | refine ati ?_ | refine mst ?_ | refine rmd ?_ | refine ibo (fun _ => ?_) (fun _ => ?_)) <;> conv => whnf))
  exact rfl
theorem rightP_none {p : Pt} (h : pErr p = none) : rightP p = .nili := by
 unfold pErr at h
 unfold rightP
 split at h
 ·cases h
 ·rename_i hl
  rw [hl]
  simp only
  rw [h]
end Go.Proofs.YtjejpdfldmempaaGreatDoor
end
