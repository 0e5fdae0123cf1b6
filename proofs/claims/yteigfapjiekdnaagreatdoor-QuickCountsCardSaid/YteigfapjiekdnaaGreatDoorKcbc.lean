/- Merged: Pid Lct Lcs. -/
import Derived.Test.YteigfapjiekdnaaGreatDoorKcaq
import Derived.Test.YteigfapjiekdnaaGreatDoorKcbb
import Derived.Test.YteigfapjiekdnaaGreatDoorKcau
import Derived.Test.YteigfapjiekdnaaGreatDoorKcba
section
/- perm: Id, times, Of. -/
namespace Go.Gr
open Go.Proofs.YteigfapjiekdnaaGreatDoor
theorem idL_succ (i : Nat) : idL (i + 1) = idL i ++ [(i : Int)] := by unfold idL; rw [List.range_succ, List.map_append]; rfl
theorem idL_len (n : Nat) : (idL n).length = n := by unfold idL; simp
theorem facN_pos : ∀ n, 0 < facN n
  | 0 => by decide
  | n + 1 => Nat.mul_pos (by omega) (facN_pos n)
theorem perm_ord {n : Nat} {P : List Int} (h : P.Perm (idL n)) : IsOrd n P := ⟨by rw [h.length_eq, idL_len], fun x hx => (idL_ord n).2.1 x (h.mem_iff.1 hx), h.nodup_iff.2 (idL_ord n).2.2⟩
theorem take_perm {L : List Int} {q : Nat} {x : Int} (h : L[q]? = some x) : L.Perm (x :: L.eraseIdx q) := by
  obtain ⟨hk, e⟩ := List.getElem?_eq_some_iff.1 h
  subst e
  conv => lhs; rw [← List.take_append_drop q L, List.drop_eq_getElem_cons hk]
  rw [List.eraseIdx_eq_take_drop_succ]
  exact List.perm_middle
theorem facN_le : ∀ n, n ≤ 8 → facN n ≤ 40320 := by decide
end Go.Gr
namespace Go.Proofs.YteigfapjiekdnaaGreatDoor
open Go.Sx Go.RowKit Go.Reg Go.Gr

set_option maxRecDepth 100000
theorem int_to {k : IntKind} {e z : Int} {K : Int → Prop} (h : k.wrap e = z) (hK : K z) : ∃ n, k.wrap e = n ∧ K n := ⟨z, h, hK⟩
def pl_pid : List (Nat × Plan) := []
def G_pid : List FuncId := []
theorem cok_pid : codeOk Tryz.prog G_pid pl_pid (Tryz.f77.body.getD .skip) = true := by kernel_rfl
theorem run_pid (vs : Array Value) (w : World) : (callFunc 77 vs).run C1.P w = .ok (.enter 77 vs) w := by kernel_rfl
theorem permid_mksl (n : Nat) (hn : n ≤ 8) : MakeSl C1 77 [.int .i64 n] 3 1 (fun ds => ds = (idL n).map dI) := by
  refine mksl_of c1_ok (pl := pl_pid) (G := G_pid) Tryz.func77 rfl Tryz.ntmps77 run_pid cok_pid (by simp) ?_
  ((conv => whnf); repeat' ((first | refine odw ?_ | refine ify ?_ | refine ifn ?_ | refine i6 ?_ | refine ati ?_ | refine mst ?_ | refine rmd ?_ | refine ibo (fun _ => ?_) (fun _ => ?_)) <;> conv => whnf))
  refine loop_lo (ι := Nat) (fun i => i ≤ n) (fun i => [(4, .d (.int .i64 i)), (3, .own 300), (0, .d (.int .i64 n))]) (fun i => [(300, .slice 3 1 ((idL i).map dI))]) (fun i => n - i) 0 (fun _ => rfl) (Nat.zero_le _) (.own 3 300 3 1 rfl rfl (.refl _ _)) ⟨rfl, rfl, rfl, trivial⟩ ⟨rfl, trivial⟩ ?_
  intro i hi
  refine sxCode_sound c1_ok (G := G_pid) (pl := pl_pid) _ _ _ _ (by kernel_rfl) ?_
  have hil := idL_len i
  by_cases hlt : i < n
  · ((conv => whnf); repeat' ((first | refine odw ?_ | refine ify ?_ | refine ifn ?_ | refine i6 ?_ | refine ati ?_ | refine mst ?_ | refine rmd ?_ | refine ibo (fun _ => ?_) (fun _ => ?_)) <;> conv => whnf))
    exact ⟨i + 1, _, _, by omega, .refl _ _, ⟨rfl, rfl, rfl, trivial⟩, ⟨slice_is (by rw [idL_succ, List.map_append]; rfl), trivial⟩, by omega⟩
  · have : i = n := by omega
    subst this
    ((conv => whnf); repeat' ((first | refine odw ?_ | refine ify ?_ | refine ifn ?_ | refine i6 ?_ | refine ati ?_ | refine mst ?_ | refine rmd ?_ | refine ibo (fun _ => ?_) (fun _ => ?_)) <;> conv => whnf))
    exact ⟨rfl, rfl, rfl⟩
def pl_ptm : List (Nat × Plan) := []
def G_ptm : List FuncId := []
theorem cok_ptm : codeOk Tryz.prog G_ptm pl_ptm (Tryz.f75.body.getD .skip) = true := by kernel_rfl
theorem run_ptm (vs : Array Value) (w : World) : (callFunc 75 vs).run C1.P w = .ok (.enter 75 vs) w := by kernel_rfl
theorem times_pure (n : Nat) (hn : n ≤ 8) : Pure C1 75 [.int .i64 n] (fun y => y = .int .i64 (facN n : Nat)) := by
  refine pure_of c1_ok (pl := pl_ptm) (G := G_ptm) Tryz.func75 rfl Tryz.ntmps75 run_ptm cok_ptm (by simp) ?_
  ((conv => whnf); repeat' ((first | refine odw ?_ | refine ify ?_ | refine ifn ?_ | refine i6 ?_ | refine ati ?_ | refine mst ?_ | refine rmd ?_ | refine ibo (fun _ => ?_) (fun _ => ?_)) <;> conv => whnf))
  refine loop_lo (ι := Nat) (fun i => i + 1 ≤ n ∨ i = 1 ∨ i = n) (fun i => [(4, .d (.int .i64 (i + 1 : Nat))), (3, .d (.int .i64 (facN i : Nat))), (0, .d (.int .i64 n))]) (fun _ => []) (fun i => n + 1 - i) 1 (fun _ => rfl) (.inr (.inl rfl)) (.refl _ _) ⟨rfl, rfl, rfl, trivial⟩ trivial ?_
  intro i hi
  refine sxCode_sound c1_ok (G := G_ptm) (pl := pl_ptm) _ _ _ _ (by kernel_rfl) ?_
  by_cases hlt : i + 1 ≤ n
  · have hf := facN_le (i + 1) (by omega)
    have hm : (facN i : Int) * ((i + 1 : Nat) : Int) = ((facN (i + 1) : Nat) : Int) := by
      rw [show facN (i + 1) = (i + 1) * facN i from rfl, Int.natCast_mul, Int.mul_comm]
    have hw : IntKind.i64.wrap ((facN i : Int) * ((i + 1 : Nat) : Int)) = ((facN (i + 1) : Nat) : Int) := by
      rw [hm]; exact wrap64_in ⟨by omega, by omega⟩
    (conv => whnf)
    (repeat' ((first | refine ord_ok (by (conv => whnf); (repeat' ((first | refine int_to hw ?_ | refine ify ?_ | refine ifn ?_ | refine i6 ?_ | refine ati ?_ | refine mst ?_ | refine rmd ?_ | refine ibo (fun _ => ?_) (fun _ => ?_)) <;> conv => whnf)); (all_goals (repeat' (first | exact trivial | exact rfl | refine And.intro ?_ ?_)))) ?_ | refine int_to hw ?_ | refine ify ?_ | refine ifn ?_ | refine i6 ?_ | refine ati ?_ | refine mst ?_ | refine rmd ?_ | refine ibo (fun _ => ?_) (fun _ => ?_)) <;> conv => whnf))
    refine ⟨i + 1, _, _, by omega, .refl _ _, ⟨int_is (by omega), rfl, rfl, trivial⟩, trivial, by omega⟩
  · have hi2 : i = n ∨ (i = 1 ∧ n = 0) := by omega
    have : facN i = facN n := by
      rcases hi2 with rfl | ⟨rfl, rfl⟩ <;> rfl
    ((conv => whnf); repeat' ((first | refine odw ?_ | refine ify ?_ | refine ifn ?_ | refine i6 ?_ | refine ati ?_ | refine mst ?_ | refine rmd ?_ | refine ibo (fun _ => ?_) (fun _ => ?_)) <;> conv => whnf))
    exact congrArg (fun z : Nat => Da.int .i64 (z : Int)) this
/-- what Of keeps: c to go, the list so far, what is left, the rank -/
structure OfI (n : Nat) (s : Nat × Int × List Int × List Int × Nat) : Prop where
  z : s.2.1 = (s.1 : Int) - 1
  len : s.2.2.2.1.length = s.1
  all : (s.2.2.1 ++ s.2.2.2.1).Perm (idL n)
  rank : s.2.2.2.2 < facN s.1
def pl_pof : List (Nat × Plan) := []
def G_pof : List FuncId := [75, 76, 77]
theorem cok_pof : codeOk Tryz.prog G_pof pl_pof (Tryz.f32.body.getD .skip) = true := by kernel_rfl
theorem run_pof (vs : Array Value) (w : World) : (callFunc 32 vs).run C1.P w = .ok (.enter 32 vs) w := by kernel_rfl
set_option maxHeartbeats 4000000 in
theorem permof_pure (n r : Nat) (hn : n ≤ 8) (hr : r < facN n) : Pure C1 32 [.int .i64 n, .int .i64 r] (fun y => ∃ b, IsOrd n b ∧ y = .tuple [dIs b, .nili]) := by
  have ht := times_pure n hn
  have hfn := facN_le n hn
  refine pure_of c1_ok (pl := pl_pof) (G := G_pof) Tryz.func32 rfl Tryz.ntmps32 run_pof cok_pof (by simp) ?_
  (conv => whnf)
  (repeat' ((first | refine ord_ok (by (conv => whnf); (repeat' ((first | refine call_eq rfl ht ?_ | refine ify ?_ | refine ifn ?_ | refine i6 ?_ | refine ati ?_ | refine mst ?_ | refine rmd ?_ | refine ibo (fun _ => ?_) (fun _ => ?_)) <;> conv => whnf)); (all_goals (repeat' (first | exact trivial | exact rfl | refine And.intro ?_ ?_)))) ?_ | refine call_eq rfl ht ?_ | refine ify ?_ | refine ifn ?_ | refine i6 ?_ | refine ati ?_ | refine mst ?_ | refine rmd ?_ | refine ibo (fun _ => ?_) (fun _ => ?_)) <;> conv => whnf))
  refine call_mksl 401 rfl rfl (permid_mksl n hn) ?_; rintro ds rfl
  ((conv => whnf); repeat' ((first | refine odw ?_ | refine ify ?_ | refine ifn ?_ | refine i6 ?_ | refine ati ?_ | refine mst ?_ | refine rmd ?_ | refine ibo (fun _ => ?_) (fun _ => ?_)) <;> conv => whnf))
  refine loop_lo (ι := Nat × Int × List Int × List Int × Nat) (OfI n) (fun s => [(8, .d (.int .i64 s.2.1)), (7, .own 401), (6, .own 300), (1, .d (.int .i64 s.2.2.2.2))]) (fun s => [(300, .slice 3 1 (s.2.2.1.map dI)), (401, .slice 3 1 (s.2.2.2.1.map dI))]) (fun s => s.1) (n, (n : Int) - 1, [], idL n, r) (fun _ => rfl) ⟨rfl, idL_len n, .refl _, hr⟩ (.own 6 300 3 1 rfl rfl (.refl _ _)) ⟨rfl, rfl, rfl, rfl, trivial⟩ ⟨rfl, rfl, trivial⟩ ?_
  rintro ⟨c, z, P, L, r⟩ ⟨hz, hL, hall, hrk⟩
  simp only at hz hL hall hrk
  refine sxCode_sound c1_ok (G := G_pof) (pl := pl_pof) _ _ _ _ (by kernel_rfl) ?_
  dsimp only
  have hlen := hall.length_eq
  rw [List.length_append, idL_len] at hlen
  cases c with
  | zero =>
    have : L = [] := List.eq_nil_of_length_eq_zero hL
    subst this
    have hz' : z = -1 := by omega
    subst hz'
    ((conv => whnf); repeat' ((first | refine odw ?_ | refine ify ?_ | refine ifn ?_ | refine i6 ?_ | refine ati ?_ | refine mst ?_ | refine rmd ?_ | refine ibo (fun _ => ?_) (fun _ => ?_)) <;> conv => whnf))
    rw [List.append_nil] at hall
    exact ⟨P, perm_ord hall, rfl⟩
  | succ k =>
    have hz' : z = (k : Int) := by omega
    subst hz'
    have hk := times_pure k (by omega)
    have hfp := facN_pos k
    have hfk := facN_le k (by omega)
    have hdl : (L.map dI).length = k + 1 := by rw [List.length_map]; exact hL
    have hdp : (P.map dI).length = P.length := List.length_map _
    have hq : r / facN k < k + 1 := (Nat.div_lt_iff_lt_mul hfp).2 hrk
    have hq1 : IntKind.i64.wrap ((r : Int).tdiv (facN k : Int)) = ((r / facN k : Nat) : Int) := by
      rw [Int.tdiv_eq_ediv_of_nonneg (by omega), ← Int.natCast_ediv]
      generalize r / facN k = q at hq
      exact wrap64_in ⟨by omega, by omega⟩
    have hr1 : (r : Int).tmod (facN k : Int) = ((r % facN k : Nat) : Int) := by rw [Int.tmod_eq_emod_of_nonneg (by omega), ← Int.natCast_emod]
    have hrm := Nat.mod_lt r hfp
    generalize hQ : r / facN k = q at hq hq1
    generalize hM : r % facN k = m at hr1 hrm
    have hx := List.getElem?_eq_getElem (l := L) (i := q) (by omega)
    generalize L[q]'(by omega) = x at hx
    have hxd : (L.map dI)[q]? = some (.int .i64 x) := by rw [List.getElem?_map, hx]; rfl
    (conv => whnf)
    (repeat' ((first | refine ord_ok (by (conv => whnf); (repeat' ((first | refine call_eq rfl hk ?_ | refine int_to hq1 ?_ | refine el_at (i := q) rfl (by omega) ?_ | refine el_is hxd ?_ | refine ify ?_ | refine ifn ?_ | refine i6 ?_ | refine ati ?_ | refine mst ?_ | refine rmd ?_ | refine ibo (fun _ => ?_) (fun _ => ?_)) <;> conv => whnf)); (all_goals (repeat' (first | exact trivial | exact rfl | refine And.intro ?_ ?_)))) ?_ | refine call_eq rfl hk ?_ | refine int_to hq1 ?_ | refine el_at (i := q) rfl (by omega) ?_ | refine el_is hxd ?_ | refine ify ?_ | refine ifn ?_ | refine i6 ?_ | refine ati ?_ | refine mst ?_ | refine rmd ?_ | refine ibo (fun _ => ?_) (fun _ => ?_)) <;> conv => whnf))
    refine call_eat rfl rfl (delete_eat L q (by omega)) ?_; rintro ds rfl
    ((conv => whnf); repeat' ((first | refine odw ?_ | refine ify ?_ | refine ifn ?_ | refine i6 ?_ | refine ati ?_ | refine mst ?_ | refine rmd ?_ | refine ibo (fun _ => ?_) (fun _ => ?_)) <;> conv => whnf))
    refine ⟨(k, (k : Int) - 1, P ++ [x], L.eraseIdx q, m), _, _, ⟨rfl, ?_, ?_, hrm⟩, .refl _ _, ⟨rfl, rfl, rfl, int_is (by first | exact hr1 | exact hr1.symm), trivial⟩, ⟨slice_is (by rw [List.map_append]; rfl), rfl, trivial⟩, Nat.lt_succ_self k⟩
    · show (L.eraseIdx q).length = k
      rw [List.length_eraseIdx_of_lt (by omega)]; omega
    · show (P ++ [x] ++ L.eraseIdx q).Perm (idL n)
      rw [List.append_assoc]
      exact (List.Perm.append_left P (take_perm hx).symm).trans hall
end Go.Proofs.YteigfapjiekdnaaGreatDoor
end

section
/- CanonTurns: the walk. -/
namespace Go.Gr
open Go.Proofs.YteigfapjiekdnaaGreatDoor
theorem pErr_of {n : Nat} {p : Pt} (hp : PtOk n p) (h8 : n ≤ 8) (hl : ∀ x ∈ p.labels, 0 ≤ x ∧ x ≤ 255) : pErr p = none := by
  unfold pErr
  have h1 : lErr p.labels = none := by
    refine lErr_no (by rw [hp.len]; omega) fun k y hk hy => ?_
    have := hl y (List.mem_of_getElem? hy)
    unfold badLabel
    simp; omega
  rw [h1]
  refine findSome_no fun i hi => ?_
  have hx := List.getElem?_eq_getElem hi
  have he := hp.edge _ (List.getElem_mem hi)
  generalize hE : p.edges[i] = e at hx he
  unfold eAt
  rw [hx]
  simp only
  rw [Option.map_eq_none_iff]
  unfold eBad
  rw [if_neg (by rw [hp.len]; simp; omega), if_neg (by omega)]
  by_cases h0 : i = 0
  · rw [if_pos h0]
  · rw [if_neg h0]
    have hj : i - 1 < p.edges.length := by omega
    rw [List.getElem?_eq_getElem hj]
    simp only
    rw [if_pos]
    have := List.pairwise_iff_getElem.1 hp.strict (i - 1) i hj hi (by omega)
    rwa [hE] at this
theorem pErr_turn {p : Pt} (hp : pErr p = none) {b : List Int} (hb : IsOrd p.labels.length b) : pErr (turnP p b) = none := by
  have hl := lErr_none (pErr_none hp).1
  exact pErr_of (turnP_ok hb (pt_of hp)) hl.1 fun x hx => hl.2 x ((turnP_labels (pt_of hp) hb).mem_iff.1 hx)
end Go.Gr
namespace Go.Proofs.YteigfapjiekdnaaGreatDoor
open Go.Sx Go.RowKit Go.Reg Go.Gr

set_option maxRecDepth 100000
theorem turn_by {p : Pt} (hp : pErr p = none) {b : List Int} (hb : IsOrd p.labels.length b) : Pure C1 33 [dPt p, dIs b] (fun y => y = .tuple [dPt (turnP p b), .nili]) :=
  pturn_pure p hp (by have := pt_edges hp; omega) b ((ordR_is (by have := (lErr_none (pErr_none hp).1).1; rw [hb.1]; omega)).2 (by rw [hb.1]; exact hb)) hb.1
end Go.Proofs.YteigfapjiekdnaaGreatDoor
end

section
/- CanonParts: the walk. -/
namespace Go.Gr
open Go.Proofs.YteigfapjiekdnaaGreatDoor
theorem pErr_less {p : Pt} (hp : pErr p = none) (h8 : p.labels.length ≤ 8) (i : Nat) : pErr (lessP p i) = none :=
  pErr_of (less_ok (pt_of hp) i) h8 fun x hx => (lErr_none (pErr_none hp).1).2 x hx
end Go.Gr
end
