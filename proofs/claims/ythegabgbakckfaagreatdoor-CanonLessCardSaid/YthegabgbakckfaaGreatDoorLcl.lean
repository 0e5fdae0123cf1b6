/- CanonLess: the walk. -/
import Derived.Test.YthegabgbakckfaaGreatDoorLct
namespace Go.Proofs.YthegabgbakckfaaGreatDoor
open Go.Sx Go.RowKit Go.Reg Go.Gr

set_option maxRecDepth 100000
theorem pt_nat {p : Pt} (hp : pErr p = none) : PtNat p := ⟨fun x hx => ((lErr_none (pErr_none hp).1).2 x hx).1, fun e he => by have := (pErr_none hp).2.1 e he; omega⟩
def pl_lcl : List (Nat × Plan) := [(5, .split 1 4 (.split 1 5 (.split 3 4 (.split 3 5 (.split 4 5 (.leaf [1, 2, 1, 2, 6, 6, 3, 3] [0, 2, 1, 3, 4, 5, 6, 7] [0, 1, 0, 7, 15, 31, 63, 127]) (.leaf [1, 2, 1, 2, 6, 6, 3, 3] [0, 2, 1, 3, 5, 4, 6, 7] [0, 1, 0, 7, 47, 15, 63, 127])) (.leaf [1, 2, 1, 2, 6, 6, 3, 3] [0, 2, 1, 5, 3, 4, 6, 7] [0, 1, 0, 39, 47, 3, 63, 127])) (.split 4 5 (.split 3 5 (.leaf [1, 2, 1, 2, 6, 6, 3, 3] [0, 2, 1, 4, 3, 5, 6, 7] [0, 1, 0, 23, 3, 31, 63, 127]) (.leaf [1, 2, 1, 2, 6, 6, 3, 3] [0, 2, 1, 4, 5, 3, 6, 7] [0, 1, 0, 55, 3, 19, 63, 127])) (.leaf [1, 2, 1, 2, 6, 6, 3, 3] [0, 2, 1, 5, 4, 3, 6, 7] [0, 1, 0, 55, 35, 3, 63, 127]))) (.split 3 4 (.leaf [1, 2, 1, 2, 6, 6, 3, 3] [0, 2, 5, 1, 3, 4, 6, 7] [0, 33, 0, 39, 47, 0, 63, 127]) (.leaf [1, 2, 1, 2, 6, 6, 3, 3] [0, 2, 5, 1, 4, 3, 6, 7] [0, 33, 0, 55, 35, 0, 63, 127]))) (.split 4 5 (.split 1 5 (.split 3 5 (.leaf [1, 2, 1, 2, 6, 6, 3, 3] [0, 2, 4, 1, 3, 5, 6, 7] [0, 17, 0, 23, 0, 31, 63, 127]) (.leaf [1, 2, 1, 2, 6, 6, 3, 3] [0, 2, 4, 1, 5, 3, 6, 7] [0, 17, 0, 55, 0, 19, 63, 127])) (.leaf [1, 2, 1, 2, 6, 6, 3, 3] [0, 2, 4, 5, 1, 3, 6, 7] [0, 49, 0, 55, 0, 16, 63, 127])) (.leaf [1, 2, 1, 2, 6, 6, 3, 3] [0, 2, 5, 4, 1, 3, 6, 7] [0, 49, 0, 55, 32, 0, 63, 127]))),
  (20, .leaf [0, 0, 0, 0, 0, 0, 0, 0, 0, 0, 0, 0, 0, 0, 0, 1, 1, 2, 0, 0, 0, 1, 1, 2, 0, 0, 0, 0, 0, 0, 0, 0, 0, 0, 0, 1, 1, 2, 0, 0, 0, 1, 2, 1, 1, 2, 0, 0, 0, 0] [0, 1, 2, 3, 4, 5, 6, 7, 8, 9, 10, 11, 12, 13, 14, 15, 16, 17, 18, 19, 20, 21, 22, 23, 24, 25, 26, 27, 28, 29, 30, 31, 32, 33, 34, 35, 36, 37, 38, 39, 40, 41, 43, 44, 42, 45, 46, 47, 48, 49] [0, 1, 3, 7, 15, 31, 63, 127, 255, 511, 1023, 2047, 4095, 8191, 16383, 32767, 32767, 131071, 262143, 524287, 1048575, 2097151, 2097151, 8388607, 16777215, 33554431, 67108863, 134217727, 134217727, 536870911, 1073741823, 2147483647, 4294967295, 4294967295, 17179869183, 4294967295, 4294967295, 107374182399, 274877906943, 549755813887, 1099511627775, 2199023255551, 4398046511103, 2199023255551, 2199023255551, 35184372088831, 70368744177663, 140737488355327, 281474976710655, 562949953421311])]
def G_lcl : List FuncId := [20, 21, 16, 23, 24, 22, 26, 25, 27, 28]
theorem cok_lcl : codeOk Tryz.prog G_lcl pl_lcl (Tryz.f4.body.getD .skip) = true := by kernel_rfl
theorem run_lcl (vs : Array Value) (w : World) : (callFunc 4 vs).run C1.P w = .ok (.enter 4 vs) w := by kernel_rfl
set_option maxHeartbeats 4000000 in
theorem lless_pure (p p2 : Pt) (a a2 : Int) (ha : 0 ≤ a ∧ a ≤ 65535) (ha2 : 0 ≤ a2 ∧ a2 ≤ 65535) : Sx.Pure C3 4 [dPt p, dPt p2, .int .u16 a, .int .u16 a2] (fun y => y = .bool true) := by
  have hal := lalive_pure
  have hsm := Pure.up3 (lsmall_pure p 6)
  have hsm2 := Pure.up3 (lsmall_pure p2 6)
  refine pure_of c3_ok (pl := pl_lcl) (G := G_lcl) Tryz.func4 rfl Tryz.ntmps4 run_lcl cok_lcl (by simp) ?_
  by_cases hs : pErr p = none ∧ (p.labels.length : Int) ≤ 6
  · by_cases hs2 : pErr p2 = none ∧ (p2.labels.length : Int) ≤ 6
    · rw [decide_eq_true hs] at hsm
      rw [decide_eq_true hs2] at hsm2
      obtain ⟨hp, h6⟩ := hs
      obtain ⟨hp2, h62⟩ := hs2
      have hdl : (p.labels.map dI).length = p.labels.length := List.length_map _
      have hof := Pure.up3 (lawpt_pure p (by have := pt_edges hp; omega))
      have hof2 := Pure.up3 (lawpt_pure p2 (by have := pt_edges hp2; omega))
      (conv => whnf)
      (repeat' ((first | refine ord_ok (by (conv => whnf); (repeat' ((first | refine call_eq rfl hal ?_ | refine call_eq rfl hsm ?_ | refine call_eq rfl hsm2 ?_ | refine call_eq rfl hof ?_ | refine call_eq rfl hof2 ?_ | refine ify ?_ | refine ifn ?_ | refine i6 ?_ | refine ati ?_ | refine mst ?_ | refine rmd ?_ | refine ibo (fun _ => ?_) (fun _ => ?_)) <;> conv => whnf)); (all_goals (repeat' (first | exact trivial | exact rfl | refine And.intro ?_ ?_)))) ?_ | refine call_eq rfl hal ?_ | refine call_eq rfl hsm ?_ | refine call_eq rfl hsm2 ?_ | refine call_eq rfl hof ?_ | refine call_eq rfl hof2 ?_ | refine ify ?_ | refine ifn ?_ | refine i6 ?_ | refine ati ?_ | refine mst ?_ | refine rmd ?_ | refine ibo (fun _ => ?_) (fun _ => ?_)) <;> conv => whnf))
      have hn7 : p.labels.length ≤ 7 := by omega
      have hE := pt_edges hp
      have hE2 := pt_edges hp2
      have hpo := pt_of hp
      refine loop_lo (ι := Nat) (fun i => i + 1 ≤ p.labels.length ∨ i = 1 ∨ i = p.labels.length) (fun i => [(13, .d (.int .i64 (i + 1 : Nat))), (12, .d (.int .i64 (facN i : Nat))), (11, .d (.int .i64 (p.labels.map dI).length)), (10, .own 10), (9, .own 9), (3, .d (.int .u16 a2)), (2, .d (.int .u16 a))]) (fun _ => [(9, .cells 35 [.d (dIs p.labels), .d (dEs p.edges)]), (10, .cells 35 [.d (dIs p2.labels), .d (dEs p2.edges)])]) (fun i => p.labels.length + 1 - i) 1 (fun _ => rfl) (.inr (.inl rfl)) (.refl _ _) ⟨rfl, rfl, rfl, rfl, rfl, rfl, rfl, trivial⟩ ⟨rfl, rfl, trivial⟩ ?_
      intro i hi
      refine sxCode_sound c3_ok (G := G_lcl) (pl := pl_lcl) _ _ _ _ (by kernel_rfl) ?_
      by_cases hlt : i + 1 ≤ p.labels.length
      · have hf := facN_le (i + 1) (by omega)
        have hm : (facN i : Int) * ((i + 1 : Nat) : Int) = ((facN (i + 1) : Nat) : Int) := by
          rw [show facN (i + 1) = (i + 1) * facN i from rfl, Int.natCast_mul, Int.mul_comm]
        have hw : IntKind.i64.wrap ((facN i : Int) * ((i + 1 : Nat) : Int)) = ((facN (i + 1) : Nat) : Int) := by
          rw [hm]; exact wrap64_in ⟨by omega, by omega⟩
        (conv => whnf)
        (repeat' ((first | refine ord_ok (by (conv => whnf); (repeat' ((first | refine int_to hw ?_ | refine ify ?_ | refine ifn ?_ | refine i6 ?_ | refine ati ?_ | refine mst ?_ | refine rmd ?_ | refine ibo (fun _ => ?_) (fun _ => ?_)) <;> conv => whnf)); (all_goals (repeat' (first | exact trivial | exact rfl | refine And.intro ?_ ?_)))) ?_ | refine int_to hw ?_ | refine ify ?_ | refine ifn ?_ | refine i6 ?_ | refine ati ?_ | refine mst ?_ | refine rmd ?_ | refine ibo (fun _ => ?_) (fun _ => ?_)) <;> conv => whnf))
        exact ⟨i + 1, _, _, by omega, .refl _ _, ⟨int_is (by omega), rfl, rfl, rfl, rfl, rfl, rfl, trivial⟩, ⟨rfl, rfl, trivial⟩, by omega⟩
      · have hfi : facN i = facN p.labels.length := by
          have hi2 : i = p.labels.length ∨ (i = 1 ∧ p.labels.length = 0) := by omega
          rcases hi2 with rfl | ⟨rfl, h0⟩
          · rfl
          · rw [h0]; rfl
        have hfp := facN_pos p.labels.length
        have hfl := facN_le p.labels.length (by omega)
        obtain ⟨r, hr⟩ := Int.eq_ofNat_of_zero_le ha.1
        subst hr
        obtain ⟨r2, hr2⟩ := Int.eq_ofNat_of_zero_le ha2.1
        subst hr2
        have hpf : ∀ r : Nat, Sx.Pure C3 23 [.int .i64 ((p.labels.map dI).length : Nat), .int .i64 ((r : Int).tmod (facN i : Int))] (fun y => ∃ b, IsOrd p.labels.length b ∧ y = .tuple [dIs b, .nili]) := fun r => by
          rw [hfi, Int.tmod_eq_emod_of_nonneg (by omega), ← Int.natCast_emod, hdl]
          exact Pure.up3 (permof_pure _ _ (by omega) (Nat.mod_lt r hfp))
        have f1 := Pure.up3 (form_pure p hp (by omega))
        (conv => whnf)
        (repeat' ((first | refine ord_ok (by (conv => whnf); (repeat' ((first | refine call_eq rfl f1 ?_ | refine ify ?_ | refine ifn ?_ | refine i6 ?_ | refine ati ?_ | refine mst ?_ | refine rmd ?_ | refine ibo (fun _ => ?_) (fun _ => ?_)) <;> conv => whnf)); (all_goals (repeat' (first | exact trivial | exact rfl | refine And.intro ?_ ?_)))) ?_ | refine call_eq rfl f1 ?_ | refine ify ?_ | refine ifn ?_ | refine i6 ?_ | refine ati ?_ | refine mst ?_ | refine rmd ?_ | refine ibo (fun _ => ?_) (fun _ => ?_)) <;> conv => whnf))
        refine call_pure rfl (hpf r) ?_; rintro y ⟨b, hb, rfl⟩
        ((conv => whnf); repeat' ((first | refine odw ?_ | refine ify ?_ | refine ifn ?_ | refine i6 ?_ | refine ati ?_ | refine mst ?_ | refine rmd ?_ | refine ibo (fun _ => ?_) (fun _ => ?_)) <;> conv => whnf))
        refine call_pure rfl (hpf r2) ?_; rintro y ⟨d, hd, rfl⟩
        have hu := pErr_turn hp hb
        have hd' : IsOrd (turnP p b).labels.length d := by rw [turnP_len]; exact hd
        have hv := pErr_turn hu hd'
        have t1 := Pure.up3 (turn_by hp hb)
        have t2 := Pure.up3 (turn_by hu hd')
        have hfu : formP (turnP p b) = formP p := form_turn hpo hb
        have hfv : formP (turnP (turnP p b) d) = formP p := by rw [form_turn (pt_of hu) hd', hfu]
        obtain ⟨_, o1, e1, _, hleast⟩ := form_spec hpo
        have hF : pErr (formP p) = none := by rw [e1]; exact pErr_turn hp o1
        have hM : pErr (formP p2) = none := by
          obtain ⟨_, o2, e2, _⟩ := form_spec (pt_of hp2)
          rw [e2]; exact pErr_turn hp2 o2
        have k1 := (key_pure hp (by omega))
        have k2 := (key_pure hp2 (by omega))
        have k3 := (key_pure hv (by have := pt_edges hv; omega))
        rw [hfv] at k3
        have hle1 := hleast b hb
        have hle2 := hleast (thenL b d) (thenL_ord hb hd)
        rw [← turn_then hb hd hpo] at hle2
        have c1 := Pure.up3 (cmp_by hF hu)
        have c2 := Pure.up3 (cmp_by hF hv)
        have hak := Pure.up3 (alike_pure hp hp2 (by omega) (by omega))
        have his := Pure.up3 (is_pure hu (by have := pt_edges hu; omega))
        rw [hfu] at his
        have hz : (cmpP (formP p) (turnP p b) = 0 ∧ decide (formP p = turnP p b) = true) ∨ (cmpP (formP p) (turnP p b) ≠ 0 ∧ decide (formP p = turnP p b) = false) := by
          by_cases h : formP p = turnP p b
          · exact .inl ⟨(torP.eq0 _ _).2 h, decide_eq_true h⟩
          · exact .inr ⟨fun e => h ((torP.eq0 _ _).1 e), decide_eq_false h⟩
        have hk : (bs (patB (formP p)) = bs (patB (formP p2)) ∧ decide (formP p = formP p2) = true) ∨ (bs (patB (formP p)) ≠ bs (patB (formP p2)) ∧ decide (formP p = formP p2) = false) := by
          by_cases h : formP p = formP p2
          · exact .inl ⟨by rw [h], decide_eq_true h⟩
          · exact .inr ⟨fun e => h (patB_inj (pt_nat hF) (pt_nat hM) (bs_inj e)), decide_eq_false h⟩
        generalize decide (formP p = turnP p b) = z9 at hz his
        generalize decide (formP p = formP p2) = z8 at hk hak
        generalize cmpP (formP p) (turnP p b) = z1 at hz c1 hle1
        generalize cmpP (formP p) (turnP (turnP p b) d) = z2 at c2 hle2
        generalize bs (patB (formP p)) = K1 at k1 k3 hk
        generalize bs (patB (formP p2)) = K2 at k2 hk
        generalize turnP (turnP p b) d = V at t2 k3 c2
        generalize turnP p b = U at t1 t2 c1 his
        generalize formP p = F at f1 c1 c2
        clear hof hof2 hal hsm hsm2 hpf e1
        rcases hk with ⟨rfl, rfl⟩ | ⟨hk, rfl⟩ <;> rcases hz with ⟨rfl, rfl⟩ | ⟨hz, rfl⟩
        · ((conv => whnf); repeat' ((first | refine odw ?_ | refine ify ?_ | refine ifn ?_ | refine i6 ?_ | refine ati ?_ | refine mst ?_ | refine rmd ?_ | refine ibo (fun _ => ?_) (fun _ => ?_)) <;> conv => whnf))
          (repeat' ((first | refine ord_ok (by (conv => whnf); (repeat' ((first | refine if_yes (Iff.intro (fun _ => rfl) (fun _ => rfl)) ?_ | refine call_eq rfl t1 ?_ | refine call_eq rfl t2 ?_ | refine call_eq rfl k1 ?_ | refine call_eq rfl k2 ?_ | refine call_eq rfl k3 ?_ | refine call_eq rfl c1 ?_ | refine call_eq rfl c2 ?_ | refine call_eq rfl hak ?_ | refine call_eq rfl his ?_ | refine ify ?_ | refine ifn ?_ | refine i6 ?_ | refine ati ?_ | refine mst ?_ | refine rmd ?_ | refine ibo (fun _ => ?_) (fun _ => ?_)) <;> conv => whnf)); (all_goals (repeat' (first | exact trivial | exact rfl | refine And.intro ?_ ?_)))) ?_ | refine if_yes (Iff.intro (fun _ => rfl) (fun _ => rfl)) ?_ | refine call_eq rfl t1 ?_ | refine call_eq rfl t2 ?_ | refine call_eq rfl k1 ?_ | refine call_eq rfl k2 ?_ | refine call_eq rfl k3 ?_ | refine call_eq rfl c1 ?_ | refine call_eq rfl c2 ?_ | refine call_eq rfl hak ?_ | refine call_eq rfl his ?_ | refine ify ?_ | refine ifn ?_ | refine i6 ?_ | refine ati ?_ | refine mst ?_ | refine rmd ?_ | refine ibo (fun _ => ?_) (fun _ => ?_)) <;> conv => whnf))
          first | exact congrArg Da.bool (decide_eq_true (Iff.intro (fun _ => rfl) (fun _ => rfl)))
        · ((conv => whnf); repeat' ((first | refine odw ?_ | refine ify ?_ | refine ifn ?_ | refine i6 ?_ | refine ati ?_ | refine mst ?_ | refine rmd ?_ | refine ibo (fun _ => ?_) (fun _ => ?_)) <;> conv => whnf))
          (repeat' ((first | refine ord_ok (by (conv => whnf); (repeat' ((first | refine if_yes (Iff.intro (fun _ => rfl) (fun _ => rfl)) ?_ | refine call_eq rfl t1 ?_ | refine call_eq rfl t2 ?_ | refine call_eq rfl k1 ?_ | refine call_eq rfl k2 ?_ | refine call_eq rfl k3 ?_ | refine call_eq rfl c1 ?_ | refine call_eq rfl c2 ?_ | refine call_eq rfl hak ?_ | refine call_eq rfl his ?_ | refine ify ?_ | refine ifn ?_ | refine i6 ?_ | refine ati ?_ | refine mst ?_ | refine rmd ?_ | refine ibo (fun _ => ?_) (fun _ => ?_)) <;> conv => whnf)); (all_goals (repeat' (first | exact trivial | exact rfl | refine And.intro ?_ ?_)))) ?_ | refine if_yes (Iff.intro (fun _ => rfl) (fun _ => rfl)) ?_ | refine call_eq rfl t1 ?_ | refine call_eq rfl t2 ?_ | refine call_eq rfl k1 ?_ | refine call_eq rfl k2 ?_ | refine call_eq rfl k3 ?_ | refine call_eq rfl c1 ?_ | refine call_eq rfl c2 ?_ | refine call_eq rfl hak ?_ | refine call_eq rfl his ?_ | refine ify ?_ | refine ifn ?_ | refine i6 ?_ | refine ati ?_ | refine mst ?_ | refine rmd ?_ | refine ibo (fun _ => ?_) (fun _ => ?_)) <;> conv => whnf))
          first | exact congrArg Da.bool (decide_eq_true (Iff.intro (fun h => by cases h) (fun h => absurd h hz))) | exact congrArg Da.bool (decide_eq_true (Iff.intro (fun h => absurd h hz) (fun h => by cases h)))
        · ((conv => whnf); repeat' ((first | refine odw ?_ | refine ify ?_ | refine ifn ?_ | refine i6 ?_ | refine ati ?_ | refine mst ?_ | refine rmd ?_ | refine ibo (fun _ => ?_) (fun _ => ?_)) <;> conv => whnf))
          (repeat' ((first | refine ord_ok (by (conv => whnf); (repeat' ((first | refine if_yes (Iff.intro (fun h => absurd h hk) (fun h => by cases h)) ?_ | refine if_yes (Iff.intro (fun h => by cases h) (fun h => absurd h hk)) ?_ | refine call_eq rfl t1 ?_ | refine call_eq rfl t2 ?_ | refine call_eq rfl k1 ?_ | refine call_eq rfl k2 ?_ | refine call_eq rfl k3 ?_ | refine call_eq rfl c1 ?_ | refine call_eq rfl c2 ?_ | refine call_eq rfl hak ?_ | refine call_eq rfl his ?_ | refine ify ?_ | refine ifn ?_ | refine i6 ?_ | refine ati ?_ | refine mst ?_ | refine rmd ?_ | refine ibo (fun _ => ?_) (fun _ => ?_)) <;> conv => whnf)); (all_goals (repeat' (first | exact trivial | exact rfl | refine And.intro ?_ ?_)))) ?_ | refine if_yes (Iff.intro (fun h => absurd h hk) (fun h => by cases h)) ?_ | refine if_yes (Iff.intro (fun h => by cases h) (fun h => absurd h hk)) ?_ | refine call_eq rfl t1 ?_ | refine call_eq rfl t2 ?_ | refine call_eq rfl k1 ?_ | refine call_eq rfl k2 ?_ | refine call_eq rfl k3 ?_ | refine call_eq rfl c1 ?_ | refine call_eq rfl c2 ?_ | refine call_eq rfl hak ?_ | refine call_eq rfl his ?_ | refine ify ?_ | refine ifn ?_ | refine i6 ?_ | refine ati ?_ | refine mst ?_ | refine rmd ?_ | refine ibo (fun _ => ?_) (fun _ => ?_)) <;> conv => whnf))
          first | exact congrArg Da.bool (decide_eq_true (Iff.intro (fun _ => rfl) (fun _ => rfl)))
        · ((conv => whnf); repeat' ((first | refine odw ?_ | refine ify ?_ | refine ifn ?_ | refine i6 ?_ | refine ati ?_ | refine mst ?_ | refine rmd ?_ | refine ibo (fun _ => ?_) (fun _ => ?_)) <;> conv => whnf))
          (repeat' ((first | refine ord_ok (by (conv => whnf); (repeat' ((first | refine if_yes (Iff.intro (fun h => absurd h hk) (fun h => by cases h)) ?_ | refine if_yes (Iff.intro (fun h => by cases h) (fun h => absurd h hk)) ?_ | refine call_eq rfl t1 ?_ | refine call_eq rfl t2 ?_ | refine call_eq rfl k1 ?_ | refine call_eq rfl k2 ?_ | refine call_eq rfl k3 ?_ | refine call_eq rfl c1 ?_ | refine call_eq rfl c2 ?_ | refine call_eq rfl hak ?_ | refine call_eq rfl his ?_ | refine ify ?_ | refine ifn ?_ | refine i6 ?_ | refine ati ?_ | refine mst ?_ | refine rmd ?_ | refine ibo (fun _ => ?_) (fun _ => ?_)) <;> conv => whnf)); (all_goals (repeat' (first | exact trivial | exact rfl | refine And.intro ?_ ?_)))) ?_ | refine if_yes (Iff.intro (fun h => absurd h hk) (fun h => by cases h)) ?_ | refine if_yes (Iff.intro (fun h => by cases h) (fun h => absurd h hk)) ?_ | refine call_eq rfl t1 ?_ | refine call_eq rfl t2 ?_ | refine call_eq rfl k1 ?_ | refine call_eq rfl k2 ?_ | refine call_eq rfl k3 ?_ | refine call_eq rfl c1 ?_ | refine call_eq rfl c2 ?_ | refine call_eq rfl hak ?_ | refine call_eq rfl his ?_ | refine ify ?_ | refine ifn ?_ | refine i6 ?_ | refine ati ?_ | refine mst ?_ | refine rmd ?_ | refine ibo (fun _ => ?_) (fun _ => ?_)) <;> conv => whnf))
          first | exact congrArg Da.bool (decide_eq_true (Iff.intro (fun h => by cases h) (fun h => absurd h hz))) | exact congrArg Da.bool (decide_eq_true (Iff.intro (fun h => absurd h hz) (fun h => by cases h)))
    · rw [decide_eq_true hs] at hsm
      rw [decide_eq_false hs2] at hsm2
      (conv => whnf)
      (repeat' ((first | refine ord_ok (by (conv => whnf); (repeat' ((first | refine call_eq rfl hal ?_ | refine call_eq rfl hsm ?_ | refine call_eq rfl hsm2 ?_ | refine ify ?_ | refine ifn ?_ | refine i6 ?_ | refine ati ?_ | refine mst ?_ | refine rmd ?_ | refine ibo (fun _ => ?_) (fun _ => ?_)) <;> conv => whnf)); (all_goals (repeat' (first | exact trivial | exact rfl | refine And.intro ?_ ?_)))) ?_ | refine call_eq rfl hal ?_ | refine call_eq rfl hsm ?_ | refine call_eq rfl hsm2 ?_ | refine ify ?_ | refine ifn ?_ | refine i6 ?_ | refine ati ?_ | refine mst ?_ | refine rmd ?_ | refine ibo (fun _ => ?_) (fun _ => ?_)) <;> conv => whnf))
      exact rfl
  · rw [decide_eq_false hs] at hsm
    (conv => whnf)
    (repeat' ((first | refine ord_ok (by (conv => whnf); (repeat' ((first | refine call_eq rfl hal ?_ | refine call_eq rfl hsm ?_ | refine ify ?_ | refine ifn ?_ | refine i6 ?_ | refine ati ?_ | refine mst ?_ | refine rmd ?_ | refine ibo (fun _ => ?_) (fun _ => ?_)) <;> conv => whnf)); (all_goals (repeat' (first | exact trivial | exact rfl | refine And.intro ?_ ?_)))) ?_ | refine call_eq rfl hal ?_ | refine call_eq rfl hsm ?_ | refine ify ?_ | refine ifn ?_ | refine i6 ?_ | refine ati ?_ | refine mst ?_ | refine rmd ?_ | refine ibo (fun _ => ?_) (fun _ => ?_)) <;> conv => whnf))
    exact rfl
end Go.Proofs.YthegabgbakckfaaGreatDoor
