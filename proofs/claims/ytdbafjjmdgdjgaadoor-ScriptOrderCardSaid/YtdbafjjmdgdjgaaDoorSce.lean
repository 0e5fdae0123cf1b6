/- ref25: Parse. -/
import Derived.Test.YtdbafjjmdgdjgaaDoorScd
namespace Go.Sx
open Go Go.Gr
theorem at_bs {l : List UInt8} {j : Nat} {c : UInt8} {n : Int} {K : (j : Nat) → j < (bs l).size → Prop} (hc : l[j]? = some c) (hn : n = j) (hK : ∀ h : j < (bs l).size, ((bs l)[j]'h) = c → K j h) : ∃ j : Nat, n = j ∧ ∃ h : j < (bs l).size, K j h := by
  obtain ⟨h1, h2⟩ := List.getElem?_eq_some_iff.1 hc
  have h3 : j < (bs l).size := by rw [bs_size]; exact h1
  refine ⟨j, hn, h3, hK h3 ?_⟩
  show (bs l).data[j] = c
  simpa [bs] using h2
end Go.Sx
namespace Go.Proofs.YtdbafjjmdgdjgaaDoor
open Go.Sx Go.RowKit Go.Reg Go.Gr
variable {X : LayG}

set_option maxRecDepth 100000
def outO (i : Nat) : Option (Nat × Nat) → List (Nat × Nat)
  | none => []
  | some p => if p.1 < i then [p] else []
def hitO (i : Nat) : Option (Nat × Nat) → Bool
  | none => false
  | some p => decide (p.1 < i)
/-- a text's beginning: a line with its end, or a rest without one -/
theorem pars_case {r : List UInt8} {l : List (Nat × Nat)} {ok : Bool} (h : Pars r l ok) : (r = [] ∧ l = [] ∧ ok = true) ∨ (r ≠ [] ∧ 10 ∉ r ∧ l = [] ∧ ok = false) ∨
    ∃ b r2 o, 10 ∉ b ∧ r = b ++ 10 :: r2 ∧ (∀ p, IsAct b p ↔ o = some p) ∧ ((o = none ∧ l = [] ∧ ok = false) ∨ ∃ p l2, o = some p ∧ Pars r2 l2 ok ∧ l = p :: l2) := by
  cases h with
  | nil => exact .inl ⟨rfl, rfl, rfl⟩
  | @line b p r2 l2 _ ha hr => exact .inr (.inr ⟨b, r2, some p, isAct_no ha, rfl, fun q => ⟨fun h => by rw [isAct_uniq ha h], fun h => by cases h; exact ha⟩, .inr ⟨p, l2, rfl, hr, rfl⟩⟩)
  | @bad b r2 hb hn => exact .inr (.inr ⟨b, r2, none, hb, rfl, fun q => ⟨fun h => absurd h (hn q), fun h => by cases h⟩, .inl ⟨rfl, rfl, rfl⟩⟩)
  | last hb hne => exact .inr (.inl ⟨hne, hb, rfl, rfl⟩)
/-- which kind's line it is -/
theorem kind_iff {b t : List UInt8} {o : Option (Nat × Nat)} (ho : ∀ p, IsAct b p ↔ o = some p) (ht : Tl b t) {i : Nat} (hi : i < 6) : (bs (lnB i (if i < 4 then val t else 0) ++ [10]) = bs (b ++ [10])) ↔ o = some (i, if i < 4 then val t else 0) := by
  constructor
  · intro h
    have := List.append_cancel_right (bs_inj h)
    exact (ho _).1 (isAct_of hi ht this)
  · intro h
    have := (ho _).2 h
    rw [this.2]
theorem kind_of {b t : List UInt8} {o : Option (Nat × Nat)} (ho : ∀ p, IsAct b p ↔ o = some p) (ht : Tl b t) {p : Nat × Nat} (h : o = some p) : p = (p.1, if p.1 < 4 then val t else 0) := isAct_kind ((ho p).2 h) ht
theorem out_step {o : Option (Nat × Nat)} {i n : Nat} (h : o = some (i, n)) : outO i o = [] ∧ hitO i o = false ∧ outO (i + 1) o = [(i, n)] ∧ hitO (i + 1) o = true := by subst h; simp [outO, hitO]
theorem out_keep {o : Option (Nat × Nat)} {i : Nat} (h : ∀ n, o ≠ some (i, n)) : outO (i + 1) o = outO i o ∧ hitO (i + 1) o = hitO i o := by
  cases o with
  | none => exact ⟨rfl, rfl⟩
  | some p =>
    obtain ⟨k, n⟩ := p
    have : k ≠ i := fun e => h n (by rw [e])
    by_cases h1 : k < i
    · simp [outO, hitO, h1, Nat.lt_succ_of_lt h1]
    · have h2 : ¬ k < i + 1 := by omega
      simp [outO, hitO, h1, h2]
def rparseY (l : List (Nat × Nat)) (ok : Bool) : Da := if ok then .tuple [dPs l, .int .i64 (-1)] else .tuple [.nils, .int .i64 l.length]
theorem outO_len (i : Nat) (o : Option (Nat × Nat)) : (outO i o).length ≤ 1 := by
  cases o with
  | none => exact Nat.zero_le _
  | some p =>
    show (if p.1 < i then [p] else []).length ≤ 1
    split <;> simp
def pl_srp : List (Nat × Plan) := []
def G_srp : List FuncId := []
theorem cok_srp : codeOk Tryd.prog G_srp pl_srp (Tryd.f9.body.getD .skip) = true := by kernel_rfl
theorem run_srp (vs : Array Value) (w : World) : (callFunc 9 vs).run (C2 X).P w = .ok (.enter 9 vs) w := by kernel_rfl
set_option maxHeartbeats 8000000 in
theorem rparse_pure (s : List UInt8) (hs : s.length ≤ 200000) {l : List (Nat × Nat)} {ok : Bool} (h : Pars s l ok) : Pure (C2 X) 9 [.str (bs s)] (fun y => y = rparseY l ok) := by
  have hz := bs_size s
  refine pure_of (c2_ok X) (pl := pl_srp) (G := G_srp) Tryd.func9 rfl Tryd.ntmps9 run_srp cok_srp (by simp) ?_
  ((conv => whnf); repeat' ((first | refine odw ?_ | refine ify ?_ | refine ifn ?_ | refine i6 ?_ | refine ati ?_ | refine mst ?_ | refine rmd ?_ | refine ibo (fun _ => ?_) (fun _ => ?_)) <;> conv => whnf))
  refine loop_lo (ι := List (Nat × Nat) × List UInt8 × List UInt8) (fun x => ∃ l', s = x.2.1 ++ x.2.2 ∧ Pars x.2.2 l' ok ∧ l = x.1 ++ l' ∧ x.1.length ≤ x.2.1.length) (fun x => [(5, .d (.int .i64 x.2.1.length)), (4, .own 300), (0, .d (.str (bs s)))]) (fun x => [(300, .slice 35 2 (x.1.map dP))]) (fun x => x.2.2.length) ([], [], s) (fun _ => rfl) ⟨l, rfl, h, rfl, by simp⟩ (.own 4 300 35 2 rfl rfl (.refl _ _)) ⟨rfl, rfl, rfl, trivial⟩ ⟨rfl, trivial⟩ ?_
  rintro ⟨d, pre, r⟩ ⟨l', hsp, hp, hl, hlen⟩
  simp only at hp hl hlen hsp
  have hdl : (d.map dP).length = d.length := List.length_map _
  have hsl := congrArg List.length hsp
  rw [List.length_append] at hsl
  show CodeSem (C2 X) _ _ _ [(5, .d (.int .i64 pre.length)), (4, .own 300), (0, .d (.str (bs s)))] [(300, .slice 35 2 (d.map dP))]
  refine sxCode_sound (c2_ok X) (G := G_srp) (pl := pl_srp) _ _ _ _ (by kernel_rfl) ?_
  rcases pars_case hp with ⟨rfl, rfl, rfl⟩ | ⟨hne, hno, rfl, rfl⟩ | ⟨b, r2, o, hno, rfl, ho, hfin⟩
  · rw [List.length_nil] at hsl
    ((conv => whnf); repeat' ((first | refine odw ?_ | refine ify ?_ | refine ifn ?_ | refine i6 ?_ | refine ati ?_ | refine mst ?_ | refine rmd ?_ | refine ibo (fun _ => ?_) (fun _ => ?_)) <;> conv => whnf))
    subst hl
    rw [List.append_nil]
    exact rfl
  · have hr0 : 0 < r.length := List.length_pos_iff.2 hne
    ((conv => whnf); repeat' ((first | refine odw ?_ | refine ify ?_ | refine ifn ?_ | refine i6 ?_ | refine ati ?_ | refine mst ?_ | refine rmd ?_ | refine ibo (fun _ => ?_) (fun _ => ?_)) <;> conv => whnf))
    refine loop_lo (ι := Nat) (fun j => j ≤ r.length) (fun j => [(6, .d (.int .i64 (pre.length + j : Nat))), (5, .d (.int .i64 pre.length)), (4, .own 300), (0, .d (.str (bs s)))]) (fun _ => [(300, .slice 35 2 (d.map dP))]) (fun j => r.length - j) 0 (fun _ => rfl) (Nat.zero_le _) (.refl _ _) ⟨rfl, rfl, rfl, rfl, trivial⟩ ⟨rfl, trivial⟩ ?_
    intro j hj
    refine sxCode_sound (c2_ok X) (G := G_srp) (pl := pl_srp) _ _ _ _ (by kernel_rfl) ?_
    by_cases hjl : j < r.length
    · have hx := List.getElem?_eq_getElem hjl
      have hc10 : r[j] ≠ 10 := fun e => hno (e ▸ List.getElem_mem hjl)
      generalize r[j] = c at hx hc10
      have hcn : (c.toNat : Int) ≠ 10 := fun e => hc10 (UInt8.toNat_inj.1 (by rw [show (10 : UInt8).toNat = 10 from rfl]; omega))
      have hxs : s[pre.length + j]? = some c := by rw [hsp, List.getElem?_append_right (by omega), Nat.add_sub_cancel_left]; exact hx
      ((conv => whnf); repeat' ((first | refine odw ?_ | refine ify ?_ | refine ifn ?_ | refine i6 ?_ | refine ati ?_ | refine mst ?_ | refine rmd ?_ | refine ibo (fun _ => ?_) (fun _ => ?_)) <;> conv => whnf))
      refine at_bs hxs (by omega) fun h e => ?_
      rw [e]
      ((conv => whnf); repeat' ((first | refine odw ?_ | refine ify ?_ | refine ifn ?_ | refine i6 ?_ | refine ati ?_ | refine mst ?_ | refine rmd ?_ | refine ibo (fun _ => ?_) (fun _ => ?_)) <;> conv => whnf))
      exact ⟨j + 1, _, _, hjl, .refl _ _, ⟨rfl, rfl, rfl, rfl, trivial⟩, ⟨rfl, trivial⟩, by omega⟩
    · ((conv => whnf); repeat' ((first | refine odw ?_ | refine ify ?_ | refine ifn ?_ | refine i6 ?_ | refine ati ?_ | refine mst ?_ | refine rmd ?_ | refine ibo (fun _ => ?_) (fun _ => ?_)) <;> conv => whnf))
      subst hl
      rw [List.append_nil]
      show _ = Da.tuple [.nils, .int .i64 d.length]
      rw [← hdl]
      exact rfl
  · have hrl : (b ++ 10 :: r2).length = b.length + (r2.length + 1) := by rw [List.length_append, List.length_cons]
    have hx10 : s[pre.length + b.length]? = some 10 := by rw [hsp, List.getElem?_append_right (by omega), Nat.add_sub_cancel_left, List.getElem?_append_right (by omega), Nat.sub_self]; rfl
    have hcutl : (bs s).extract pre.length (pre.length + b.length + 1) = bs (b ++ [10]) := by
      rw [bs_cut, hsp]
      congr 1
      rw [List.drop_take, Nat.add_assoc, Nat.add_sub_cancel_left, List.drop_left, show b ++ 10 :: r2 = (b ++ [10]) ++ r2 by simp]
      exact List.take_left' (by simp)
    have hlz : (bs (b ++ [10])).size = b.length + 1 := by rw [bs_size]; simp
    have hit0 : hitO 0 o = false := by cases o <;> rfl
    have out0 : outO 0 o = [] := by cases o <;> rfl
    ((conv => whnf); repeat' ((first | refine odw ?_ | refine ify ?_ | refine ifn ?_ | refine i6 ?_ | refine ati ?_ | refine mst ?_ | refine rmd ?_ | refine ibo (fun _ => ?_) (fun _ => ?_)) <;> conv => whnf))
    refine loop_lo (ι := Nat) (fun j => j ≤ b.length) (fun j => [(6, .d (.int .i64 (pre.length + j : Nat))), (5, .d (.int .i64 pre.length)), (4, .own 300), (0, .d (.str (bs s)))]) (fun _ => [(300, .slice 35 2 (d.map dP))]) (fun j => b.length - j) 0 (fun _ => rfl) (Nat.zero_le _) (.refl _ _) ⟨rfl, rfl, rfl, rfl, trivial⟩ ⟨rfl, trivial⟩ ?_
    intro j hj
    refine sxCode_sound (c2_ok X) (G := G_srp) (pl := pl_srp) _ _ _ _ (by kernel_rfl) ?_
    by_cases hjl : j < b.length
    · have hx := List.getElem?_eq_getElem hjl
      have hc10 : b[j] ≠ 10 := fun e => hno (e ▸ List.getElem_mem hjl)
      have hxs : s[pre.length + j]? = some b[j] := by rw [hsp, List.getElem?_append_right (by omega), Nat.add_sub_cancel_left, List.getElem?_append_left hjl]; exact hx
      generalize b[j] = c at hxs hc10
      have hcn : (c.toNat : Int) ≠ 10 := fun e => hc10 (UInt8.toNat_inj.1 (by rw [show (10 : UInt8).toNat = 10 from rfl]; omega))
      ((conv => whnf); repeat' ((first | refine odw ?_ | refine ify ?_ | refine ifn ?_ | refine i6 ?_ | refine ati ?_ | refine mst ?_ | refine rmd ?_ | refine ibo (fun _ => ?_) (fun _ => ?_)) <;> conv => whnf))
      refine at_bs hxs (by omega) fun h e => ?_
      rw [e]
      ((conv => whnf); repeat' ((first | refine odw ?_ | refine ify ?_ | refine ifn ?_ | refine i6 ?_ | refine ati ?_ | refine mst ?_ | refine rmd ?_ | refine ibo (fun _ => ?_) (fun _ => ?_)) <;> conv => whnf))
      exact ⟨j + 1, _, _, hjl, .refl _ _, ⟨rfl, rfl, rfl, rfl, trivial⟩, ⟨rfl, trivial⟩, by omega⟩
    · have hje : j = b.length := by omega
      subst hje
      ((conv => whnf); repeat' ((first | refine odw ?_ | refine ify ?_ | refine ifn ?_ | refine i6 ?_ | refine ati ?_ | refine mst ?_ | refine rmd ?_ | refine ibo (fun _ => ?_) (fun _ => ?_)) <;> conv => whnf))
      refine at_bs hx10 (by omega) fun h e => ?_
      rw [e]
      ((conv => whnf); repeat' ((first | refine odw ?_ | refine ify ?_ | refine ifn ?_ | refine i6 ?_ | refine ati ?_ | refine mst ?_ | refine rmd ?_ | refine ibo (fun _ => ?_) (fun _ => ?_)) <;> conv => whnf))
      refine op_strSl pre.length (pre.length + b.length + 1) (c2_ok X) rfl rfl rfl rfl ⟨_, rfl, rfl⟩ ⟨_, rfl, by omega⟩ (by omega) (by omega) rfl rfl ?_
      rw [hcutl]
      ((conv => whnf); repeat' ((first | refine odw ?_ | refine ify ?_ | refine ifn ?_ | refine i6 ?_ | refine ati ?_ | refine mst ?_ | refine rmd ?_ | refine ibo (fun _ => ?_) (fun _ => ?_)) <;> conv => whnf))
      refine loop_lo (ι := List UInt8 × List UInt8) (fun x => b = x.1 ++ x.2 ∧ (∀ c ∈ x.2, isD c) ∧ x.2.length ≤ 6) (fun x => [(11, .d (.int .i64 (10 ^ x.2.length : Nat))), (10, .d (.int .i64 x.1.length)), (9, .d (.int .i64 (val x.2))), (8, .d (.bool false)), (7, .d (.str (bs (b ++ [10])))), (6, .d (.int .i64 (pre.length + b.length : Nat))), (4, .own 300), (0, .d (.str (bs s)))]) (fun _ => [(300, .slice 35 2 (d.map dP))]) (fun x => x.1.length) (b, []) (fun _ => rfl) ⟨by simp, (fun c hc => (List.not_mem_nil hc).elim), Nat.zero_le _⟩ (.refl _ _) ⟨rfl, int_is (by simp only; omega), rfl, rfl, rfl, rfl, rfl, rfl, trivial⟩ ⟨rfl, trivial⟩ ?_
      rintro ⟨f, t⟩ ⟨hft, hd, ht6⟩
      simp only at hft hd ht6
      have hfl := congrArg List.length hft
      rw [List.length_append] at hfl
      have hp6 := pow6 ht6
      have hvl0 := val_lt hd
      show CodeSem (C2 X) _ _ _ [(11, .d (.int .i64 (10 ^ t.length : Nat))), (10, .d (.int .i64 f.length)), (9, .d (.int .i64 (val t))), (8, .d (.bool false)), (7, .d (.str (bs (b ++ [10])))), (6, .d (.int .i64 (pre.length + b.length : Nat))), (4, .own 300), (0, .d (.str (bs s)))] [(300, .slice 35 2 (d.map dP))]
      refine sxCode_sound (c2_ok X) (G := G_srp) (pl := pl_srp) _ _ _ _ (by kernel_rfl) ?_
      rcases List.eq_nil_or_concat f with rfl | ⟨g, c, rfl⟩
      · have hTl : Tl b t := ⟨[], hft, hd, ht6, .inr (.inl rfl)⟩
        rw [List.length_nil] at hfl ⊢
        ((conv => whnf); repeat' ((first | refine odw ?_ | refine ify ?_ | refine ifn ?_ | refine i6 ?_ | refine ati ?_ | refine mst ?_ | refine rmd ?_ | refine ibo (fun _ => ?_) (fun _ => ?_)) <;> conv => whnf))
        have hm := hTl
        have hvl : val t ≤ 999999 := val6 hd ht6
        refine loop_lo (ι := Nat) (fun i => i ≤ 6) (fun i => [(12, .d (.int .i64 i)), (9, .d (.int .i64 (val t))), (8, .d (.bool (hitO i o))), (7, .d (.str (bs (b ++ [10])))), (6, .d (.int .i64 (pre.length + b.length : Nat))), (4, .own 300), (0, .d (.str (bs s)))]) (fun i => [(300, .slice 35 2 ((d ++ outO i o).map dP))]) (fun i => 6 - i) 0 (fun _ => rfl) (Nat.zero_le _) (.refl _ _) ⟨rfl, rfl, by rw [hit0]; rfl, rfl, rfl, rfl, rfl, trivial⟩ ⟨by rw [out0, List.append_nil]; rfl, trivial⟩ ?_
        intro i hi
        have hol := outO_len i o
        have hdol : ((d ++ outO i o).map dP).length = d.length + (outO i o).length := by rw [List.length_map, List.length_append]
        refine sxCode_sound (c2_ok X) (G := G_srp) (pl := pl_srp) _ _ _ _ (by kernel_rfl) ?_
        by_cases hi6 : i < 6
        · by_cases he : o = some (i, if i < 4 then val t else 0)
          · obtain ⟨o1, o2, o3, o4⟩ := out_step he
            have hb2 := (kind_iff ho hTl hi6).2 he
            rw [o1, List.append_nil, o2]
            by_cases hi4 : i < 4
            · rw [if_pos hi4] at hb2 o3
              have hln := Pure.up (X := X) (rline_pure i (val t) hi6 hvl)
              rw [hb2] at hln
              (conv => whnf)
              (repeat' ((first | refine ord_ok (by (conv => whnf); (repeat' ((first | refine call_eq rfl hln ?_ | refine ify ?_ | refine ifn ?_ | refine i6 ?_ | refine ati ?_ | refine mst ?_ | refine rmd ?_ | refine ibo (fun _ => ?_) (fun _ => ?_)) <;> conv => whnf)); (all_goals (repeat' (first | exact trivial | exact rfl | refine And.intro ?_ ?_)))) ?_ | refine call_eq rfl hln ?_ | refine ify ?_ | refine ifn ?_ | refine i6 ?_ | refine ati ?_ | refine mst ?_ | refine rmd ?_ | refine ibo (fun _ => ?_) (fun _ => ?_)) <;> conv => whnf))
              refine ⟨i + 1, _, _, by omega, .refl _ _, ⟨rfl, rfl, by rw [o4]; rfl, rfl, rfl, rfl, rfl, trivial⟩, ⟨?_, trivial⟩, by omega⟩
              refine slice_is ?_
              rw [o3]; simp [dP]
            · rw [if_neg hi4] at hb2 o3
              have hln := Pure.up (X := X) (rline_pure i 0 hi6 (by omega))
              rw [hb2] at hln
              (conv => whnf)
              (repeat' ((first | refine ord_ok (by (conv => whnf); (repeat' ((first | refine call_eq rfl hln ?_ | refine ify ?_ | refine ifn ?_ | refine i6 ?_ | refine ati ?_ | refine mst ?_ | refine rmd ?_ | refine ibo (fun _ => ?_) (fun _ => ?_)) <;> conv => whnf)); (all_goals (repeat' (first | exact trivial | exact rfl | refine And.intro ?_ ?_)))) ?_ | refine call_eq rfl hln ?_ | refine ify ?_ | refine ifn ?_ | refine i6 ?_ | refine ati ?_ | refine mst ?_ | refine rmd ?_ | refine ibo (fun _ => ?_) (fun _ => ?_)) <;> conv => whnf))
              refine ⟨i + 1, _, _, by omega, .refl _ _, ⟨rfl, rfl, by rw [o4]; rfl, rfl, rfl, rfl, rfl, trivial⟩, ⟨?_, trivial⟩, by omega⟩
              refine slice_is ?_
              rw [o3]; simp [dP]
          · have hb2 := fun h => he ((kind_iff ho hTl hi6).1 h)
            obtain ⟨o1, o2⟩ := out_keep (o := o) (i := i) (fun n hn => he (by have := kind_of ho hTl hn; rw [hn]; exact congrArg some this))
            by_cases hi4 : i < 4
            · rw [if_pos hi4] at hb2
              have hln := Pure.up (X := X) (rline_pure i (val t) hi6 hvl)
              cases hh : hitO i o with
              | true =>
                ((conv => whnf); repeat' ((first | refine odw ?_ | refine ify ?_ | refine ifn ?_ | refine i6 ?_ | refine ati ?_ | refine mst ?_ | refine rmd ?_ | refine ibo (fun _ => ?_) (fun _ => ?_)) <;> conv => whnf))
                refine ⟨i + 1, _, _, by omega, .refl _ _, ⟨rfl, rfl, by rw [o2, hh]; rfl, rfl, rfl, rfl, rfl, trivial⟩, ⟨by rw [o1]; rfl, trivial⟩, by omega⟩
              | false =>
                (conv => whnf)
                (repeat' ((first | refine ord_ok (by (conv => whnf); (repeat' ((first | refine call_eq rfl hln ?_ | refine ify ?_ | refine ifn ?_ | refine i6 ?_ | refine ati ?_ | refine mst ?_ | refine rmd ?_ | refine ibo (fun _ => ?_) (fun _ => ?_)) <;> conv => whnf)); (all_goals (repeat' (first | exact trivial | exact rfl | refine And.intro ?_ ?_)))) ?_ | refine call_eq rfl hln ?_ | refine ify ?_ | refine ifn ?_ | refine i6 ?_ | refine ati ?_ | refine mst ?_ | refine rmd ?_ | refine ibo (fun _ => ?_) (fun _ => ?_)) <;> conv => whnf))
                refine ⟨i + 1, _, _, by omega, .refl _ _, ⟨rfl, rfl, by rw [o2, hh]; rfl, rfl, rfl, rfl, rfl, trivial⟩, ⟨by rw [o1]; rfl, trivial⟩, by omega⟩
            · rw [if_neg hi4] at hb2
              have hln := Pure.up (X := X) (rline_pure i 0 hi6 (by omega))
              cases hh : hitO i o with
              | true =>
                ((conv => whnf); repeat' ((first | refine odw ?_ | refine ify ?_ | refine ifn ?_ | refine i6 ?_ | refine ati ?_ | refine mst ?_ | refine rmd ?_ | refine ibo (fun _ => ?_) (fun _ => ?_)) <;> conv => whnf))
                refine ⟨i + 1, _, _, by omega, .refl _ _, ⟨rfl, rfl, by rw [o2, hh]; rfl, rfl, rfl, rfl, rfl, trivial⟩, ⟨by rw [o1]; rfl, trivial⟩, by omega⟩
              | false =>
                (conv => whnf)
                (repeat' ((first | refine ord_ok (by (conv => whnf); (repeat' ((first | refine call_eq rfl hln ?_ | refine ify ?_ | refine ifn ?_ | refine i6 ?_ | refine ati ?_ | refine mst ?_ | refine rmd ?_ | refine ibo (fun _ => ?_) (fun _ => ?_)) <;> conv => whnf)); (all_goals (repeat' (first | exact trivial | exact rfl | refine And.intro ?_ ?_)))) ?_ | refine call_eq rfl hln ?_ | refine ify ?_ | refine ifn ?_ | refine i6 ?_ | refine ati ?_ | refine mst ?_ | refine rmd ?_ | refine ibo (fun _ => ?_) (fun _ => ?_)) <;> conv => whnf))
                refine ⟨i + 1, _, _, by omega, .refl _ _, ⟨rfl, rfl, by rw [o2, hh]; rfl, rfl, rfl, rfl, rfl, trivial⟩, ⟨by rw [o1]; rfl, trivial⟩, by omega⟩
        · have hi6e : i = 6 := by omega
          subst hi6e
          rcases hfin with ⟨rfl, rfl, rfl⟩ | ⟨p, l2, rfl, hr2, rfl⟩
          · rw [show outO 6 none = [] from rfl, List.append_nil, show hitO 6 none = false from rfl]
            ((conv => whnf); repeat' ((first | refine odw ?_ | refine ify ?_ | refine ifn ?_ | refine i6 ?_ | refine ati ?_ | refine mst ?_ | refine rmd ?_ | refine ibo (fun _ => ?_) (fun _ => ?_)) <;> conv => whnf))
            subst hl
            rw [List.append_nil]
            show _ = Da.tuple [.nils, .int .i64 d.length]
            rw [← hdl]
            exact rfl
          · have hp6 := ((ho p).2 rfl).1.1
            rw [show outO 6 (some p) = [p] from if_pos hp6, show hitO 6 (some p) = true from decide_eq_true hp6]
            ((conv => whnf); repeat' ((first | refine odw ?_ | refine ify ?_ | refine ifn ?_ | refine i6 ?_ | refine ati ?_ | refine mst ?_ | refine rmd ?_ | refine ibo (fun _ => ?_) (fun _ => ?_)) <;> conv => whnf))
            refine ⟨(d ++ [p], pre ++ b ++ [10], r2), _, _, ⟨l2, by rw [hsp]; simp, hr2, by rw [hl]; simp, by simp only [List.length_append, List.length_singleton]; omega⟩, .refl _ _, ⟨?_, rfl, rfl, trivial⟩, ⟨rfl, trivial⟩, by simp only; omega⟩
            refine int_is ?_
            simp only [List.length_append, List.length_singleton]; omega
      · rw [List.concat_eq_append] at hft hfl ⊢
        have hgl : (g ++ [c]).length = g.length + 1 := by simp
        have hxb : (b ++ [10])[g.length]? = some c := by rw [hft]; simp
        rcases Nat.lt_or_ge c.toNat 48 with h48 | h48
        · have hTl : Tl b t := ⟨g ++ [c], hft, hd, ht6, .inr (.inr ⟨g, c, rfl, fun h => by have := h.1; omega⟩)⟩
          ((conv => whnf); repeat' ((first | refine odw ?_ | refine ify ?_ | refine ifn ?_ | refine i6 ?_ | refine ati ?_ | refine mst ?_ | refine rmd ?_ | refine ibo (fun _ => ?_) (fun _ => ?_)) <;> conv => whnf))
          refine at_bs hxb (by omega) fun h e => ?_
          rw [e]
          ((conv => whnf); repeat' ((first | refine odw ?_ | refine ify ?_ | refine ifn ?_ | refine i6 ?_ | refine ati ?_ | refine mst ?_ | refine rmd ?_ | refine ibo (fun _ => ?_) (fun _ => ?_)) <;> conv => whnf))
          have hm := hTl
          have hvl : val t ≤ 999999 := val6 hd ht6
          refine loop_lo (ι := Nat) (fun i => i ≤ 6) (fun i => [(12, .d (.int .i64 i)), (9, .d (.int .i64 (val t))), (8, .d (.bool (hitO i o))), (7, .d (.str (bs (b ++ [10])))), (6, .d (.int .i64 (pre.length + b.length : Nat))), (4, .own 300), (0, .d (.str (bs s)))]) (fun i => [(300, .slice 35 2 ((d ++ outO i o).map dP))]) (fun i => 6 - i) 0 (fun _ => rfl) (Nat.zero_le _) (.refl _ _) ⟨rfl, rfl, by rw [hit0]; rfl, rfl, rfl, rfl, rfl, trivial⟩ ⟨by rw [out0, List.append_nil]; rfl, trivial⟩ ?_
          intro i hi
          have hol := outO_len i o
          have hdol : ((d ++ outO i o).map dP).length = d.length + (outO i o).length := by rw [List.length_map, List.length_append]
          refine sxCode_sound (c2_ok X) (G := G_srp) (pl := pl_srp) _ _ _ _ (by kernel_rfl) ?_
          by_cases hi6 : i < 6
          · by_cases he : o = some (i, if i < 4 then val t else 0)
            · obtain ⟨o1, o2, o3, o4⟩ := out_step he
              have hb2 := (kind_iff ho hTl hi6).2 he
              rw [o1, List.append_nil, o2]
              by_cases hi4 : i < 4
              · rw [if_pos hi4] at hb2 o3
                have hln := Pure.up (X := X) (rline_pure i (val t) hi6 hvl)
                rw [hb2] at hln
                (conv => whnf)
                (repeat' ((first | refine ord_ok (by (conv => whnf); (repeat' ((first | refine call_eq rfl hln ?_ | refine ify ?_ | refine ifn ?_ | refine i6 ?_ | refine ati ?_ | refine mst ?_ | refine rmd ?_ | refine ibo (fun _ => ?_) (fun _ => ?_)) <;> conv => whnf)); (all_goals (repeat' (first | exact trivial | exact rfl | refine And.intro ?_ ?_)))) ?_ | refine call_eq rfl hln ?_ | refine ify ?_ | refine ifn ?_ | refine i6 ?_ | refine ati ?_ | refine mst ?_ | refine rmd ?_ | refine ibo (fun _ => ?_) (fun _ => ?_)) <;> conv => whnf))
                refine ⟨i + 1, _, _, by omega, .refl _ _, ⟨rfl, rfl, by rw [o4]; rfl, rfl, rfl, rfl, rfl, trivial⟩, ⟨?_, trivial⟩, by omega⟩
                refine slice_is ?_
                rw [o3]; simp [dP]
              · rw [if_neg hi4] at hb2 o3
                have hln := Pure.up (X := X) (rline_pure i 0 hi6 (by omega))
                rw [hb2] at hln
                (conv => whnf)
                (repeat' ((first | refine ord_ok (by (conv => whnf); (repeat' ((first | refine call_eq rfl hln ?_ | refine ify ?_ | refine ifn ?_ | refine i6 ?_ | refine ati ?_ | refine mst ?_ | refine rmd ?_ | refine ibo (fun _ => ?_) (fun _ => ?_)) <;> conv => whnf)); (all_goals (repeat' (first | exact trivial | exact rfl | refine And.intro ?_ ?_)))) ?_ | refine call_eq rfl hln ?_ | refine ify ?_ | refine ifn ?_ | refine i6 ?_ | refine ati ?_ | refine mst ?_ | refine rmd ?_ | refine ibo (fun _ => ?_) (fun _ => ?_)) <;> conv => whnf))
                refine ⟨i + 1, _, _, by omega, .refl _ _, ⟨rfl, rfl, by rw [o4]; rfl, rfl, rfl, rfl, rfl, trivial⟩, ⟨?_, trivial⟩, by omega⟩
                refine slice_is ?_
                rw [o3]; simp [dP]
            · have hb2 := fun h => he ((kind_iff ho hTl hi6).1 h)
              obtain ⟨o1, o2⟩ := out_keep (o := o) (i := i) (fun n hn => he (by have := kind_of ho hTl hn; rw [hn]; exact congrArg some this))
              by_cases hi4 : i < 4
              · rw [if_pos hi4] at hb2
                have hln := Pure.up (X := X) (rline_pure i (val t) hi6 hvl)
                cases hh : hitO i o with
                | true =>
                  ((conv => whnf); repeat' ((first | refine odw ?_ | refine ify ?_ | refine ifn ?_ | refine i6 ?_ | refine ati ?_ | refine mst ?_ | refine rmd ?_ | refine ibo (fun _ => ?_) (fun _ => ?_)) <;> conv => whnf))
                  refine ⟨i + 1, _, _, by omega, .refl _ _, ⟨rfl, rfl, by rw [o2, hh]; rfl, rfl, rfl, rfl, rfl, trivial⟩, ⟨by rw [o1]; rfl, trivial⟩, by omega⟩
                | false =>
                  (conv => whnf)
                  (repeat' ((first | refine ord_ok (by (conv => whnf); (repeat' ((first | refine call_eq rfl hln ?_ | refine ify ?_ | refine ifn ?_ | refine i6 ?_ | refine ati ?_ | refine mst ?_ | refine rmd ?_ | refine ibo (fun _ => ?_) (fun _ => ?_)) <;> conv => whnf)); (all_goals (repeat' (first | exact trivial | exact rfl | refine And.intro ?_ ?_)))) ?_ | refine call_eq rfl hln ?_ | refine ify ?_ | refine ifn ?_ | refine i6 ?_ | refine ati ?_ | refine mst ?_ | refine rmd ?_ | refine ibo (fun _ => ?_) (fun _ => ?_)) <;> conv => whnf))
                  refine ⟨i + 1, _, _, by omega, .refl _ _, ⟨rfl, rfl, by rw [o2, hh]; rfl, rfl, rfl, rfl, rfl, trivial⟩, ⟨by rw [o1]; rfl, trivial⟩, by omega⟩
              · rw [if_neg hi4] at hb2
                have hln := Pure.up (X := X) (rline_pure i 0 hi6 (by omega))
                cases hh : hitO i o with
                | true =>
                  ((conv => whnf); repeat' ((first | refine odw ?_ | refine ify ?_ | refine ifn ?_ | refine i6 ?_ | refine ati ?_ | refine mst ?_ | refine rmd ?_ | refine ibo (fun _ => ?_) (fun _ => ?_)) <;> conv => whnf))
                  refine ⟨i + 1, _, _, by omega, .refl _ _, ⟨rfl, rfl, by rw [o2, hh]; rfl, rfl, rfl, rfl, rfl, trivial⟩, ⟨by rw [o1]; rfl, trivial⟩, by omega⟩
                | false =>
                  (conv => whnf)
                  (repeat' ((first | refine ord_ok (by (conv => whnf); (repeat' ((first | refine call_eq rfl hln ?_ | refine ify ?_ | refine ifn ?_ | refine i6 ?_ | refine ati ?_ | refine mst ?_ | refine rmd ?_ | refine ibo (fun _ => ?_) (fun _ => ?_)) <;> conv => whnf)); (all_goals (repeat' (first | exact trivial | exact rfl | refine And.intro ?_ ?_)))) ?_ | refine call_eq rfl hln ?_ | refine ify ?_ | refine ifn ?_ | refine i6 ?_ | refine ati ?_ | refine mst ?_ | refine rmd ?_ | refine ibo (fun _ => ?_) (fun _ => ?_)) <;> conv => whnf))
                  refine ⟨i + 1, _, _, by omega, .refl _ _, ⟨rfl, rfl, by rw [o2, hh]; rfl, rfl, rfl, rfl, rfl, trivial⟩, ⟨by rw [o1]; rfl, trivial⟩, by omega⟩
          · have hi6e : i = 6 := by omega
            subst hi6e
            rcases hfin with ⟨rfl, rfl, rfl⟩ | ⟨p, l2, rfl, hr2, rfl⟩
            · rw [show outO 6 none = [] from rfl, List.append_nil, show hitO 6 none = false from rfl]
              ((conv => whnf); repeat' ((first | refine odw ?_ | refine ify ?_ | refine ifn ?_ | refine i6 ?_ | refine ati ?_ | refine mst ?_ | refine rmd ?_ | refine ibo (fun _ => ?_) (fun _ => ?_)) <;> conv => whnf))
              subst hl
              rw [List.append_nil]
              show _ = Da.tuple [.nils, .int .i64 d.length]
              rw [← hdl]
              exact rfl
            · have hp6 := ((ho p).2 rfl).1.1
              rw [show outO 6 (some p) = [p] from if_pos hp6, show hitO 6 (some p) = true from decide_eq_true hp6]
              ((conv => whnf); repeat' ((first | refine odw ?_ | refine ify ?_ | refine ifn ?_ | refine i6 ?_ | refine ati ?_ | refine mst ?_ | refine rmd ?_ | refine ibo (fun _ => ?_) (fun _ => ?_)) <;> conv => whnf))
              refine ⟨(d ++ [p], pre ++ b ++ [10], r2), _, _, ⟨l2, by rw [hsp]; simp, hr2, by rw [hl]; simp, by simp only [List.length_append, List.length_singleton]; omega⟩, .refl _ _, ⟨?_, rfl, rfl, trivial⟩, ⟨rfl, trivial⟩, by simp only; omega⟩
              refine int_is ?_
              simp only [List.length_append, List.length_singleton]; omega
  
        rcases Nat.lt_or_ge 57 c.toNat with h57 | h57
        · have hTl : Tl b t := ⟨g ++ [c], hft, hd, ht6, .inr (.inr ⟨g, c, rfl, fun h => by have := h.2; omega⟩)⟩
          ((conv => whnf); repeat' ((first | refine odw ?_ | refine ify ?_ | refine ifn ?_ | refine i6 ?_ | refine ati ?_ | refine mst ?_ | refine rmd ?_ | refine ibo (fun _ => ?_) (fun _ => ?_)) <;> conv => whnf))
          refine at_bs hxb (by omega) fun h e => ?_
          rw [e]
          ((conv => whnf); repeat' ((first | refine odw ?_ | refine ify ?_ | refine ifn ?_ | refine i6 ?_ | refine ati ?_ | refine mst ?_ | refine rmd ?_ | refine ibo (fun _ => ?_) (fun _ => ?_)) <;> conv => whnf))
          refine at_bs hxb (by omega) fun h e => ?_
          rw [e]
          ((conv => whnf); repeat' ((first | refine odw ?_ | refine ify ?_ | refine ifn ?_ | refine i6 ?_ | refine ati ?_ | refine mst ?_ | refine rmd ?_ | refine ibo (fun _ => ?_) (fun _ => ?_)) <;> conv => whnf))
          have hm := hTl
          have hvl : val t ≤ 999999 := val6 hd ht6
          refine loop_lo (ι := Nat) (fun i => i ≤ 6) (fun i => [(12, .d (.int .i64 i)), (9, .d (.int .i64 (val t))), (8, .d (.bool (hitO i o))), (7, .d (.str (bs (b ++ [10])))), (6, .d (.int .i64 (pre.length + b.length : Nat))), (4, .own 300), (0, .d (.str (bs s)))]) (fun i => [(300, .slice 35 2 ((d ++ outO i o).map dP))]) (fun i => 6 - i) 0 (fun _ => rfl) (Nat.zero_le _) (.refl _ _) ⟨rfl, rfl, by rw [hit0]; rfl, rfl, rfl, rfl, rfl, trivial⟩ ⟨by rw [out0, List.append_nil]; rfl, trivial⟩ ?_
          intro i hi
          have hol := outO_len i o
          have hdol : ((d ++ outO i o).map dP).length = d.length + (outO i o).length := by rw [List.length_map, List.length_append]
          refine sxCode_sound (c2_ok X) (G := G_srp) (pl := pl_srp) _ _ _ _ (by kernel_rfl) ?_
          by_cases hi6 : i < 6
          · by_cases he : o = some (i, if i < 4 then val t else 0)
            · obtain ⟨o1, o2, o3, o4⟩ := out_step he
              have hb2 := (kind_iff ho hTl hi6).2 he
              rw [o1, List.append_nil, o2]
              by_cases hi4 : i < 4
              · rw [if_pos hi4] at hb2 o3
                have hln := Pure.up (X := X) (rline_pure i (val t) hi6 hvl)
                rw [hb2] at hln
                (conv => whnf)
                (repeat' ((first | refine ord_ok (by (conv => whnf); (repeat' ((first | refine call_eq rfl hln ?_ | refine ify ?_ | refine ifn ?_ | refine i6 ?_ | refine ati ?_ | refine mst ?_ | refine rmd ?_ | refine ibo (fun _ => ?_) (fun _ => ?_)) <;> conv => whnf)); (all_goals (repeat' (first | exact trivial | exact rfl | refine And.intro ?_ ?_)))) ?_ | refine call_eq rfl hln ?_ | refine ify ?_ | refine ifn ?_ | refine i6 ?_ | refine ati ?_ | refine mst ?_ | refine rmd ?_ | refine ibo (fun _ => ?_) (fun _ => ?_)) <;> conv => whnf))
                refine ⟨i + 1, _, _, by omega, .refl _ _, ⟨rfl, rfl, by rw [o4]; rfl, rfl, rfl, rfl, rfl, trivial⟩, ⟨?_, trivial⟩, by omega⟩
                refine slice_is ?_
                rw [o3]; simp [dP]
              · rw [if_neg hi4] at hb2 o3
                have hln := Pure.up (X := X) (rline_pure i 0 hi6 (by omega))
                rw [hb2] at hln
                (conv => whnf)
                (repeat' ((first | refine ord_ok (by (conv => whnf); (repeat' ((first | refine call_eq rfl hln ?_ | refine ify ?_ | refine ifn ?_ | refine i6 ?_ | refine ati ?_ | refine mst ?_ | refine rmd ?_ | refine ibo (fun _ => ?_) (fun _ => ?_)) <;> conv => whnf)); (all_goals (repeat' (first | exact trivial | exact rfl | refine And.intro ?_ ?_)))) ?_ | refine call_eq rfl hln ?_ | refine ify ?_ | refine ifn ?_ | refine i6 ?_ | refine ati ?_ | refine mst ?_ | refine rmd ?_ | refine ibo (fun _ => ?_) (fun _ => ?_)) <;> conv => whnf))
                refine ⟨i + 1, _, _, by omega, .refl _ _, ⟨rfl, rfl, by rw [o4]; rfl, rfl, rfl, rfl, rfl, trivial⟩, ⟨?_, trivial⟩, by omega⟩
                refine slice_is ?_
                rw [o3]; simp [dP]
            · have hb2 := fun h => he ((kind_iff ho hTl hi6).1 h)
              obtain ⟨o1, o2⟩ := out_keep (o := o) (i := i) (fun n hn => he (by have := kind_of ho hTl hn; rw [hn]; exact congrArg some this))
              by_cases hi4 : i < 4
              · rw [if_pos hi4] at hb2
                have hln := Pure.up (X := X) (rline_pure i (val t) hi6 hvl)
                cases hh : hitO i o with
                | true =>
                  ((conv => whnf); repeat' ((first | refine odw ?_ | refine ify ?_ | refine ifn ?_ | refine i6 ?_ | refine ati ?_ | refine mst ?_ | refine rmd ?_ | refine ibo (fun _ => ?_) (fun _ => ?_)) <;> conv => whnf))
                  refine ⟨i + 1, _, _, by omega, .refl _ _, ⟨rfl, rfl, by rw [o2, hh]; rfl, rfl, rfl, rfl, rfl, trivial⟩, ⟨by rw [o1]; rfl, trivial⟩, by omega⟩
                | false =>
                  (conv => whnf)
                  (repeat' ((first | refine ord_ok (by (conv => whnf); (repeat' ((first | refine call_eq rfl hln ?_ | refine ify ?_ | refine ifn ?_ | refine i6 ?_ | refine ati ?_ | refine mst ?_ | refine rmd ?_ | refine ibo (fun _ => ?_) (fun _ => ?_)) <;> conv => whnf)); (all_goals (repeat' (first | exact trivial | exact rfl | refine And.intro ?_ ?_)))) ?_ | refine call_eq rfl hln ?_ | refine ify ?_ | refine ifn ?_ | refine i6 ?_ | refine ati ?_ | refine mst ?_ | refine rmd ?_ | refine ibo (fun _ => ?_) (fun _ => ?_)) <;> conv => whnf))
                  refine ⟨i + 1, _, _, by omega, .refl _ _, ⟨rfl, rfl, by rw [o2, hh]; rfl, rfl, rfl, rfl, rfl, trivial⟩, ⟨by rw [o1]; rfl, trivial⟩, by omega⟩
              · rw [if_neg hi4] at hb2
                have hln := Pure.up (X := X) (rline_pure i 0 hi6 (by omega))
                cases hh : hitO i o with
                | true =>
                  ((conv => whnf); repeat' ((first | refine odw ?_ | refine ify ?_ | refine ifn ?_ | refine i6 ?_ | refine ati ?_ | refine mst ?_ | refine rmd ?_ | refine ibo (fun _ => ?_) (fun _ => ?_)) <;> conv => whnf))
                  refine ⟨i + 1, _, _, by omega, .refl _ _, ⟨rfl, rfl, by rw [o2, hh]; rfl, rfl, rfl, rfl, rfl, trivial⟩, ⟨by rw [o1]; rfl, trivial⟩, by omega⟩
                | false =>
                  (conv => whnf)
                  (repeat' ((first | refine ord_ok (by (conv => whnf); (repeat' ((first | refine call_eq rfl hln ?_ | refine ify ?_ | refine ifn ?_ | refine i6 ?_ | refine ati ?_ | refine mst ?_ | refine rmd ?_ | refine ibo (fun _ => ?_) (fun _ => ?_)) <;> conv => whnf)); (all_goals (repeat' (first | exact trivial | exact rfl | refine And.intro ?_ ?_)))) ?_ | refine call_eq rfl hln ?_ | refine ify ?_ | refine ifn ?_ | refine i6 ?_ | refine ati ?_ | refine mst ?_ | refine rmd ?_ | refine ibo (fun _ => ?_) (fun _ => ?_)) <;> conv => whnf))
                  refine ⟨i + 1, _, _, by omega, .refl _ _, ⟨rfl, rfl, by rw [o2, hh]; rfl, rfl, rfl, rfl, rfl, trivial⟩, ⟨by rw [o1]; rfl, trivial⟩, by omega⟩
          · have hi6e : i = 6 := by omega
            subst hi6e
            rcases hfin with ⟨rfl, rfl, rfl⟩ | ⟨p, l2, rfl, hr2, rfl⟩
            · rw [show outO 6 none = [] from rfl, List.append_nil, show hitO 6 none = false from rfl]
              ((conv => whnf); repeat' ((first | refine odw ?_ | refine ify ?_ | refine ifn ?_ | refine i6 ?_ | refine ati ?_ | refine mst ?_ | refine rmd ?_ | refine ibo (fun _ => ?_) (fun _ => ?_)) <;> conv => whnf))
              subst hl
              rw [List.append_nil]
              show _ = Da.tuple [.nils, .int .i64 d.length]
              rw [← hdl]
              exact rfl
            · have hp6 := ((ho p).2 rfl).1.1
              rw [show outO 6 (some p) = [p] from if_pos hp6, show hitO 6 (some p) = true from decide_eq_true hp6]
              ((conv => whnf); repeat' ((first | refine odw ?_ | refine ify ?_ | refine ifn ?_ | refine i6 ?_ | refine ati ?_ | refine mst ?_ | refine rmd ?_ | refine ibo (fun _ => ?_) (fun _ => ?_)) <;> conv => whnf))
              refine ⟨(d ++ [p], pre ++ b ++ [10], r2), _, _, ⟨l2, by rw [hsp]; simp, hr2, by rw [hl]; simp, by simp only [List.length_append, List.length_singleton]; omega⟩, .refl _ _, ⟨?_, rfl, rfl, trivial⟩, ⟨rfl, trivial⟩, by simp only; omega⟩
              refine int_is ?_
              simp only [List.length_append, List.length_singleton]; omega
  
        by_cases h6 : t.length = 6
        · have hTl : Tl b t := ⟨g ++ [c], hft, hd, ht6, .inl h6⟩
          ((conv => whnf); repeat' ((first | refine odw ?_ | refine ify ?_ | refine ifn ?_ | refine i6 ?_ | refine ati ?_ | refine mst ?_ | refine rmd ?_ | refine ibo (fun _ => ?_) (fun _ => ?_)) <;> conv => whnf))
          refine at_bs hxb (by omega) fun h e => ?_
          rw [e]
          ((conv => whnf); repeat' ((first | refine odw ?_ | refine ify ?_ | refine ifn ?_ | refine i6 ?_ | refine ati ?_ | refine mst ?_ | refine rmd ?_ | refine ibo (fun _ => ?_) (fun _ => ?_)) <;> conv => whnf))
          refine at_bs hxb (by omega) fun h e => ?_
          rw [e]
          ((conv => whnf); repeat' ((first | refine odw ?_ | refine ify ?_ | refine ifn ?_ | refine i6 ?_ | refine ati ?_ | refine mst ?_ | refine rmd ?_ | refine ibo (fun _ => ?_) (fun _ => ?_)) <;> conv => whnf))
          have hm := hTl
          have hvl : val t ≤ 999999 := val6 hd ht6
          refine loop_lo (ι := Nat) (fun i => i ≤ 6) (fun i => [(12, .d (.int .i64 i)), (9, .d (.int .i64 (val t))), (8, .d (.bool (hitO i o))), (7, .d (.str (bs (b ++ [10])))), (6, .d (.int .i64 (pre.length + b.length : Nat))), (4, .own 300), (0, .d (.str (bs s)))]) (fun i => [(300, .slice 35 2 ((d ++ outO i o).map dP))]) (fun i => 6 - i) 0 (fun _ => rfl) (Nat.zero_le _) (.refl _ _) ⟨rfl, rfl, by rw [hit0]; rfl, rfl, rfl, rfl, rfl, trivial⟩ ⟨by rw [out0, List.append_nil]; rfl, trivial⟩ ?_
          intro i hi
          have hol := outO_len i o
          have hdol : ((d ++ outO i o).map dP).length = d.length + (outO i o).length := by rw [List.length_map, List.length_append]
          refine sxCode_sound (c2_ok X) (G := G_srp) (pl := pl_srp) _ _ _ _ (by kernel_rfl) ?_
          by_cases hi6 : i < 6
          · by_cases he : o = some (i, if i < 4 then val t else 0)
            · obtain ⟨o1, o2, o3, o4⟩ := out_step he
              have hb2 := (kind_iff ho hTl hi6).2 he
              rw [o1, List.append_nil, o2]
              by_cases hi4 : i < 4
              · rw [if_pos hi4] at hb2 o3
                have hln := Pure.up (X := X) (rline_pure i (val t) hi6 hvl)
                rw [hb2] at hln
                (conv => whnf)
                (repeat' ((first | refine ord_ok (by (conv => whnf); (repeat' ((first | refine call_eq rfl hln ?_ | refine ify ?_ | refine ifn ?_ | refine i6 ?_ | refine ati ?_ | refine mst ?_ | refine rmd ?_ | refine ibo (fun _ => ?_) (fun _ => ?_)) <;> conv => whnf)); (all_goals (repeat' (first | exact trivial | exact rfl | refine And.intro ?_ ?_)))) ?_ | refine call_eq rfl hln ?_ | refine ify ?_ | refine ifn ?_ | refine i6 ?_ | refine ati ?_ | refine mst ?_ | refine rmd ?_ | refine ibo (fun _ => ?_) (fun _ => ?_)) <;> conv => whnf))
                refine ⟨i + 1, _, _, by omega, .refl _ _, ⟨rfl, rfl, by rw [o4]; rfl, rfl, rfl, rfl, rfl, trivial⟩, ⟨?_, trivial⟩, by omega⟩
                refine slice_is ?_
                rw [o3]; simp [dP]
              · rw [if_neg hi4] at hb2 o3
                have hln := Pure.up (X := X) (rline_pure i 0 hi6 (by omega))
                rw [hb2] at hln
                (conv => whnf)
                (repeat' ((first | refine ord_ok (by (conv => whnf); (repeat' ((first | refine call_eq rfl hln ?_ | refine ify ?_ | refine ifn ?_ | refine i6 ?_ | refine ati ?_ | refine mst ?_ | refine rmd ?_ | refine ibo (fun _ => ?_) (fun _ => ?_)) <;> conv => whnf)); (all_goals (repeat' (first | exact trivial | exact rfl | refine And.intro ?_ ?_)))) ?_ | refine call_eq rfl hln ?_ | refine ify ?_ | refine ifn ?_ | refine i6 ?_ | refine ati ?_ | refine mst ?_ | refine rmd ?_ | refine ibo (fun _ => ?_) (fun _ => ?_)) <;> conv => whnf))
                refine ⟨i + 1, _, _, by omega, .refl _ _, ⟨rfl, rfl, by rw [o4]; rfl, rfl, rfl, rfl, rfl, trivial⟩, ⟨?_, trivial⟩, by omega⟩
                refine slice_is ?_
                rw [o3]; simp [dP]
            · have hb2 := fun h => he ((kind_iff ho hTl hi6).1 h)
              obtain ⟨o1, o2⟩ := out_keep (o := o) (i := i) (fun n hn => he (by have := kind_of ho hTl hn; rw [hn]; exact congrArg some this))
              by_cases hi4 : i < 4
              · rw [if_pos hi4] at hb2
                have hln := Pure.up (X := X) (rline_pure i (val t) hi6 hvl)
                cases hh : hitO i o with
                | true =>
                  ((conv => whnf); repeat' ((first | refine odw ?_ | refine ify ?_ | refine ifn ?_ | refine i6 ?_ | refine ati ?_ | refine mst ?_ | refine rmd ?_ | refine ibo (fun _ => ?_) (fun _ => ?_)) <;> conv => whnf))
                  refine ⟨i + 1, _, _, by omega, .refl _ _, ⟨rfl, rfl, by rw [o2, hh]; rfl, rfl, rfl, rfl, rfl, trivial⟩, ⟨by rw [o1]; rfl, trivial⟩, by omega⟩
                | false =>
                  (conv => whnf)
                  (repeat' ((first | refine ord_ok (by (conv => whnf); (repeat' ((first | refine call_eq rfl hln ?_ | refine ify ?_ | refine ifn ?_ | refine i6 ?_ | refine ati ?_ | refine mst ?_ | refine rmd ?_ | refine ibo (fun _ => ?_) (fun _ => ?_)) <;> conv => whnf)); (all_goals (repeat' (first | exact trivial | exact rfl | refine And.intro ?_ ?_)))) ?_ | refine call_eq rfl hln ?_ | refine ify ?_ | refine ifn ?_ | refine i6 ?_ | refine ati ?_ | refine mst ?_ | refine rmd ?_ | refine ibo (fun _ => ?_) (fun _ => ?_)) <;> conv => whnf))
                  refine ⟨i + 1, _, _, by omega, .refl _ _, ⟨rfl, rfl, by rw [o2, hh]; rfl, rfl, rfl, rfl, rfl, trivial⟩, ⟨by rw [o1]; rfl, trivial⟩, by omega⟩
              · rw [if_neg hi4] at hb2
                have hln := Pure.up (X := X) (rline_pure i 0 hi6 (by omega))
                cases hh : hitO i o with
                | true =>
                  ((conv => whnf); repeat' ((first | refine odw ?_ | refine ify ?_ | refine ifn ?_ | refine i6 ?_ | refine ati ?_ | refine mst ?_ | refine rmd ?_ | refine ibo (fun _ => ?_) (fun _ => ?_)) <;> conv => whnf))
                  refine ⟨i + 1, _, _, by omega, .refl _ _, ⟨rfl, rfl, by rw [o2, hh]; rfl, rfl, rfl, rfl, rfl, trivial⟩, ⟨by rw [o1]; rfl, trivial⟩, by omega⟩
                | false =>
                  (conv => whnf)
                  (repeat' ((first | refine ord_ok (by (conv => whnf); (repeat' ((first | refine call_eq rfl hln ?_ | refine ify ?_ | refine ifn ?_ | refine i6 ?_ | refine ati ?_ | refine mst ?_ | refine rmd ?_ | refine ibo (fun _ => ?_) (fun _ => ?_)) <;> conv => whnf)); (all_goals (repeat' (first | exact trivial | exact rfl | refine And.intro ?_ ?_)))) ?_ | refine call_eq rfl hln ?_ | refine ify ?_ | refine ifn ?_ | refine i6 ?_ | refine ati ?_ | refine mst ?_ | refine rmd ?_ | refine ibo (fun _ => ?_) (fun _ => ?_)) <;> conv => whnf))
                  refine ⟨i + 1, _, _, by omega, .refl _ _, ⟨rfl, rfl, by rw [o2, hh]; rfl, rfl, rfl, rfl, rfl, trivial⟩, ⟨by rw [o1]; rfl, trivial⟩, by omega⟩
          · have hi6e : i = 6 := by omega
            subst hi6e
            rcases hfin with ⟨rfl, rfl, rfl⟩ | ⟨p, l2, rfl, hr2, rfl⟩
            · rw [show outO 6 none = [] from rfl, List.append_nil, show hitO 6 none = false from rfl]
              ((conv => whnf); repeat' ((first | refine odw ?_ | refine ify ?_ | refine ifn ?_ | refine i6 ?_ | refine ati ?_ | refine mst ?_ | refine rmd ?_ | refine ibo (fun _ => ?_) (fun _ => ?_)) <;> conv => whnf))
              subst hl
              rw [List.append_nil]
              show _ = Da.tuple [.nils, .int .i64 d.length]
              rw [← hdl]
              exact rfl
            · have hp6 := ((ho p).2 rfl).1.1
              rw [show outO 6 (some p) = [p] from if_pos hp6, show hitO 6 (some p) = true from decide_eq_true hp6]
              ((conv => whnf); repeat' ((first | refine odw ?_ | refine ify ?_ | refine ifn ?_ | refine i6 ?_ | refine ati ?_ | refine mst ?_ | refine rmd ?_ | refine ibo (fun _ => ?_) (fun _ => ?_)) <;> conv => whnf))
              refine ⟨(d ++ [p], pre ++ b ++ [10], r2), _, _, ⟨l2, by rw [hsp]; simp, hr2, by rw [hl]; simp, by simp only [List.length_append, List.length_singleton]; omega⟩, .refl _ _, ⟨?_, rfl, rfl, trivial⟩, ⟨rfl, trivial⟩, by simp only; omega⟩
              refine int_is ?_
              simp only [List.length_append, List.length_singleton]; omega
  
        have hp5 : 10 ^ t.length ≤ 100000 := Nat.pow_le_pow_right (n := 10) (by omega) (show t.length ≤ 5 by omega)
        have hpow : 10 ^ (c :: t).length = 10 ^ t.length * 10 := by rw [List.length_cons, Nat.pow_succ]
        have hval : val (c :: t) = val t + 10 ^ t.length * (c.toNat - 48) := by simp only [val]; rw [Nat.mul_comm]; omega
        generalize hu : 10 ^ t.length = u at hp5 hpow hval hvl0 hp6 ⊢
        have hmul : u * (c.toNat - 48) ≤ 900000 := Nat.mul_le_mul hp5 (show c.toNat - 48 ≤ 9 by omega)
        have hcast : (u : Int) * ((c.toNat : Int) - 48) = ((u * (c.toNat - 48) : Nat) : Int) := by rw [Int.natCast_mul]; congr 1; omega
        generalize hP : u * (c.toNat - 48) = P at hmul hcast hval
        ((conv => whnf); repeat' ((first | refine odw ?_ | refine ify ?_ | refine ifn ?_ | refine i6 ?_ | refine ati ?_ | refine mst ?_ | refine rmd ?_ | refine ibo (fun _ => ?_) (fun _ => ?_)) <;> conv => whnf))
        refine at_bs hxb (by omega) fun h e => ?_
        rw [e]
        ((conv => whnf); repeat' ((first | refine odw ?_ | refine ify ?_ | refine ifn ?_ | refine i6 ?_ | refine ati ?_ | refine mst ?_ | refine rmd ?_ | refine ibo (fun _ => ?_) (fun _ => ?_)) <;> conv => whnf))
        refine at_bs hxb (by omega) fun h e => ?_
        rw [e]
        ((conv => whnf); repeat' ((first | refine odw ?_ | refine ify ?_ | refine ifn ?_ | refine i6 ?_ | refine ati ?_ | refine mst ?_ | refine rmd ?_ | refine ibo (fun _ => ?_) (fun _ => ?_)) <;> conv => whnf))
        refine at_bs hxb (by omega) fun h e => ?_
        rw [e]
        ((conv => whnf); repeat' ((first | refine odw ?_ | refine ify ?_ | refine ifn ?_ | refine i6 ?_ | refine ati ?_ | refine mst ?_ | refine rmd ?_ | refine ibo (fun _ => ?_) (fun _ => ?_)) <;> conv => whnf))
        refine ⟨(g, c :: t), _, _, ⟨by rw [hft]; simp, (fun x hx => by rcases List.mem_cons.1 hx with rfl | hx; exact ⟨h48, h57⟩; exact hd x hx), by simp only [List.length_cons]; omega⟩, .refl _ _, ⟨int_is (by simp only; omega), int_is (by simp only; omega), int_is (by simp only; omega), rfl, rfl, rfl, rfl, rfl, trivial⟩, ⟨rfl, trivial⟩, by simp only; omega⟩
end Go.Proofs.YtdbafjjmdgdjgaaDoor
