/- ref05: Num · ref25: Line. -/
import Derived.Test.YtdbafjjmdgdjgaaDoorScp
import Derived.Test.YtdbafjjmdgdjgaaDoorStr
import Derived.Test.YtdbafjjmdgdjgaaDoorCtx
namespace Go.Sx
open Go
theorem cat_ok {a b : ByteArray} {K : Prop} (h : a.size + b.size ≤ 9223372036854775807) (hK : K) : a.size + b.size ≤ 9223372036854775807 ∧ K := ⟨h, hK⟩
theorem u8_is {e : Int} {K : Int → Prop} (h : 0 ≤ e ∧ e ≤ 255) (hK : K e) : ∃ n, IntKind.u8.wrap e = n ∧ K n := ⟨e, by
  have e1 : IntKind.u8.wrap e = e % 256 := rfl
  rw [e1]; omega, hK⟩
theorem at_ls {ds : List Da} {i : Nat} {d : Da} {n : Int} {K : Nat → Da → Prop} (hx : ds[i]? = some d) (hn : n = i) (hK : K i d) : ∃ (j : Nat) (d : Da), n = j ∧ ds[j]? = some d ∧ K j d := ⟨i, d, hn, hx, hK⟩
end Go.Sx
namespace Go.Proofs.YtdbafjjmdgdjgaaDoor
open Go.Sx Go.RowKit Go.Reg Go.Gr

set_option maxRecDepth 100000
def pl_r5n : List (Nat × Plan) := []
def G_r5n : List FuncId := []
theorem cok_r5n : codeOk Tryd.prog G_r5n pl_r5n (Tryd.f32.body.getD .skip) = true := by kernel_rfl
theorem run_r5n (vs : Array Value) (w : World) : (callFunc 32 vs).run C1.P w = .ok (.enter 32 vs) w := by kernel_rfl
theorem num_pure : ∀ n : Nat, n ≤ 9000000000000000000 → Pure C1 32 [.int .i64 n] (fun y => y = .str (bs (Lib.decDigits n))) := by
  intro n
  induction n using Nat.strongRecOn with
  | _ n ih =>
    intro hn
    have hd1 : (n : Int).tdiv 10 = ((n / 10 : Nat) : Int) := by rw [Int.tdiv_eq_ediv_of_nonneg (by omega)]; omega
    have hd2 : (n : Int).tmod 10 = ((n % 10 : Nat) : Int) := by rw [Int.tmod_eq_emod_of_nonneg (by omega)]; omega
    refine pure_of c1_ok (pl := pl_r5n) (G := G_r5n) Tryd.func32 rfl Tryd.ntmps32 run_r5n cok_r5n (by simp) ?_
    by_cases h : 9 < n
    · have h1 := ih (n / 10) (by omega) (by omega)
      have h2 := ih (n % 10) (by omega) (by omega)
      rw [← hd1] at h1
      rw [← hd2] at h2
      have e1 : Lib.decDigits (n % 10) = [UInt8.ofNat (48 + n % 10)] := by rw [Lib.decDigits, dif_pos (by omega)]
      have e2 : Lib.decDigits n = Lib.decDigits (n / 10) ++ [UInt8.ofNat (48 + n % 10)] := by rw [Lib.decDigits, dif_neg (by omega)]
      have hl := dd_len (n / 10)
      rw [e1] at h2
      rw [e2, ← bs_cat]
      (conv => whnf)
      (repeat' ((first | refine ord_ok (by (conv => whnf); (repeat' ((first | refine call_eq rfl h1 ?_ | refine call_eq rfl h2 ?_ | refine cat_ok (by rw [bs_size, bs_size, List.length_singleton]; omega) ?_ | refine ify ?_ | refine ifn ?_ | refine i6 ?_ | refine ati ?_ | refine mst ?_ | refine rmd ?_ | refine ibo (fun _ => ?_) (fun _ => ?_)) <;> conv => whnf)); (all_goals (repeat' (first | exact trivial | exact rfl | refine And.intro ?_ ?_)))) ?_ | refine call_eq rfl h1 ?_ | refine call_eq rfl h2 ?_ | refine cat_ok (by rw [bs_size, bs_size, List.length_singleton]; omega) ?_ | refine ify ?_ | refine ifn ?_ | refine i6 ?_ | refine ati ?_ | refine mst ?_ | refine rmd ?_ | refine ibo (fun _ => ?_) (fun _ => ?_)) <;> conv => whnf))
      exact rfl
    · have e1 : Lib.decDigits n = [UInt8.ofNat (48 + n)] := by rw [Lib.decDigits, dif_pos (by omega)]
      have e3 : (48 + (n : Int)).toNat = 48 + n := by omega
      rw [e1]
      (conv => whnf)
      (repeat' ((first | refine ord_ok (by (conv => whnf); (repeat' ((first | refine u8_is (by omega) ?_ | refine ify ?_ | refine ifn ?_ | refine i6 ?_ | refine ati ?_ | refine mst ?_ | refine rmd ?_ | refine ibo (fun _ => ?_) (fun _ => ?_)) <;> conv => whnf)); (all_goals (repeat' (first | exact trivial | exact rfl | refine And.intro ?_ ?_)))) ?_ | refine u8_is (by omega) ?_ | refine ify ?_ | refine ifn ?_ | refine i6 ?_ | refine ati ?_ | refine mst ?_ | refine rmd ?_ | refine ibo (fun _ => ?_) (fun _ => ?_)) <;> conv => whnf))
      refine op_str1 c1_ok rfl rfl rfl rfl rfl rfl rfl rfl rfl rfl rfl rfl ?_
      rw [e3]
      ((conv => whnf); repeat' ((first | refine odw ?_ | refine ify ?_ | refine ifn ?_ | refine i6 ?_ | refine ati ?_ | refine mst ?_ | refine rmd ?_ | refine ibo (fun _ => ?_) (fun _ => ?_)) <;> conv => whnf))
      exact rfl
def pl_r25l : List (Nat × Plan) := []
def G_r25l : List FuncId := [32]
theorem cok_r25l : codeOk Tryd.prog G_r25l pl_r25l (Tryd.f22.body.getD .skip) = true := by kernel_rfl
theorem run_r25l (vs : Array Value) (w : World) : (callFunc 22 vs).run C1.P w = .ok (.enter 22 vs) w := by kernel_rfl
theorem rline_pure (k n : Nat) (hk : k < 6) (hn : n ≤ 999999) : Pure C1 22 [.agg [.int .i64 k, .int .i64 n]] (fun y => y = .str (bs (lnB k n ++ [10]))) := by
  have hnum := num_pure n (by omega)
  have hl := dd_len n
  refine pure_of c1_ok (pl := pl_r25l) (G := G_r25l) Tryd.func22 rfl Tryd.ntmps22 run_r25l cok_r25l (by simp) ?_
  obtain rfl | rfl | rfl | rfl | rfl | rfl : k = 0 ∨ k = 1 ∨ k = 2 ∨ k = 3 ∨ k = 4 ∨ k = 5 := by omega
  · rw [show bs (lnB 0 n ++ [10]) = ((bs (nmB 0) ++ bs [32]) ++ bs (Lib.decDigits n)) ++ bs [10] by rw [bs_cat, bs_cat, bs_cat]; rfl]
    (conv => whnf)
    (repeat' ((first | refine ord_ok (by (conv => whnf); (repeat' ((first | refine el_at (i := 0) rfl (by decide) ?_ | refine el_is rfl ?_ | refine call_eq rfl hnum ?_ | refine cat_ok (a := bs (nmB 0)) (b := bs [32]) (by decide) ?_ | refine cat_ok (a := bs (nmB 0) ++ bs [32]) (by rw [bs_cat, bs_size, bs_size]; simp [nmB]; omega) ?_ | refine cat_ok (a := (bs (nmB 0) ++ bs [32]) ++ bs (Lib.decDigits n)) (b := bs [10]) (by rw [bs_cat, bs_cat, bs_size, bs_size]; simp [nmB]; omega) ?_ | refine ify ?_ | refine ifn ?_ | refine i6 ?_ | refine ati ?_ | refine mst ?_ | refine rmd ?_ | refine ibo (fun _ => ?_) (fun _ => ?_)) <;> conv => whnf)); (all_goals (repeat' (first | exact trivial | exact rfl | refine And.intro ?_ ?_)))) ?_ | refine el_at (i := 0) rfl (by decide) ?_ | refine el_is rfl ?_ | refine call_eq rfl hnum ?_ | refine cat_ok (a := bs (nmB 0)) (b := bs [32]) (by decide) ?_ | refine cat_ok (a := bs (nmB 0) ++ bs [32]) (by rw [bs_cat, bs_size, bs_size]; simp [nmB]; omega) ?_ | refine cat_ok (a := (bs (nmB 0) ++ bs [32]) ++ bs (Lib.decDigits n)) (b := bs [10]) (by rw [bs_cat, bs_cat, bs_size, bs_size]; simp [nmB]; omega) ?_ | refine ify ?_ | refine ifn ?_ | refine i6 ?_ | refine ati ?_ | refine mst ?_ | refine rmd ?_ | refine ibo (fun _ => ?_) (fun _ => ?_)) <;> conv => whnf))
    exact rfl
  · rw [show bs (lnB 1 n ++ [10]) = ((bs (nmB 1) ++ bs [32]) ++ bs (Lib.decDigits n)) ++ bs [10] by rw [bs_cat, bs_cat, bs_cat]; rfl]
    (conv => whnf)
    (repeat' ((first | refine ord_ok (by (conv => whnf); (repeat' ((first | refine el_at (i := 1) rfl (by decide) ?_ | refine el_is rfl ?_ | refine call_eq rfl hnum ?_ | refine cat_ok (a := bs (nmB 1)) (b := bs [32]) (by decide) ?_ | refine cat_ok (a := bs (nmB 1) ++ bs [32]) (by rw [bs_cat, bs_size, bs_size]; simp [nmB]; omega) ?_ | refine cat_ok (a := (bs (nmB 1) ++ bs [32]) ++ bs (Lib.decDigits n)) (b := bs [10]) (by rw [bs_cat, bs_cat, bs_size, bs_size]; simp [nmB]; omega) ?_ | refine ify ?_ | refine ifn ?_ | refine i6 ?_ | refine ati ?_ | refine mst ?_ | refine rmd ?_ | refine ibo (fun _ => ?_) (fun _ => ?_)) <;> conv => whnf)); (all_goals (repeat' (first | exact trivial | exact rfl | refine And.intro ?_ ?_)))) ?_ | refine el_at (i := 1) rfl (by decide) ?_ | refine el_is rfl ?_ | refine call_eq rfl hnum ?_ | refine cat_ok (a := bs (nmB 1)) (b := bs [32]) (by decide) ?_ | refine cat_ok (a := bs (nmB 1) ++ bs [32]) (by rw [bs_cat, bs_size, bs_size]; simp [nmB]; omega) ?_ | refine cat_ok (a := (bs (nmB 1) ++ bs [32]) ++ bs (Lib.decDigits n)) (b := bs [10]) (by rw [bs_cat, bs_cat, bs_size, bs_size]; simp [nmB]; omega) ?_ | refine ify ?_ | refine ifn ?_ | refine i6 ?_ | refine ati ?_ | refine mst ?_ | refine rmd ?_ | refine ibo (fun _ => ?_) (fun _ => ?_)) <;> conv => whnf))
    exact rfl
  · rw [show bs (lnB 2 n ++ [10]) = ((bs (nmB 2) ++ bs [32]) ++ bs (Lib.decDigits n)) ++ bs [10] by rw [bs_cat, bs_cat, bs_cat]; rfl]
    (conv => whnf)
    (repeat' ((first | refine ord_ok (by (conv => whnf); (repeat' ((first | refine el_at (i := 2) rfl (by decide) ?_ | refine el_is rfl ?_ | refine call_eq rfl hnum ?_ | refine cat_ok (a := bs (nmB 2)) (b := bs [32]) (by decide) ?_ | refine cat_ok (a := bs (nmB 2) ++ bs [32]) (by rw [bs_cat, bs_size, bs_size]; simp [nmB]; omega) ?_ | refine cat_ok (a := (bs (nmB 2) ++ bs [32]) ++ bs (Lib.decDigits n)) (b := bs [10]) (by rw [bs_cat, bs_cat, bs_size, bs_size]; simp [nmB]; omega) ?_ | refine ify ?_ | refine ifn ?_ | refine i6 ?_ | refine ati ?_ | refine mst ?_ | refine rmd ?_ | refine ibo (fun _ => ?_) (fun _ => ?_)) <;> conv => whnf)); (all_goals (repeat' (first | exact trivial | exact rfl | refine And.intro ?_ ?_)))) ?_ | refine el_at (i := 2) rfl (by decide) ?_ | refine el_is rfl ?_ | refine call_eq rfl hnum ?_ | refine cat_ok (a := bs (nmB 2)) (b := bs [32]) (by decide) ?_ | refine cat_ok (a := bs (nmB 2) ++ bs [32]) (by rw [bs_cat, bs_size, bs_size]; simp [nmB]; omega) ?_ | refine cat_ok (a := (bs (nmB 2) ++ bs [32]) ++ bs (Lib.decDigits n)) (b := bs [10]) (by rw [bs_cat, bs_cat, bs_size, bs_size]; simp [nmB]; omega) ?_ | refine ify ?_ | refine ifn ?_ | refine i6 ?_ | refine ati ?_ | refine mst ?_ | refine rmd ?_ | refine ibo (fun _ => ?_) (fun _ => ?_)) <;> conv => whnf))
    exact rfl
  · rw [show bs (lnB 3 n ++ [10]) = ((bs (nmB 3) ++ bs [32]) ++ bs (Lib.decDigits n)) ++ bs [10] by rw [bs_cat, bs_cat, bs_cat]; rfl]
    (conv => whnf)
    (repeat' ((first | refine ord_ok (by (conv => whnf); (repeat' ((first | refine el_at (i := 3) rfl (by decide) ?_ | refine el_is rfl ?_ | refine call_eq rfl hnum ?_ | refine cat_ok (a := bs (nmB 3)) (b := bs [32]) (by decide) ?_ | refine cat_ok (a := bs (nmB 3) ++ bs [32]) (by rw [bs_cat, bs_size, bs_size]; simp [nmB]; omega) ?_ | refine cat_ok (a := (bs (nmB 3) ++ bs [32]) ++ bs (Lib.decDigits n)) (b := bs [10]) (by rw [bs_cat, bs_cat, bs_size, bs_size]; simp [nmB]; omega) ?_ | refine ify ?_ | refine ifn ?_ | refine i6 ?_ | refine ati ?_ | refine mst ?_ | refine rmd ?_ | refine ibo (fun _ => ?_) (fun _ => ?_)) <;> conv => whnf)); (all_goals (repeat' (first | exact trivial | exact rfl | refine And.intro ?_ ?_)))) ?_ | refine el_at (i := 3) rfl (by decide) ?_ | refine el_is rfl ?_ | refine call_eq rfl hnum ?_ | refine cat_ok (a := bs (nmB 3)) (b := bs [32]) (by decide) ?_ | refine cat_ok (a := bs (nmB 3) ++ bs [32]) (by rw [bs_cat, bs_size, bs_size]; simp [nmB]; omega) ?_ | refine cat_ok (a := (bs (nmB 3) ++ bs [32]) ++ bs (Lib.decDigits n)) (b := bs [10]) (by rw [bs_cat, bs_cat, bs_size, bs_size]; simp [nmB]; omega) ?_ | refine ify ?_ | refine ifn ?_ | refine i6 ?_ | refine ati ?_ | refine mst ?_ | refine rmd ?_ | refine ibo (fun _ => ?_) (fun _ => ?_)) <;> conv => whnf))
    exact rfl
  · rw [show bs (lnB 4 n ++ [10]) = bs (nmB 4) ++ bs [10] by rw [bs_cat]; rfl]
    (conv => whnf)
    (repeat' ((first | refine ord_ok (by (conv => whnf); (repeat' ((first | refine el_at (i := 4) rfl (by decide) ?_ | refine el_is rfl ?_ | refine cat_ok (a := bs (nmB 4)) (b := bs [10]) (by decide) ?_ | refine ify ?_ | refine ifn ?_ | refine i6 ?_ | refine ati ?_ | refine mst ?_ | refine rmd ?_ | refine ibo (fun _ => ?_) (fun _ => ?_)) <;> conv => whnf)); (all_goals (repeat' (first | exact trivial | exact rfl | refine And.intro ?_ ?_)))) ?_ | refine el_at (i := 4) rfl (by decide) ?_ | refine el_is rfl ?_ | refine cat_ok (a := bs (nmB 4)) (b := bs [10]) (by decide) ?_ | refine ify ?_ | refine ifn ?_ | refine i6 ?_ | refine ati ?_ | refine mst ?_ | refine rmd ?_ | refine ibo (fun _ => ?_) (fun _ => ?_)) <;> conv => whnf))
    exact rfl
  · rw [show bs (lnB 5 n ++ [10]) = bs (nmB 5) ++ bs [10] by rw [bs_cat]; rfl]
    (conv => whnf)
    (repeat' ((first | refine ord_ok (by (conv => whnf); (repeat' ((first | refine el_at (i := 5) rfl (by decide) ?_ | refine el_is rfl ?_ | refine cat_ok (a := bs (nmB 5)) (b := bs [10]) (by decide) ?_ | refine ify ?_ | refine ifn ?_ | refine i6 ?_ | refine ati ?_ | refine mst ?_ | refine rmd ?_ | refine ibo (fun _ => ?_) (fun _ => ?_)) <;> conv => whnf)); (all_goals (repeat' (first | exact trivial | exact rfl | refine And.intro ?_ ?_)))) ?_ | refine el_at (i := 5) rfl (by decide) ?_ | refine el_is rfl ?_ | refine cat_ok (a := bs (nmB 5)) (b := bs [10]) (by decide) ?_ | refine ify ?_ | refine ifn ?_ | refine i6 ?_ | refine ati ?_ | refine mst ?_ | refine rmd ?_ | refine ibo (fun _ => ?_) (fun _ => ?_)) <;> conv => whnf))
    exact rfl
end Go.Proofs.YtdbafjjmdgdjgaaDoor
