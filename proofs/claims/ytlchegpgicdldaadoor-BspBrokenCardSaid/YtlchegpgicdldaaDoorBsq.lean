/- ref20: Letter, Next; the jobs of law20: what a worker makes of its state and its inbox, and what it sends. -/
import Derived.Test.YtlchegpgicdldaaDoorBnx
import Derived.Test.YtlchegpgicdldaaDoorStr
namespace Go.Sx
open Go
theorem catB_ok {a b : ByteArray} {K : Prop} (h : a.size + b.size ≤ 9223372036854775807) (hK : K) : a.size + b.size ≤ 9223372036854775807 ∧ K := ⟨h, hK⟩
theorem u8B_is {e : Int} {K : Int → Prop} (h : 0 ≤ e ∧ e ≤ 255) (hK : K e) : ∃ n, IntKind.u8.wrap e = n ∧ K n := ⟨e, by
  have e1 : IntKind.u8.wrap e = e % 256 := rfl
  rw [e1]; omega, hK⟩
open Go.RowKit Go.Reg in
theorem Pure.laxB {C : Cx} {f : FuncId} {xs : List Da} {x z : Da} (hq : LaxA x z) (h : Pure C f xs (fun y => y = x)) : Pure C f xs (fun y => y = z) := by
  intro O w us hO hg hr
  obtain ⟨g1, g2⟩ := h O w us hO hg hr
  refine ⟨g1, g2.mono ?_⟩
  rintro e w' ⟨u, y, he, rfl, ⟨cs, hr1, hr2⟩, ht⟩
  exact ⟨u, z, he, rfl, ⟨cs, RepC.lax hq hr1, by rw [hr2]; exact laxA_toV hq cs⟩, ht⟩
end Go.Sx
namespace Go.Proofs.YtlchegpgicdldaaDoor
open Go.Sx Go.RowKit Go.Reg

set_option maxRecDepth 100000
def letB (w : Nat) : ByteArray := ⟨#[UInt8.ofNat (97 + w % 26)]⟩
def comma : ByteArray := ⟨#[44]⟩
def catL (s : ByteArray) (l : List ByteArray) : ByteArray := l.foldl (fun s x => (s ++ comma) ++ x) s
def trimB (s : ByteArray) : ByteArray := if 60 < s.size then s.extract (s.size - 60) s.size else s
def nxB (w : Nat) (s : ByteArray) (l : List ByteArray) : ByteArray := trimB (catL s l ++ letB w)
theorem catL_snoc (s : ByteArray) (l : List ByteArray) (x : ByteArray) : catL s (l ++ [x]) = (catL s l ++ comma) ++ x := by simp [catL]
theorem catL_size : ∀ (l : List ByteArray) (s : ByteArray), (∀ x ∈ l, x.size ≤ 1000) → (catL s l).size ≤ s.size + 1001 * l.length
  | [], s, _ => by simp [catL]
  | x :: l, s, h => by
    have h1 := h x (by simp)
    have h2 := catL_size l ((s ++ comma) ++ x) (fun y hy => h y (by simp [hy]))
    have h3 : catL s (x :: l) = catL ((s ++ comma) ++ x) l := rfl
    have h4 : comma.size = 1 := rfl
    rw [h3]
    simp only [ByteArray.size_append, List.length_cons] at h2 ⊢
    omega
theorem letB_size (w : Nat) : (letB w).size = 1 := rfl
theorem trimB_size (s : ByteArray) : (trimB s).size ≤ 60 := by
  unfold trimB
  split
  · rw [ByteArray.size_extract]; omega
  · omega
theorem nxB_size (w : Nat) (s : ByteArray) (l : List ByteArray) : (nxB w s l).size ≤ 60 := trimB_size _
def pl_r20l : List (Nat × Plan) := []
def G_r20l : List FuncId := []
theorem cok_r20l : codeOk Tryd.prog G_r20l pl_r20l (Tryd.f12.body.getD .skip) = true := by kernel_rfl
theorem run_r20l (vs : Array Value) (w : World) : (callFunc 12 vs).run C1.P w = .ok (.enter 12 vs) w := by kernel_rfl
theorem letter_pure (w : Nat) (hw : w ≤ 1000) : Pure C1 12 [.int .i64 w] (fun y => y = .str (letB w)) := by
  have hd2 : (w : Int).tmod 26 = ((w % 26 : Nat) : Int) := by rw [Int.tmod_eq_emod_of_nonneg (by omega)]; omega
  have e3 : (97 + ((w % 26 : Nat) : Int)).toNat = 97 + w % 26 := by omega
  refine pure_of c1_ok (pl := pl_r20l) (G := G_r20l) Tryd.func12 rfl Tryd.ntmps12 run_r20l cok_r20l (by simp) ?_
  (conv => whnf)
  (repeat' ((first | refine ord_ok (by (conv => whnf); (repeat' ((first | refine u8B_is (by omega) ?_ | refine ify ?_ | refine ifn ?_ | refine i6 ?_ | refine ati ?_ | refine mst ?_ | refine rmd ?_ | refine ibo (fun _ => ?_) (fun _ => ?_)) <;> conv => whnf)); (all_goals (repeat' (first | exact trivial | exact rfl | refine And.intro ?_ ?_)))) ?_ | refine u8B_is (by omega) ?_ | refine ify ?_ | refine ifn ?_ | refine i6 ?_ | refine ati ?_ | refine mst ?_ | refine rmd ?_ | refine ibo (fun _ => ?_) (fun _ => ?_)) <;> conv => whnf))
  rw [hd2]
  refine op_str1 c1_ok rfl rfl rfl rfl rfl rfl rfl rfl rfl rfl rfl rfl ?_
  rw [e3]
  ((conv => whnf); repeat' ((first | refine odw ?_ | refine ify ?_ | refine ifn ?_ | refine i6 ?_ | refine ati ?_ | refine mst ?_ | refine rmd ?_ | refine ibo (fun _ => ?_) (fun _ => ?_)) <;> conv => whnf))
  exact rfl
def dTx (s : ByteArray) : Da := .str s
def dIB (n : Int) : Da := .int .i64 n
def dTB (l : List Int) : Da := .list 1 (l.map dIB)
def dMB (m : Int × ByteArray) : Da := .agg [.int .i64 m.1, .str m.2]
def mailsB (to : List (List Int)) (w : Nat) (s : ByteArray) : List (Int × ByteArray) := ((to[w]?).getD []).map fun n => (n, s)
def pl_r20n : List (Nat × Plan) := []
def G_r20n : List FuncId := []
theorem cok_r20n : codeOk Tryd.prog G_r20n pl_r20n (Tryd.f42.body.getD .skip) = true := by kernel_rfl
theorem run_r20n (vs : Array Value) (w : World) : (callFunc 42 vs).run C1.P w = .ok (.enter 42 vs) w := by kernel_rfl
theorem next_pure (w : Nat) (s : ByteArray) (l : List ByteArray) (hw : w ≤ 1000) (hs : s.size ≤ 1000) (hl : l.length ≤ 100000) (hb : ∀ x ∈ l, x.size ≤ 1000) :
    Pure C1 42 [.int .i64 w, .str s, .list 1 (l.map dTx)] (fun y => y = .str (nxB w s l)) := by
  have hlm : (l.map dTx).length = l.length := List.length_map _
  have hlet := letter_pure w hw
  have hz : ∀ i, (catL s (l.take i)).size ≤ 200000000 := fun i => by
    have h1 := catL_size (l.take i) s (fun x hx => hb x (List.mem_of_mem_take hx))
    rw [List.length_take] at h1
    omega
  refine pure_of c1_ok (pl := pl_r20n) (G := G_r20n) Tryd.func42 rfl Tryd.ntmps42 run_r20n cok_r20n (by simp) ?_
  ((conv => whnf); repeat' ((first | refine odw ?_ | refine ify ?_ | refine ifn ?_ | refine i6 ?_ | refine ati ?_ | refine mst ?_ | refine rmd ?_ | refine ibo (fun _ => ?_) (fun _ => ?_)) <;> conv => whnf))
  refine loop_lo (ι := Nat) (fun i => i ≤ l.length) (fun i => [(8, .d (.int .i64 (i : Nat))), (7, .d (.str (catL s (l.take i)))), (2, .d (.list 1 (l.map dTx))), (0, .d (.int .i64 w))]) (fun _ => []) (fun i => l.length - i) 0 (fun _ => rfl) (by simp) (.refl _ _) ⟨rfl, rfl, rfl, rfl, trivial⟩ trivial ?_
  intro i hi
  have hzi := hz i
  refine sxCode_sound c1_ok (G := G_r20n) (pl := pl_r20n) _ _ _ _ (by kernel_rfl) ?_
  by_cases hlt : i < l.length
  · have hx : l[i]? = some l[i] := List.getElem?_eq_getElem hlt
    have hxs := hb _ (List.getElem_mem hlt)
    have htk : catL s (l.take (i + 1)) = (catL s (l.take i) ++ comma) ++ l[i] := by rw [List.take_add_one, hx, Option.toList_some, catL_snoc]
    generalize l[i] = x at hx hxs htk
    have hxd : (l.map dTx)[i]? = some (.str x) := by rw [List.getElem?_map, hx]; rfl
    have hc1 : (catL s (l.take i) ++ comma).size = (catL s (l.take i)).size + 1 := by rw [ByteArray.size_append]; rfl
    (conv => whnf)
    (repeat' ((first | refine ord_ok (by (conv => whnf); (repeat' ((first | refine at_da hxd rfl ?_ | refine catB_ok (a := catL s (l.take i)) (b := comma) (by have : comma.size = 1 := rfl; omega) ?_ | refine catB_ok (a := catL s (l.take i) ++ comma) (by omega) ?_ | refine ify ?_ | refine ifn ?_ | refine i6 ?_ | refine ati ?_ | refine mst ?_ | refine rmd ?_ | refine ibo (fun _ => ?_) (fun _ => ?_)) <;> conv => whnf)); (all_goals (repeat' (first | exact trivial | exact rfl | refine And.intro ?_ ?_)))) ?_ | refine at_da hxd rfl ?_ | refine catB_ok (a := catL s (l.take i)) (b := comma) (by have : comma.size = 1 := rfl; omega) ?_ | refine catB_ok (a := catL s (l.take i) ++ comma) (by omega) ?_ | refine ify ?_ | refine ifn ?_ | refine i6 ?_ | refine ati ?_ | refine mst ?_ | refine rmd ?_ | refine ibo (fun _ => ?_) (fun _ => ?_)) <;> conv => whnf))
    exact ⟨i + 1, _, _, hlt, .refl _ _, ⟨rfl, by rw [htk]; rfl, rfl, rfl, trivial⟩, trivial, by omega⟩
  · have hii : l.take i = l := List.take_of_length_le (by omega)
    rw [hii] at hzi ⊢
    have hc1 : (catL s l ++ letB w).size = (catL s l).size + 1 := by rw [ByteArray.size_append, letB_size]
    by_cases h6 : 60 < (catL s l ++ letB w).size
    · have he : nxB w s l = (catL s l ++ letB w).extract ((catL s l ++ letB w).size - 60) (catL s l ++ letB w).size := by unfold nxB trimB; rw [if_pos h6]
      (conv => whnf)
      (repeat' ((first | refine ord_ok (by (conv => whnf); (repeat' ((first | refine call_eq rfl hlet ?_ | refine catB_ok (by have := letB_size w; omega) ?_ | refine ify ?_ | refine ifn ?_ | refine i6 ?_ | refine ati ?_ | refine mst ?_ | refine rmd ?_ | refine ibo (fun _ => ?_) (fun _ => ?_)) <;> conv => whnf)); (all_goals (repeat' (first | exact trivial | exact rfl | refine And.intro ?_ ?_)))) ?_ | refine call_eq rfl hlet ?_ | refine catB_ok (by have := letB_size w; omega) ?_ | refine ify ?_ | refine ifn ?_ | refine i6 ?_ | refine ati ?_ | refine mst ?_ | refine rmd ?_ | refine ibo (fun _ => ?_) (fun _ => ?_)) <;> conv => whnf))
      refine op_strSl ((catL s l ++ letB w).size - 60) (catL s l ++ letB w).size c1_ok rfl rfl rfl rfl ⟨_, rfl, by omega⟩ rfl (by omega) (by omega) rfl rfl ?_
      ((conv => whnf); repeat' ((first | refine odw ?_ | refine ify ?_ | refine ifn ?_ | refine i6 ?_ | refine ati ?_ | refine mst ?_ | refine rmd ?_ | refine ibo (fun _ => ?_) (fun _ => ?_)) <;> conv => whnf))
      rw [he]
      exact rfl
    · have he : nxB w s l = catL s l ++ letB w := by unfold nxB trimB; rw [if_neg h6]
      (conv => whnf)
      (repeat' ((first | refine ord_ok (by (conv => whnf); (repeat' ((first | refine call_eq rfl hlet ?_ | refine catB_ok (by have := letB_size w; omega) ?_ | refine ify ?_ | refine ifn ?_ | refine i6 ?_ | refine ati ?_ | refine mst ?_ | refine rmd ?_ | refine ibo (fun _ => ?_) (fun _ => ?_)) <;> conv => whnf)); (all_goals (repeat' (first | exact trivial | exact rfl | refine And.intro ?_ ?_)))) ?_ | refine call_eq rfl hlet ?_ | refine catB_ok (by have := letB_size w; omega) ?_ | refine ify ?_ | refine ifn ?_ | refine i6 ?_ | refine ati ?_ | refine mst ?_ | refine rmd ?_ | refine ibo (fun _ => ?_) (fun _ => ?_)) <;> conv => whnf))
      rw [he]
      exact rfl
def pl_jbw : List (Nat × Plan) := []
def G_jbw : List FuncId := []
theorem cok_jbw : codeOk Tryd.prog G_jbw pl_jbw (Tryd.f100.body.getD .skip) = true := by kernel_rfl
theorem run_jbw (vs : Array Value) (w : World) : (callFunc 100 vs).run C1.P w = .ok (.enter 100 vs) w := by kernel_rfl
theorem jobwork_pure (to : List (List Int)) (w : Nat) (r : Int) (s : ByteArray) (l : List ByteArray) (hw : w ≤ 1000) (hs : s.size ≤ 1000) (hl : l.length ≤ 100000) (hb : ∀ x ∈ l, x.size ≤ 1000) (_hto : to.length ≤ 100000) (htl : ∀ x ∈ to, x.length ≤ 100000) :
    Pure C1 100 [.agg [.list 1 (to.map dTB)], .int .i64 w, .int .i64 r, .str s, .list 1 (l.map dTx)] (fun y => y = .tuple [.str (nxB w s l), .list 2 ((mailsB to w s).map dMB), .nili]) := by
  have hlm : (to.map dTB).length = to.length := List.length_map _
  have hnx := next_pure w s l hw hs hl hb
  by_cases hlt : w < to.length
  · have hx : to[w]? = some to[w] := List.getElem?_eq_getElem hlt
    have hxs := htl _ (List.getElem_mem hlt)
    have hmb : mailsB to w s = (to[w]).map fun n => (n, s) := by unfold mailsB; rw [hx]; rfl
    rw [hmb]
    generalize to[w] = ns at hx hxs
    have hxd : (to.map dTB)[w]? = some (.list 1 (ns.map dIB)) := by rw [List.getElem?_map, hx]; rfl
    have hnm : (ns.map dIB).length = ns.length := List.length_map _
    refine pure_of c1_ok (pl := pl_jbw) (G := G_jbw) Tryd.func100 rfl Tryd.ntmps100 run_jbw cok_jbw (by simp) ?_
    ((conv => whnf); repeat' ((first | refine odw ?_ | refine ify ?_ | refine ifn ?_ | refine i6 ?_ | refine ati ?_ | refine mst ?_ | refine rmd ?_ | refine ibo (fun _ => ?_) (fun _ => ?_)) <;> conv => whnf))
    refine loop_lo (ι := Nat) (fun i => i ≤ ns.length) (fun i => [(14, .d (.int .i64 (i : Nat))), (13, .own 13), (5, .own 5), (4, .d (.list 1 (l.map dTx))), (3, .d (.str s)), (1, .d (.int .i64 w))])
      (fun i => [(5, .cells 33 [.d (.list 1 (to.map dTB))]), (13, .slice 77 2 (((ns.take i).map fun n => (n, s)).map dMB))]) (fun i => ns.length - i) 0 (fun _ => rfl) (by simp) (.own 13 13 77 2 rfl rfl (.refl _ _)) ⟨rfl, rfl, rfl, rfl, rfl, rfl, trivial⟩ ⟨rfl, rfl, trivial⟩ ?_
    intro i hi
    have hlen : (((ns.take i).map fun n => (n, s)).map dMB).length = i := by rw [List.length_map, List.length_map, List.length_take]; omega
    refine sxCode_sound c1_ok (G := G_jbw) (pl := pl_jbw) _ _ _ _ (by kernel_rfl) ?_
    by_cases hil : i < ns.length
    · have hy : ns[i]? = some ns[i] := List.getElem?_eq_getElem hil
      have htk : (((ns.take (i + 1)).map fun n => (n, s)).map dMB) = (((ns.take i).map fun n => (n, s)).map dMB) ++ [dMB (ns[i], s)] := by rw [List.take_add_one, hy, Option.toList_some, List.map_append, List.map_append]; rfl
      generalize ns[i] = y at hy htk
      have hyd : (ns.map dIB)[i]? = some (.int .i64 y) := by rw [List.getElem?_map, hy]; rfl
      (conv => whnf)
      (repeat' ((first | refine ord_ok (by (conv => whnf); (repeat' ((first | refine at_da hxd rfl ?_ | refine at_da hyd rfl ?_ | refine ify ?_ | refine ifn ?_ | refine i6 ?_ | refine ati ?_ | refine mst ?_ | refine rmd ?_ | refine ibo (fun _ => ?_) (fun _ => ?_)) <;> conv => whnf)); (all_goals (repeat' (first | exact trivial | exact rfl | refine And.intro ?_ ?_)))) ?_ | refine at_da hxd rfl ?_ | refine at_da hyd rfl ?_ | refine ify ?_ | refine ifn ?_ | refine i6 ?_ | refine ati ?_ | refine mst ?_ | refine rmd ?_ | refine ibo (fun _ => ?_) (fun _ => ?_)) <;> conv => whnf))
      exact ⟨i + 1, _, _, hil, .refl _ _, ⟨rfl, rfl, rfl, rfl, rfl, rfl, trivial⟩, ⟨rfl, by rw [htk]; rfl, trivial⟩, by omega⟩
    · have hii : ns.take i = ns := List.take_of_length_le (by omega)
      rw [hii] at hlen ⊢
      (conv => whnf)
      (repeat' ((first | refine ord_ok (by (conv => whnf); (repeat' ((first | refine at_da hxd rfl ?_ | refine call_eq rfl hnx ?_ | refine ify ?_ | refine ifn ?_ | refine i6 ?_ | refine ati ?_ | refine mst ?_ | refine rmd ?_ | refine ibo (fun _ => ?_) (fun _ => ?_)) <;> conv => whnf)); (all_goals (repeat' (first | exact trivial | exact rfl | refine And.intro ?_ ?_)))) ?_ | refine at_da hxd rfl ?_ | refine call_eq rfl hnx ?_ | refine ify ?_ | refine ifn ?_ | refine i6 ?_ | refine ati ?_ | refine mst ?_ | refine rmd ?_ | refine ibo (fun _ => ?_) (fun _ => ?_)) <;> conv => whnf))
      exact rfl
  · have hmb : mailsB to w s = [] := by unfold mailsB; rw [List.getElem?_eq_none (by omega)]; rfl
    rw [hmb]
    refine Pure.laxB (x := .tuple [.str (nxB w s l), .nils, .nili]) (.tuple (.cons (.refl _) (.cons (.nils 2) (.cons (.refl _) .nil)))) ?_
    refine pure_of c1_ok (pl := pl_jbw) (G := G_jbw) Tryd.func100 rfl Tryd.ntmps100 run_jbw cok_jbw (by simp) ?_
    (conv => whnf)
    (repeat' ((first | refine ord_ok (by (conv => whnf); (repeat' ((first | refine call_eq rfl hnx ?_ | refine ify ?_ | refine ifn ?_ | refine i6 ?_ | refine ati ?_ | refine mst ?_ | refine rmd ?_ | refine ibo (fun _ => ?_) (fun _ => ?_)) <;> conv => whnf)); (all_goals (repeat' (first | exact trivial | exact rfl | refine And.intro ?_ ?_)))) ?_ | refine call_eq rfl hnx ?_ | refine ify ?_ | refine ifn ?_ | refine i6 ?_ | refine ati ?_ | refine mst ?_ | refine rmd ?_ | refine ibo (fun _ => ?_) (fun _ => ?_)) <;> conv => whnf))
    exact rfl
def pl_bkw : List (Nat × Plan) := []
def G_bkw : List FuncId := []
theorem cok_bkw : codeOk Tryd.prog G_bkw pl_bkw (Tryd.f101.body.getD .skip) = true := by kernel_rfl
theorem run_bkw (vs : Array Value) (w : World) : (callFunc 101 vs).run C1.P w = .ok (.enter 101 vs) w := by kernel_rfl
def brokenS : ByteArray := ⟨#[98, 114, 111, 107, 101, 110]⟩
theorem brwork_bad (at' : Int) (r : Int) (s : ByteArray) (l : List ByteArray) :
    Pure C1 101 [.agg [.int .i64 at'], .int .i64 at', .int .i64 r, .str s, .list 1 (l.map dTx)] (fun y => y = .tuple [.str ⟨#[]⟩, .nils, dF 7 at' brokenS]) := by
  refine pure_of c1_ok (pl := pl_bkw) (G := G_bkw) Tryd.func101 rfl Tryd.ntmps101 run_bkw cok_bkw (by simp) ?_
  (conv => whnf)
  (repeat' ((first | refine ord_ok (by (conv => whnf); (repeat' ((first | refine call_eq rfl (fnew_pure 7 at' brokenS) ?_ | refine ify ?_ | refine ifn ?_ | refine i6 ?_ | refine ati ?_ | refine mst ?_ | refine rmd ?_ | refine ibo (fun _ => ?_) (fun _ => ?_)) <;> conv => whnf)); (all_goals (repeat' (first | exact trivial | exact rfl | refine And.intro ?_ ?_)))) ?_ | refine call_eq rfl (fnew_pure 7 at' brokenS) ?_ | refine ify ?_ | refine ifn ?_ | refine i6 ?_ | refine ati ?_ | refine mst ?_ | refine rmd ?_ | refine ibo (fun _ => ?_) (fun _ => ?_)) <;> conv => whnf))
  exact rfl
theorem brwork_ok (at' w : Int) (h : w ≠ at') (r : Int) (s : ByteArray) (hs : s.size ≤ 1000) (l : List ByteArray) :
    Pure C1 101 [.agg [.int .i64 at'], .int .i64 w, .int .i64 r, .str s, .list 1 (l.map dTx)] (fun y => y = .tuple [.str (s ++ ⟨#[33]⟩), .list 2 ([(0, ⟨#[109]⟩)].map dMB), .nili]) := by
  refine pure_of c1_ok (pl := pl_bkw) (G := G_bkw) Tryd.func101 rfl Tryd.ntmps101 run_bkw cok_bkw (by simp) ?_
  (conv => whnf)
  (repeat' ((first | refine ord_ok (by (conv => whnf); (repeat' ((first | refine catB_ok (a := s) (b := ⟨#[33]⟩) (by have : (ByteArray.mk #[33]).size = 1 := rfl; omega) ?_ | refine ify ?_ | refine ifn ?_ | refine i6 ?_ | refine ati ?_ | refine mst ?_ | refine rmd ?_ | refine ibo (fun _ => ?_) (fun _ => ?_)) <;> conv => whnf)); (all_goals (repeat' (first | exact trivial | exact rfl | refine And.intro ?_ ?_)))) ?_ | refine catB_ok (a := s) (b := ⟨#[33]⟩) (by have : (ByteArray.mk #[33]).size = 1 := rfl; omega) ?_ | refine ify ?_ | refine ifn ?_ | refine i6 ?_ | refine ati ?_ | refine mst ?_ | refine rmd ?_ | refine ibo (fun _ => ?_) (fun _ => ?_)) <;> conv => whnf))
  exact rfl
end Go.Proofs.YtlchegpgicdldaaDoor
