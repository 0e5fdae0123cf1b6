/- Merged: Ptx Flx Flt. -/
import Derived.Test.YteigfapjiekdnaaGreatDoorKfaz
import Derived.Test.YteigfapjiekdnaaGreatDoorKfaf
import Derived.Lib.Join
import Derived.Test.YteigfapjiekdnaaGreatDoorRows
import Derived.Test.YteigfapjiekdnaaGreatDoorTrc
import Derived.Test.YteigfapjiekdnaaGreatDoorMem
import Derived.WalkSpells
import Derived.WalkLawsBesides
section
/- strconv.Itoa, strings.Join, told for the engine (the table of powers is known). pat: Text. -/
namespace Go.Gr
open Go
theorem itoa_nat (n : Nat) : Lib.itoa n = Lib.decDigits n := by
  unfold Lib.itoa
  rw [if_neg (by omega)]; simp
theorem itoa_len {n : Int} (h0 : 0 ≤ n) (h1 : n ≤ 999999) : (Lib.itoa n).length ≤ 6 := by
  obtain ⟨k, rfl⟩ := Int.eq_ofNat_of_zero_le h0
  rw [itoa_nat]
  exact dd_len6 k (by omega)
theorem join_two (x y : List UInt8) (r : List (List UInt8)) (sep : List UInt8) : Lib.join (x :: y :: r) sep = x ++ (sep ++ Lib.join (y :: r) sep) := by
  simp [Lib.join, List.intercalate]
theorem join_len {m : Nat} (sep : List UInt8) : ∀ xs : List (List UInt8), (∀ x ∈ xs, x.length ≤ m) → (Lib.join xs sep).length ≤ xs.length * (m + sep.length)
  | [], _ => by rw [Lib.join_nil]; simp
  | [x], h => by
    have := h x (.head _)
    rw [Lib.join_one, List.length_singleton]; omega
  | x :: y :: r, h => by
    have h1 := join_len sep (y :: r) (fun z hz => h z (.tail _ hz))
    have h2 := h x (.head _)
    rw [join_two, List.length_append, List.length_append, List.length_cons, Nat.add_mul, Nat.one_mul]; omega
/-- an edge's text -/
def edgB (e : Edg) : List UInt8 := Lib.itoa e.a ++ 45 :: Lib.itoa e.b
/-- a pattern's text -/
def patB (p : Pt) : List UInt8 := Lib.join (p.labels.map Lib.itoa) [44] ++ 124 :: Lib.join (p.edges.map edgB) [44]
end Go.Gr
namespace Go.Proofs.YteigfapjiekdnaaGreatDoor
open Go.Sx Go.RowKit Go.Reg Go.Gr Go.Shelf

set_option maxRecDepth 100000
theorem joinX : Builder.Extra Tryz.prog Tryz.joinL_ren where
  sizeBuilder := by kernel_rfl
  liesBuilder := by kernel_rfl
  t5 := Tryz.underlying5
  a5 := by intro w; kernel_rfl
  z5 := by intro w; kernel_rfl
  v5 := by intro w; kernel_rfl
  infoByte := by kernel_rfl
  cellsByte := by kernel_rfl
  sizeByte := by kernel_rfl
  neB5 := by decide
/-- with the table of powers -/
noncomputable def C3 : Cx := ⟨Tryz.prog, C1.Γ ++ [(1, .agg (Lib.pow10Tab.map (Da.int .u64)))]⟩
theorem memTab3 : (1, Da.agg (Lib.pow10Tab.map (Da.int .u64))) ∈ C3.Γ := List.mem_append_right _ (.head _)
theorem c3_ok : C3.Ok tab := ⟨c1_ok.tab, c1_ok.mixed⟩
theorem Pure.up3 {f : FuncId} {xs : List Da} {Q : Da → Prop} (h : Sx.Pure C1 f xs Q) : Sx.Pure C3 f xs Q := fun O w vs h1 h2 h3 => h O w vs h1 (fun g hg => h2 g (List.mem_append_left _ hg)) h3
theorem itoa3_pure (n : Int) (h0 : -9223372036854775808 ≤ n) (h1 : n ≤ 9223372036854775807) : Sx.Pure C3 128 [.int .i64 n] (fun y => y = .str (bs (Lib.itoa n))) := by
  intro O w us hO hg hr
  obtain ⟨v, vs, rfl, h3, h2⟩ := reps_inv hr
  obtain rfl := reps_inv0 h2
  obtain rfl := rep_int h3
  refine ⟨by kernel_rfl, (Any.strconv_Itoa Tryz.itoaL n h0 h1 w (tab_of hg memTab3 (by kernel_rfl))).mono ?_⟩
  rintro e w' ⟨rfl, k, os, rfl⟩
  refine ⟨_, _, rfl, rfl, ⟨[_], by simp only [RepC]; rfl, rfl⟩, ⟨rfl, rfl, rfl, by rw [Go.Sort.size_grow]; exact Nat.le_add_right _ _, fun b hb _ => Go.Sort.heap_grow_old (w.drewN k) os hb⟩⟩
def strD (x : List UInt8) : Da := .str (bs x)
theorem strs_css {O : List Nat} {w : World} : ∀ {xs : List (List UInt8)} {css : List (List Value)}, RepCss O w (xs.map strD) css → css = xs.map fun x => [Value.string (bs x)]
  | [], css, h => by simpa only [List.map_nil, RepCss] using h
  | x :: xs, css, h => by
    simp only [List.map_cons, RepCss, strD, RepC] at h
    obtain ⟨c1, c2, rfl, rfl, h⟩ := h
    rw [strs_css h]; rfl
theorem strs_flat (xs : List (List UInt8)) : (xs.map fun x => [Value.string (bs x)]).flatten = xs.map fun x => Value.string (bs x) := by
  induction xs with
  | nil => rfl
  | cons x xs ih => simp only [List.map_cons, List.flatten_cons, ih]; rfl
theorem join_pure (C : Cx) (hC : C.P = Tryz.prog) (xs : List (List UInt8)) (sep : List UInt8) (hN : xs.length ≤ 1000000) (hlen : (Lib.join xs sep).length ≤ 140737488355328) : Sx.Pure C 129 [.list 1 (xs.map strD), .str (bs sep)] (fun y => y = .str (bs (Lib.join xs sep))) := by
  intro O w us hO hg hr
  obtain ⟨v, vs, rfl, h3, h2⟩ := reps_inv hr
  obtain ⟨v2, vs2, rfl, h4, h5⟩ := reps_inv h2
  obtain rfl := reps_inv0 h5
  obtain rfl := rep_str h4
  obtain ⟨cs, r, rfl⟩ := h3
  simp only [RepC] at r
  obtain ⟨a, c, css, rfl, hc, _, hcs, _, hcell⟩ := r
  have hb : ∀ w' : World, Below w.heap.size w w' → Tch [] w w' := fun w' h => ⟨h.os, h.tape, h.output, h.size, fun b hb _ => h.block b hb⟩
  obtain rfl := strs_css hcs
  rw [List.length_map] at hc
  rw [hC]
  refine ⟨by kernel_rfl, ?_⟩
  show Calls Tryz.prog 129 #[.slice a (xs.map strD).length c, .string (bs sep)] w _
  rw [List.length_map]
  cases xs with
  | nil =>
    refine (Any.strings_Join_none Tryz.joinL joinX a c (bs sep) w).mono ?_
    rintro e w' ⟨rfl, rfl⟩
    exact ⟨_, _, rfl, rfl, ⟨[_], by simp only [RepC]; rfl, rfl⟩, Tch.refl _ _⟩
  | cons x xs =>
    obtain ⟨b, o, rfl, _, hbl, hcl⟩ := hcell.resolve_left (by simp)
    rw [strs_flat] at hcl
    have hmap : ((x :: xs).map bs).map (·.data.toList) = x :: xs := by
      rw [List.map_map]
      have : ((fun y : ByteArray => y.data.toList) ∘ bs) = id := by funext z; simp [bs]
      rw [this, List.map_id]
    have := Any.strings_Join Tryz.joinL joinX b o c ((x :: xs).map bs) (bs sep) w (fun j y hy => by
      refine hcl j (.string y) ?_
      rw [List.getElem?_map] at hy ⊢
      obtain ⟨z, hz, rfl⟩ := Option.map_eq_some_iff.1 hy
      rw [hz]; rfl) hbl (by rw [List.length_map]; omega) (by rw [List.length_map]; exact hc) (by rw [hmap]; exact hlen)
    rw [hmap, List.length_map] at this
    refine this.mono ?_
    rintro e w' ⟨rfl, h⟩
    exact ⟨_, _, rfl, rfl, ⟨[_], by simp only [RepC]; rfl, rfl⟩, hb _ h⟩
def pl_ptx : List (Nat × Plan) := [(10, .leaf [0, 0, 1, 2, 0, 0, 1, 2, 0, 6, 3, 0] [0, 1, 5, 2, 6, 3, 4, 7, 8, 9, 10, 11] [0, 0, 2, 6, 14, 0, 32, 110, 254, 510, 1023, 2047])]
def G_ptx : List FuncId := [128, 129]
theorem cok_ptx : codeOk Tryz.prog G_ptx pl_ptx (Tryz.f71.body.getD .skip) = true := by kernel_rfl
theorem run_ptx (vs : Array Value) (w : World) : (callFunc 71 vs).run C1.P w = .ok (.enter 71 vs) w := by kernel_rfl
set_option maxHeartbeats 4000000 in
theorem ptext_pure (p : Pt) (hl : p.labels.length ≤ 1000) (hll : ∀ x ∈ p.labels, 0 ≤ x ∧ x ≤ 999999) (he : p.edges.length ≤ 1000) (hee : ∀ e ∈ p.edges, (0 ≤ e.a ∧ e.a ≤ 999999) ∧ 0 ≤ e.b ∧ e.b ≤ 999999) : Sx.Pure C3 71 [dPt p] (fun y => y = .str (bs (patB p))) := by
  have hdl : (p.labels.map dI).length = p.labels.length := List.length_map _
  have hde : (p.edges.map dE).length = p.edges.length := List.length_map _
  refine pure_of c3_ok (pl := pl_ptx) (G := G_ptx) Tryz.func71 rfl Tryz.ntmps71 run_ptx cok_ptx (by simp) ?_
  ((conv => whnf); repeat' ((first | refine odw ?_ | refine ify ?_ | refine ifn ?_ | refine i6 ?_ | refine ati ?_ | refine mst ?_ | refine rmd ?_ | refine ibo (fun _ => ?_) (fun _ => ?_)) <;> conv => whnf))
  refine loop_lo (ι := Nat) (fun i => i ≤ p.labels.length) (fun i => [(12, .d (.int .i64 i)), (11, .d (.int .i64 p.labels.length)), (10, .d (dIs p.labels)), (4, .d .nils), (3, .own 300), (1, .own 1)]) (fun i => [(1, .cells 38 [.d (dIs p.labels), .d (dEs p.edges)]), (300, .slice 9 1 (((p.labels.take i).map Lib.itoa).map strD))]) (fun i => p.labels.length - i) 0 (fun _ => rfl) (Nat.zero_le _) (.own 3 300 9 1 rfl rfl (.refl _ _)) ⟨rfl, by rw [← hdl]; rfl, rfl, rfl, rfl, rfl, trivial⟩ ⟨rfl, rfl, trivial⟩ ?_
  intro i hi
  refine sxCode_sound c3_ok (G := G_ptx) (pl := pl_ptx) _ _ _ _ (by kernel_rfl) ?_
  by_cases hil : i < p.labels.length
  · have hx := List.getElem?_eq_getElem hil
    have hxb := hll _ (List.getElem_mem hil)
    generalize p.labels[i] = x at hx hxb
    have hxd : (p.labels.map dI)[i]? = some (.int .i64 x) := by rw [List.getElem?_map, hx]; rfl
    have hit := itoa3_pure x (by omega) (by omega)
    have hlen : (((p.labels.take i).map Lib.itoa).map strD).length = i := by simp only [List.length_map, List.length_take]; omega
    (conv => whnf)
    (repeat' ((first | refine ord_ok (by (conv => whnf); (repeat' ((first | refine at_da hxd rfl ?_ | refine call_eqb tab rfl hit rfl ?_ | refine ify ?_ | refine ifn ?_ | refine i6 ?_ | refine ati ?_ | refine mst ?_ | refine rmd ?_ | refine ibo (fun _ => ?_) (fun _ => ?_)) <;> conv => whnf)); (all_goals (repeat' (first | exact trivial | exact rfl | refine And.intro ?_ ?_)))) ?_ | refine at_da hxd rfl ?_ | refine call_eqb tab rfl hit rfl ?_ | refine ify ?_ | refine ifn ?_ | refine i6 ?_ | refine ati ?_ | refine mst ?_ | refine rmd ?_ | refine ibo (fun _ => ?_) (fun _ => ?_)) <;> conv => whnf))
    refine ⟨i + 1, _, _, by omega, .refl _ _, ⟨rfl, rfl, rfl, rfl, rfl, rfl, trivial⟩, ⟨rfl, slice_is ?_, trivial⟩, by omega⟩
    rw [List.take_add_one, hx]; simp [strD]
  · have e : p.labels.take i = p.labels := List.take_of_length_le (by omega)
    rw [e]
    ((conv => whnf); repeat' ((first | refine odw ?_ | refine ify ?_ | refine ifn ?_ | refine i6 ?_ | refine ati ?_ | refine mst ?_ | refine rmd ?_ | refine ibo (fun _ => ?_) (fun _ => ?_)) <;> conv => whnf))
    refine loop_lo (ι := Nat) (fun i => i ≤ p.edges.length) (fun i => [(25, .d (.int .i64 i)), (24, .d (.int .i64 p.edges.length)), (23, .d (dEs p.edges)), (4, .own 301), (3, .own 300), (1, .own 1)]) (fun i => [(1, .cells 38 [.d (dIs p.labels), .d (dEs p.edges)]), (300, .slice 9 1 ((p.labels.map Lib.itoa).map strD)), (301, .slice 9 1 (((p.edges.take i).map edgB).map strD))]) (fun i => p.edges.length - i) 0 (fun _ => rfl) (Nat.zero_le _) (.own 4 301 9 1 rfl rfl (.refl _ _)) ⟨rfl, by rw [← hde]; rfl, rfl, rfl, rfl, rfl, trivial⟩ ⟨rfl, rfl, rfl, trivial⟩ ?_
    intro j hj
    refine sxCode_sound c3_ok (G := G_ptx) (pl := pl_ptx) _ _ _ _ (by kernel_rfl) ?_
    by_cases hjl : j < p.edges.length
    · have hx := List.getElem?_eq_getElem hjl
      have hxb := hee _ (List.getElem_mem hjl)
      generalize p.edges[j] = e at hx hxb
      have hxd : (p.edges.map dE)[j]? = some (.agg [.int .i64 e.a, .int .i64 e.b]) := by rw [List.getElem?_map, hx]; rfl
      have hia := itoa3_pure e.a (by omega) (by omega)
      have hib := itoa3_pure e.b (by omega) (by omega)
      have la := itoa_len hxb.1.1 hxb.1.2
      have lb := itoa_len hxb.2.1 hxb.2.2
      have za := bs_size (Lib.itoa e.a)
      have zb := bs_size (Lib.itoa e.b)
      have zc : (bs (Lib.itoa e.a) ++ bs [45]).size = (Lib.itoa e.a).length + 1 := by rw [bs_cat, bs_size]; simp
      have hlen : (((p.edges.take j).map edgB).map strD).length = j := by simp only [List.length_map, List.length_take]; omega
      (conv => whnf)
      (repeat' ((first | refine ord_ok (by (conv => whnf); (repeat' ((first | refine at_da hxd rfl ?_ | refine call_eqb tab rfl hia rfl ?_ | refine call_eqb tab rfl hib rfl ?_ | refine cat_ok (a := bs (Lib.itoa e.a)) (b := bs [45]) (by rw [za]; simp [bs_size]; omega) ?_ | refine cat_ok (a := bs (Lib.itoa e.a) ++ bs [45]) (b := bs (Lib.itoa e.b)) (by omega) ?_ | refine ify ?_ | refine ifn ?_ | refine i6 ?_ | refine ati ?_ | refine mst ?_ | refine rmd ?_ | refine ibo (fun _ => ?_) (fun _ => ?_)) <;> conv => whnf)); (all_goals (repeat' (first | exact trivial | exact rfl | refine And.intro ?_ ?_)))) ?_ | refine at_da hxd rfl ?_ | refine call_eqb tab rfl hia rfl ?_ | refine call_eqb tab rfl hib rfl ?_ | refine cat_ok (a := bs (Lib.itoa e.a)) (b := bs [45]) (by rw [za]; simp [bs_size]; omega) ?_ | refine cat_ok (a := bs (Lib.itoa e.a) ++ bs [45]) (b := bs (Lib.itoa e.b)) (by omega) ?_ | refine ify ?_ | refine ifn ?_ | refine i6 ?_ | refine ati ?_ | refine mst ?_ | refine rmd ?_ | refine ibo (fun _ => ?_) (fun _ => ?_)) <;> conv => whnf))
      refine ⟨j + 1, _, _, by omega, .refl _ _, ⟨rfl, rfl, rfl, rfl, rfl, rfl, trivial⟩, ⟨rfl, rfl, slice_is ?_, trivial⟩, by omega⟩
      have hs : strD (edgB e) = .str ((bs (Lib.itoa e.a) ++ bs [45]) ++ bs (Lib.itoa e.b)) := by unfold strD edgB; rw [bs_cat, bs_cat]; simp
      rw [List.take_add_one, hx, List.map_append, List.map_append]
      show _ = _ ++ [strD (edgB e)]
      rw [hs]; rfl
    · have e : p.edges.take j = p.edges := List.take_of_length_le (by omega)
      rw [e]
      have l1 := join_len (m := 6) [44] (p.labels.map Lib.itoa) (fun x hx => by
        obtain ⟨y, hy, rfl⟩ := List.mem_map.1 hx
        exact itoa_len (hll y hy).1 (hll y hy).2)
      have l2 := join_len (m := 13) [44] (p.edges.map edgB) (fun x hx => by
        obtain ⟨y, hy, rfl⟩ := List.mem_map.1 hx
        have := hee y hy
        have h1 := itoa_len this.1.1 this.1.2
        have h2 := itoa_len this.2.1 this.2.2
        unfold edgB
        rw [List.length_append, List.length_cons]; omega)
      rw [List.length_map, List.length_singleton] at l1 l2
      have j1 := join_pure C3 rfl (p.labels.map Lib.itoa) [44] (by rw [List.length_map]; omega) (by omega)
      have j2 := join_pure C3 rfl (p.edges.map edgB) [44] (by rw [List.length_map]; omega) (by omega)
      have z1 := bs_size (Lib.join (p.labels.map Lib.itoa) [44])
      have z2 := bs_size (Lib.join (p.edges.map edgB) [44])
      have z3 : (bs (Lib.join (p.labels.map Lib.itoa) [44]) ++ bs [124]).size = (Lib.join (p.labels.map Lib.itoa) [44]).length + 1 := by rw [bs_cat, bs_size]; simp
      (conv => whnf)
      (repeat' ((first | refine ord_ok (by (conv => whnf); (repeat' ((first | refine call_frz 300 rfl ?_ | refine call_frz 301 rfl ?_ | refine call_eq rfl j1 ?_ | refine call_eq rfl j2 ?_ | refine cat_ok (a := bs (Lib.join (p.labels.map Lib.itoa) [44])) (b := bs [124]) (by rw [z1]; simp [bs_size]; omega) ?_ | refine cat_ok (a := bs (Lib.join (p.labels.map Lib.itoa) [44]) ++ bs [124]) (b := bs (Lib.join (p.edges.map edgB) [44])) (by omega) ?_ | refine ify ?_ | refine ifn ?_ | refine i6 ?_ | refine ati ?_ | refine mst ?_ | refine rmd ?_ | refine ibo (fun _ => ?_) (fun _ => ?_)) <;> conv => whnf)); (all_goals (repeat' (first | exact trivial | exact rfl | refine And.intro ?_ ?_)))) ?_ | refine call_frz 300 rfl ?_ | refine call_frz 301 rfl ?_ | refine call_eq rfl j1 ?_ | refine call_eq rfl j2 ?_ | refine cat_ok (a := bs (Lib.join (p.labels.map Lib.itoa) [44])) (b := bs [124]) (by rw [z1]; simp [bs_size]; omega) ?_ | refine cat_ok (a := bs (Lib.join (p.labels.map Lib.itoa) [44]) ++ bs [124]) (b := bs (Lib.join (p.edges.map edgB) [44])) (by omega) ?_ | refine ify ?_ | refine ifn ?_ | refine i6 ?_ | refine ati ?_ | refine mst ?_ | refine rmd ?_ | refine ibo (fun _ => ?_) (fun _ => ?_)) <;> conv => whnf))
      show Da.plain (.str ((bs _ ++ bs [124]) ++ bs _)) = _
      unfold patB
      rw [bs_cat, bs_cat]
      simp [Da.plain]
end Go.Proofs.YteigfapjiekdnaaGreatDoor
end

section
/- Closed facts on the calls that errors.As makes: what reflectlite's functions hand back. -/
namespace Go.Proofs.YteigfapjiekdnaaGreatDoor
open Go.RowKit Go.Reg

theorem x_valueOf_pp (t : Nat) (w : World) : (callFunc 169 #[.iface 178 (.pointer (some ⟨t,0,none⟩))]).run Tryz.prog w = .ok (.value (.agg #[.pointer (some ⟨5,178,none⟩), .pointer (some ⟨w.heap.size,0,none⟩), .int .u64 150])) (w.alloc (.cells #[.pointer (some ⟨t,0,none⟩)] 178)) := by kernel_rfl
theorem x_valueOf_p (t o : Nat) (w : World) : (callFunc 169 #[.iface 139 (.pointer (some ⟨t,o,none⟩))]).run Tryz.prog w = .ok (.value (.agg #[.pointer (some ⟨5,139,none⟩), .pointer (some ⟨w.heap.size,0,none⟩), .int .u64 150])) (w.alloc (.cells #[.pointer (some ⟨t,o,none⟩)] 139)) := by kernel_rfl
theorem x_type_pp (b : Nat) (w : World) : (callFunc 170 #[.agg #[.pointer (some ⟨5,178,none⟩), .pointer (some ⟨b,0,none⟩), .int .u64 150]]).run Tryz.prog w = .ok (.value (.iface 234 (.agg #[.pointer (some ⟨5,178,none⟩)]))) w := by kernel_rfl
theorem x_typeOf_p (b o : Nat) (w : World) : (callFunc 192 #[.iface 139 (.pointer (some ⟨b,o,none⟩))]).run Tryz.prog w = .ok (.value (.iface 234 (.agg #[.pointer (some ⟨5,139,none⟩)]))) w := by kernel_rfl
theorem x_kind_pp (w : World) : (callFunc 227 #[.pointer (some ⟨5,178,none⟩)]).run Tryz.prog w = .ok (.value (.int .u8 22)) w := by kernel_rfl
theorem x_kind_p (w : World) : (callFunc 227 #[.pointer (some ⟨5,139,none⟩)]).run Tryz.prog w = .ok (.value (.int .u8 22)) w := by kernel_rfl
theorem x_elem_pp (w : World) : (callFunc 240 #[.agg #[.pointer (some ⟨5,178,none⟩)]]).run Tryz.prog w = .ok (.value (.iface 234 (.agg #[.pointer (some ⟨5,139,none⟩)]))) w := by kernel_rfl
theorem x_impl_p (w : World) : (callFunc 241 #[.agg #[.pointer (some ⟨5,139,none⟩)], .iface 234 (.agg #[.pointer (some ⟨5,33,none⟩)])]).run Tryz.prog w = .ok (.value (.bool true)) w := by kernel_rfl
theorem x_assign_p (w : World) : (callFunc 238 #[.agg #[.pointer (some ⟨5,139,none⟩)], .iface 234 (.agg #[.pointer (some ⟨5,139,none⟩)])]).run Tryz.prog w = .ok (.value (.bool true)) w := by kernel_rfl
theorem x_mKind (b : Nat) (w : World) : (method 389 234 (.agg #[.pointer (some ⟨5,b,none⟩)]) "Kind").run Tryz.prog w = .ok (227, .pointer (some ⟨5,b,none⟩)) w := by kernel_rfl
theorem x_mElem (b : Nat) (w : World) : (method 389 234 (.agg #[.pointer (some ⟨5,b,none⟩)]) "Elem").run Tryz.prog w = .ok (240, .agg #[.pointer (some ⟨5,b,none⟩)]) w := by kernel_rfl
theorem x_mImpl (b : Nat) (w : World) : (method 389 234 (.agg #[.pointer (some ⟨5,b,none⟩)]) "Implements").run Tryz.prog w = .ok (241, .agg #[.pointer (some ⟨5,b,none⟩)]) w := by kernel_rfl
theorem x_mAssign (b : Nat) (w : World) : (method 389 234 (.agg #[.pointer (some ⟨5,b,none⟩)]) "AssignableTo").run Tryz.prog w = .ok (238, .agg #[.pointer (some ⟨5,b,none⟩)]) w := by kernel_rfl

theorem x_isNil (b t : Nat) (w : World) (h : w.cell? ⟨b,0,none⟩ = some (.pointer (some ⟨t,0,none⟩))) : (callFunc 171 #[.agg #[.pointer (some ⟨5,178,none⟩), .pointer (some ⟨b,0,none⟩), .int .u64 150]]).run Tryz.prog w = .ok (.value (.bool false)) w :=
  run_of_trace _ [.pointer (some ⟨t,0,none⟩)] [] (es := [ld ⟨b,0,none⟩ (.pointer (some ⟨t,0,none⟩))]) (by kernel_rfl) ⟨h, rfl⟩
theorem x_elemOf (b t : Nat) (w : World) (h : w.cell? ⟨b,0,none⟩ = some (.pointer (some ⟨t,0,none⟩))) : (callFunc 193 #[.agg #[.pointer (some ⟨5,178,none⟩), .pointer (some ⟨b,0,none⟩), .int .u64 150]]).run Tryz.prog w = .ok (.value (.agg #[.pointer (some ⟨5,139,none⟩), .pointer (some ⟨t,0,none⟩), .int .u64 406])) w :=
  run_of_trace _ [.pointer (some ⟨t,0,none⟩)] [] (es := [ld ⟨b,0,none⟩ (.pointer (some ⟨t,0,none⟩))]) (by kernel_rfl) ⟨h, rfl⟩
theorem x_set (t b : Nat) (v : Value) (f o : Nat) (w : World) (h : w.cell? ⟨b,0,none⟩ = some (.pointer (some ⟨f,o,none⟩))) (ht : w.cell? ⟨t,0,none⟩ = some v) (hz : w.frozen? ⟨t,0,none⟩ = false) : (callFunc 194 #[.agg #[.pointer (some ⟨5,139,none⟩), .pointer (some ⟨t,0,none⟩), .int .u64 406], .agg #[.pointer (some ⟨5,139,none⟩), .pointer (some ⟨b,0,none⟩), .int .u64 150]]).run Tryz.prog w = .ok (.value (.tuple #[])) (w.setCell ⟨t,0,none⟩ (.pointer (some ⟨f,o,none⟩))) :=
  run_of_trace _ [.pointer (some ⟨f,o,none⟩)] [] (es := [ld ⟨b,0,none⟩ (.pointer (some ⟨f,o,none⟩)), st ⟨t,0,none⟩ (.pointer (some ⟨f,o,none⟩))]) (by kernel_rfl) ⟨h, rfl, ⟨_, ht⟩, hz, rfl⟩

end Go.Proofs.YteigfapjiekdnaaGreatDoor
end

section
/- errors.As on the program's faults; fault.New, fault.Code. -/
namespace Go.Proofs.YteigfapjiekdnaaGreatDoor
open Go.RowKit Go.Reg

/-- what errors.errorType holds -/
def ErrT (w : World) : Prop := w.cell? ⟨0, 0, none⟩ = some (.iface 234 (.agg #[.pointer (some ⟨5,33,none⟩)]))

set_option maxRecDepth 100000 in
set_option maxHeartbeats 1000000 in
theorem as2_any (f o t b : Nat) (v : Value) (w : World) (hb : w.cell? ⟨b, 0, none⟩ = some (.pointer (some ⟨t, 0, none⟩))) (hf : w.cell? ⟨t, 0, none⟩ = some v) (hz : w.frozen? ⟨t, 0, none⟩ = false) (ht : t < w.heap.size) (hbs : b < w.heap.size) :
    Calls Tryz.prog 172 #[.iface 139 (.pointer (some ⟨f, o, none⟩)), .iface 178 (.pointer (some ⟨t, 0, none⟩)), .agg #[.pointer (some ⟨5,178,none⟩), .pointer (some ⟨b,0,none⟩), .int .u64 150], .iface 234 (.agg #[.pointer (some ⟨5,139,none⟩)])] w
      fun e w' => e = .returned (.bool true) ∧ w'.cell? ⟨t, 0, none⟩ = some (.pointer (some ⟨f, o, none⟩)) ∧ Tch [t] w w' := by
  have e1 := x_typeOf_p
  have e2 := x_mAssign
  have e3 := x_assign_p
  have e4 := fun w' (h : w'.cell? ⟨b,0,none⟩ = some (.pointer (some ⟨t,0,none⟩))) => x_elemOf b t w' h
  have e5 := x_valueOf_p f o
  have hT : Tch [] w ((w.alloc (.cells #[.pointer (some ⟨5,178,none⟩), .pointer (some ⟨b,0,none⟩), .int .u64 150] 210)).alloc (.cells #[.pointer (some ⟨f,o,none⟩)] 139)) := ((Tch.refl [] w).andAlloc _).andAlloc _
  have hN : ((w.alloc (.cells #[.pointer (some ⟨5,178,none⟩), .pointer (some ⟨b,0,none⟩), .int .u64 150] 210)).alloc (.cells #[.pointer (some ⟨f,o,none⟩)] 139)).cell? ⟨w.heap.size + 1, 0, none⟩ = some (.pointer (some ⟨f,o,none⟩)) := by
    simp
  have hFz : ((w.alloc (.cells #[.pointer (some ⟨5,178,none⟩), .pointer (some ⟨b,0,none⟩), .int .u64 150] 210)).alloc (.cells #[.pointer (some ⟨f,o,none⟩)] 139)).frozen? ⟨t, 0, none⟩ = false := by rw [World.frozen?_of_block (w := w) (hT.blk t ht (by simp))]; exact hz
  have e6 := x_set t (w.heap.size + 1) v f o _ hN (hT.cell hf (by simp)) hFz
  have HC := hid hf
  clear hT hN hFz
  go_enter Tryz.func172, Tryz.ntmps172
  go_wp2_with fail
  refine wp_loop_once ?_
  go_wp2_with fail
  go_ret
  refine ⟨rfl, ?_, ((Tch.setCell w (.inl (by simp)) _).andAlloc _).andAlloc _⟩
  exact (((Tch.refl [] _).andAlloc _).andAlloc _).cell (World.cell?_setCell_same _ _ _ HC.out) (by simp)

set_option maxRecDepth 100000 in
set_option maxHeartbeats 1000000 in
theorem as_any (f o t : Nat) (v : Value) (w : World) (hf : w.cell? ⟨t, 0, none⟩ = some v) (hz : w.frozen? ⟨t, 0, none⟩ = false) (ht : t < w.heap.size) (h0 : ErrT w) :
    Calls Tryz.prog 140 #[.iface 139 (.pointer (some ⟨f, o, none⟩)), .iface 178 (.pointer (some ⟨t, 0, none⟩))] w
      fun e w' => e = .returned (.bool true) ∧ w'.cell? ⟨t, 0, none⟩ = some (.pointer (some ⟨f, o, none⟩)) ∧ Tch [t] w w' := by
  unfold ErrT at h0
  have hs0 : 0 < w.heap.size := by omega
  have e1 := x_valueOf_pp t
  have e2 := x_type_pp
  have e3 := x_mKind
  have e4 := x_kind_pp
  have e5 := x_mElem
  have e6 := x_elem_pp
  have e7 := fun w' (h : w'.cell? ⟨w.heap.size,0,none⟩ = some (.pointer (some ⟨t,0,none⟩))) => x_isNil w.heap.size t w' h
  have e8 := x_kind_p
  have e9 := x_mImpl
  have e10 := x_impl_p
  have hT : Tch [] w ((w.alloc (.cells #[.pointer (some ⟨t,0,none⟩)] 178)).alloc (.cells #[.pointer (some ⟨5,178,none⟩), .pointer (some ⟨w.heap.size,0,none⟩), .int .u64 150] 210)) := ((Tch.refl [] w).andAlloc _).andAlloc _
  have HT := hid hT
  have HF := hid (hT.cell hf (by simp))
  have HB := hid (((Tch.refl [] (w.alloc (.cells #[.pointer (some ⟨t,0,none⟩)] 178))).andAlloc (.cells #[.pointer (some ⟨5,178,none⟩), .pointer (some ⟨w.heap.size,0,none⟩), .int .u64 150] 210)).cell ((Blk.new w 178 [.pointer (some ⟨t,0,none⟩)]).cell (i := 0) rfl) (by simp))
  have HZ := hid (show ((w.alloc (.cells #[.pointer (some ⟨t,0,none⟩)] 178)).alloc (.cells #[.pointer (some ⟨5,178,none⟩), .pointer (some ⟨w.heap.size,0,none⟩), .int .u64 150] 210)).frozen? ⟨t, 0, none⟩ = false by rw [World.frozen?_of_block (w := w) (hT.blk t ht (by simp))]; exact hz)
  clear hT hf hz
  go_enter Tryz.func140, Tryz.ntmps140
  go_wp2_with fail
  refine (as2_any f o t w.heap.size v _ HB.out HF.out HZ.out (by simp; omega) (by simp; omega)).mono ?_
  rintro e w' ⟨rfl, hc, hT⟩
  go_wp2_with fail
  go_ret
  exact ⟨rfl, hc, (HT.out).ahead0 hT⟩

set_option maxRecDepth 100000 in
theorem ffault_any (f o : Nat) (w : World) (h0 : ErrT w) (_hs : 0 < w.heap.size) :
    Calls Tryz.prog 99 #[.iface 139 (.pointer (some ⟨f, o, none⟩))] w fun e w' => e = .returned (.pointer (some ⟨f, o, none⟩)) ∧ Tch [] w w' := by
  have HN := hid (Blk.new w 139 [.pointer none])
  have H0 := hid (show ErrT (w.alloc (.cells #[.pointer none] 139)) from (Tch.alloc w _ []).cell h0 (by simp))
  clear h0
  go_enter Tryz.func99, Tryz.ntmps99
  go_wp2_with fail
  refine (as_any f o w.heap.size (.pointer none) _ (HN.out.cell (i := 0) rfl) (HN.out.frozen 0) (by simp) H0.out).mono ?_
  rintro e w' ⟨rfl, hc, hT⟩
  have HT := hid ((Tch.alloc w (.cells #[.pointer none] 139) []).trans hT (T := []) (fun _ h => h) (fun x hx => .inr (by simp at hx; omega)))
  clear hT
  go_wp2_with fail
  go_ret
  exact ⟨rfl, HT.out⟩

end Go.Proofs.YteigfapjiekdnaaGreatDoor
end
