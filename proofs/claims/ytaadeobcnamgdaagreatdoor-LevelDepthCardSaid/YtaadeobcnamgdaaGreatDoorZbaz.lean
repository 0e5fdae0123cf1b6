/- Merged: Flt Fau Fst Fsu Qii Qta. -/
import Derived.Test.YtaadeobcnamgdaaGreatDoorZbay
import Derived.Test.YtaadeobcnamgdaaGreatDoorMem
import Derived.WalkSpells
import Derived.WalkLawsBesides
import Derived.Test.YtaadeobcnamgdaaGreatDoorZbae
import Derived.Test.YtaadeobcnamgdaaGreatDoorSxu
import Derived.Test.YtaadeobcnamgdaaGreatDoorZbax
section
/- errors.As on the program's faults; fault.New, fault.Code. -/
namespace Go.Proofs.YtaadeobcnamgdaaGreatDoor
open Go.RowKit Go.Reg

/-- what errors.errorType holds -/
def ErrT (w : World) : Prop := w.cell? ⟨0, 0, none⟩ = some (.iface 284 (.agg #[.pointer (some ⟨5,40,none⟩)]))

set_option maxRecDepth 100000 in
set_option maxHeartbeats 1000000 in
theorem as2_any (f o t b : Nat) (v : Value) (w : World) (hb : w.cell? ⟨b, 0, none⟩ = some (.pointer (some ⟨t, 0, none⟩))) (hf : w.cell? ⟨t, 0, none⟩ = some v) (hz : w.frozen? ⟨t, 0, none⟩ = false) (ht : t < w.heap.size) (hbs : b < w.heap.size) :
    Calls Tryz.prog 153 #[.iface 109 (.pointer (some ⟨f, o, none⟩)), .iface 174 (.pointer (some ⟨t, 0, none⟩)), .agg #[.pointer (some ⟨5,174,none⟩), .pointer (some ⟨b,0,none⟩), .int .u64 150], .iface 284 (.agg #[.pointer (some ⟨5,109,none⟩)])] w
      fun e w' => e = .returned (.bool true) ∧ w'.cell? ⟨t, 0, none⟩ = some (.pointer (some ⟨f, o, none⟩)) ∧ Tch [t] w w' := by
  have e1 := x_typeOf_p
  have e2 := x_mAssign
  have e3 := x_assign_p
  have e4 := fun w' (h : w'.cell? ⟨b,0,none⟩ = some (.pointer (some ⟨t,0,none⟩))) => x_elemOf b t w' h
  have e5 := x_valueOf_p f o
  have hT : Tch [] w ((w.alloc (.cells #[.pointer (some ⟨5,174,none⟩), .pointer (some ⟨b,0,none⟩), .int .u64 150] 225)).alloc (.cells #[.pointer (some ⟨f,o,none⟩)] 109)) := ((Tch.refl [] w).andAlloc _).andAlloc _
  have hN : ((w.alloc (.cells #[.pointer (some ⟨5,174,none⟩), .pointer (some ⟨b,0,none⟩), .int .u64 150] 225)).alloc (.cells #[.pointer (some ⟨f,o,none⟩)] 109)).cell? ⟨w.heap.size + 1, 0, none⟩ = some (.pointer (some ⟨f,o,none⟩)) := by
    simp
  have hFz : ((w.alloc (.cells #[.pointer (some ⟨5,174,none⟩), .pointer (some ⟨b,0,none⟩), .int .u64 150] 225)).alloc (.cells #[.pointer (some ⟨f,o,none⟩)] 109)).frozen? ⟨t, 0, none⟩ = false := by rw [World.frozen?_of_block (w := w) (hT.blk t ht (by simp))]; exact hz
  have e6 := x_set t (w.heap.size + 1) v f o _ hN (hT.cell hf (by simp)) hFz
  have HC := hid hf
  clear hT hN hFz
  go_enter Tryz.func153, Tryz.ntmps153
  go_wp2_with fail
  refine wp_loop_once ?_
  go_wp2_with fail
  go_ret
  refine ⟨rfl, ?_, ((Tch.setCell w (.inl (by simp)) _).andAlloc _).andAlloc _⟩
  exact (((Tch.refl [] _).andAlloc _).andAlloc _).cell (World.cell?_setCell_same _ _ _ HC.out) (by simp)

set_option maxRecDepth 100000 in
set_option maxHeartbeats 1000000 in
theorem as_any (f o t : Nat) (v : Value) (w : World) (hf : w.cell? ⟨t, 0, none⟩ = some v) (hz : w.frozen? ⟨t, 0, none⟩ = false) (ht : t < w.heap.size) (h0 : ErrT w) :
    Calls Tryz.prog 103 #[.iface 109 (.pointer (some ⟨f, o, none⟩)), .iface 174 (.pointer (some ⟨t, 0, none⟩))] w
      fun e w' => e = .returned (.bool true) ∧ w'.cell? ⟨t, 0, none⟩ = some (.pointer (some ⟨f, o, none⟩)) ∧ Tch [t] w w' := by
  unfold ErrT at h0
  have hs0 : 0 < w.heap.size := by omega
  have e1 := x_valueOf_pp t
  have e2 := x_type_pp
  have e3 := x_mKind
  have e4 := x_kind_pp
  have e5 := x_mElem
  have e6 := x_elem_pp
  have e7 := fun w' (h : w'.cell? ⟨w.heap.size,0,none⟩ = some (.pointer (some ⟨t,0,none⟩))) => x_isNil w.heap.size t w' h
  have e8 := x_kind_p
  have e9 := x_mImpl
  have e10 := x_impl_p
  have hT : Tch [] w ((w.alloc (.cells #[.pointer (some ⟨t,0,none⟩)] 174)).alloc (.cells #[.pointer (some ⟨5,174,none⟩), .pointer (some ⟨w.heap.size,0,none⟩), .int .u64 150] 225)) := ((Tch.refl [] w).andAlloc _).andAlloc _
  have HT := hid hT
  have HF := hid (hT.cell hf (by simp))
  have HB := hid (((Tch.refl [] (w.alloc (.cells #[.pointer (some ⟨t,0,none⟩)] 174))).andAlloc (.cells #[.pointer (some ⟨5,174,none⟩), .pointer (some ⟨w.heap.size,0,none⟩), .int .u64 150] 225)).cell ((Blk.new w 174 [.pointer (some ⟨t,0,none⟩)]).cell (i := 0) rfl) (by simp))
  have HZ := hid (show ((w.alloc (.cells #[.pointer (some ⟨t,0,none⟩)] 174)).alloc (.cells #[.pointer (some ⟨5,174,none⟩), .pointer (some ⟨w.heap.size,0,none⟩), .int .u64 150] 225)).frozen? ⟨t, 0, none⟩ = false by rw [World.frozen?_of_block (w := w) (hT.blk t ht (by simp))]; exact hz)
  clear hT hf hz
  go_enter Tryz.func103, Tryz.ntmps103
  go_wp2_with fail
  refine (as2_any f o t w.heap.size v _ HB.out HF.out HZ.out (by simp; omega) (by simp; omega)).mono ?_
  rintro e w' ⟨rfl, hc, hT⟩
  go_wp2_with fail
  go_ret
  exact ⟨rfl, hc, (HT.out).ahead0 hT⟩

set_option maxRecDepth 100000 in
theorem ffault_any (f o : Nat) (w : World) (h0 : ErrT w) (_hs : 0 < w.heap.size) :
    Calls Tryz.prog 48 #[.iface 109 (.pointer (some ⟨f, o, none⟩))] w fun e w' => e = .returned (.pointer (some ⟨f, o, none⟩)) ∧ Tch [] w w' := by
  have HN := hid (Blk.new w 109 [.pointer none])
  have H0 := hid (show ErrT (w.alloc (.cells #[.pointer none] 109)) from (Tch.alloc w _ []).cell h0 (by simp))
  clear h0
  go_enter Tryz.func48, Tryz.ntmps48
  go_wp2_with fail
  refine (as_any f o w.heap.size (.pointer none) _ (HN.out.cell (i := 0) rfl) (HN.out.frozen 0) (by simp) H0.out).mono ?_
  rintro e w' ⟨rfl, hc, hT⟩
  have HT := hid ((Tch.alloc w (.cells #[.pointer none] 109) []).trans hT (T := []) (fun _ h => h) (fun x hx => .inr (by simp at hx; omega)))
  clear hT
  go_wp2_with fail
  go_ret
  exact ⟨rfl, HT.out⟩

end Go.Proofs.YtaadeobcnamgdaaGreatDoor
end

section
/- Faults, told for the engine: New, Code. -/
namespace Go.Proofs.YtaadeobcnamgdaaGreatDoor
open Go.Sx Go.RowKit Go.Reg

set_option maxRecDepth 100000
theorem errT_glob {O : List Nat} {w : World} (h : Glob C1 O w) : ErrT w ∧ 0 ∉ O := by
  obtain ⟨cs, h1, h2⟩ := (h _ (List.mem_singleton_self _)).1
  simp only [RepC] at h1
  obtain ⟨b, o, c, rfl, hb, _, rfl, hc⟩ := h1
  simp only [toV, List.headD_cons, Value.pointer.injEq, Option.some.injEq, Addr.mk.injEq, and_true] at h2
  obtain ⟨rfl, rfl⟩ := h2
  exact ⟨hc 0 _ rfl, hb⟩
theorem ffault_pure (c a : Int) (s : ByteArray) : Pure C1 48 [dF c a s] (fun y => y = .ref (.agg [.int .i64 c, .int .i64 a, .str s])) := by
  intro O w us hO hg hr
  obtain ⟨v, vs, rfl, h1, h2⟩ := reps_inv hr
  obtain rfl := reps_inv0 h2
  obtain ⟨cs, r, rfl⟩ := h1
  simp only [dF, RepC] at r
  obtain ⟨c2, ⟨b, o, c3, rfl, r1, r2, r3, r4⟩, rfl⟩ := r
  obtain ⟨hE, h0⟩ := errT_glob hg
  refine ⟨by kernel_rfl, (ffault_any b o w hE (by omega)).mono ?_⟩
  rintro e w' ⟨rfl, ht⟩
  refine ⟨_, _, rfl, rfl, ⟨[_], ?_, rfl⟩, ht⟩
  have := RepC.later (Later.same ht O) (.ref (.agg [.int .i64 c, .int .i64 a, .str s])) [.pointer (some ⟨b, o, none⟩)] (by simp only [RepC]; exact ⟨b, o, c3, rfl, r1, r2, r3, r4⟩)
  exact this
theorem code_pure (c a : Int) (s : ByteArray) : Pure C1 12 [dF c a s] (fun y => y = .int .i64 c) := by
  refine pure_of c1_ok (pl := []) (G := []) Tryz.func12 rfl Tryz.ntmps12 (by intro vs w; kernel_rfl) (by kernel_rfl) (by simp) ?_
  ((conv => whnf); repeat' (first | (refine if_yes (by first | omega | rfl | assumption | exact ⟨rfl, rfl⟩ | exact ⟨rfl, rfl, rfl⟩ | exact ⟨rfl, rfl, rfl, rfl⟩) ?_; conv => whnf) | (refine if_no (by first | omega | assumption | exact fun h => h rfl | exact fun h => h (by assumption) | exact fun h => h ⟨rfl, rfl⟩ | exact fun h => h ⟨rfl, rfl, rfl⟩ | exact fun h => h ⟨rfl, rfl, rfl, rfl⟩) ?_; conv => whnf) | (refine i64_is (by omega) ?_; conv => whnf) | (refine at_is rfl (by assumption) ?_; conv => whnf) | (refine most_ok (by (try simp only [List.length_append, List.length_map, List.length_cons, List.length_nil]); omega) ?_; conv => whnf) | (refine rem_ok (by first | decide | omega) ?_; conv => whnf) | (refine if_both (fun _ => ?_) (fun _ => ?_) <;> conv => whnf)))
  refine call_pure rfl (ffault_pure c a s) ?_; rintro y rfl
  ((conv => whnf); repeat' (first | (refine if_yes (by first | omega | rfl | assumption | exact ⟨rfl, rfl⟩ | exact ⟨rfl, rfl, rfl⟩ | exact ⟨rfl, rfl, rfl, rfl⟩) ?_; conv => whnf) | (refine if_no (by first | omega | assumption | exact fun h => h rfl | exact fun h => h (by assumption) | exact fun h => h ⟨rfl, rfl⟩ | exact fun h => h ⟨rfl, rfl, rfl⟩ | exact fun h => h ⟨rfl, rfl, rfl, rfl⟩) ?_; conv => whnf) | (refine i64_is (by omega) ?_; conv => whnf) | (refine at_is rfl (by assumption) ?_; conv => whnf) | (refine most_ok (by (try simp only [List.length_append, List.length_map, List.length_cons, List.length_nil]); omega) ?_; conv => whnf) | (refine rem_ok (by first | decide | omega) ?_; conv => whnf) | (refine if_both (fun _ => ?_) (fun _ => ?_) <;> conv => whnf)))
  all_goals exact rfl
end Go.Proofs.YtaadeobcnamgdaaGreatDoor
end

section
/- quick: linked; law08.Same; ref12.Alone; quick.Vert. -/
namespace Go.Proofs.YtaadeobcnamgdaaGreatDoor
open Go.Sx Go.RowKit Go.Reg Go.Gr

set_option maxRecDepth 100000
theorem touch_bes {G : Gr} {u m : Nat} (hu : u < G.edges.length) (hm : m < G.edges.length) (h : u ≠ m) : touchV G.edges u m = besP (lnGr G).edges m u := by
  rw [touchV_nat]
  unfold besP lnGr
  rw [Bool.eq_iff_iff, decide_eq_true_eq]
  exact (turn_want h hu hm).symm
theorem any_touch {G : Gr} {t : List Int} {m : Nat} (hm : m < G.edges.length) (hn : ¬ (m : Int) ∈ t) (ht : ∀ u ∈ t, 0 ≤ u ∧ u < G.edges.length) : t.any (fun u => touchV G.edges u m) = t.any (besP (lnGr G).edges m) := by
  rw [Bool.eq_iff_iff, List.any_eq_true, List.any_eq_true]
  have key : ∀ u ∈ t, touchV G.edges u m = besP (lnGr G).edges m u := fun u hu => by
    obtain ⟨h1, h2⟩ := ht u hu
    obtain ⟨k, rfl⟩ := Int.eq_ofNat_of_zero_le h1
    exact touch_bes (by omega) hm (fun e => hn (by subst e; exact hu))
  constructor
  · rintro ⟨u, hu, h⟩; exact ⟨u, hu, by rw [← key u hu]; exact h⟩
  · rintro ⟨u, hu, h⟩; exact ⟨u, hu, by rw [key u hu]; exact h⟩
def pl_qscf : List (Nat × Plan) := []
def G_qscf : List FuncId := [218]
theorem cok_qscf : codeOk Tryz.prog G_qscf pl_qscf (Tryz.f168.body.getD .skip) = true := by kernel_rfl
theorem run_qscf (vs : Array Value) (w : World) : (callFunc 168 vs).run C1.P w = .ok (.enter 168 vs) w := by kernel_rfl
theorem qcontainsF_pure (l : List Int) (g : FuncId) (cs : List Da) (p : Int → Bool) (hp : ∀ x ∈ l, Pure C1 g (.int .i64 x :: cs) (fun y => y = .bool (p x))) : Pure C1 168 [dIs l, .func (.func g) [] cs] (fun y => y = .bool (l.any p)) := by
  refine pure_of c1_ok (pl := pl_qscf) (G := G_qscf) Tryz.func168 rfl Tryz.ntmps168 run_qscf cok_qscf (by simp) ?_
  (conv => whnf)
  (repeat' ((first | refine ord_ok (by (conv => whnf); (repeat' ((first | refine call_eq rfl (indexF_pure l g cs p hp) ?_ | refine ify ?_ | refine ifn ?_ | refine i6 ?_ | refine ati ?_ | refine mst ?_ | refine rmd ?_ | refine ibo (fun _ => ?_) (fun _ => ?_)) <;> conv => whnf)); (all_goals (repeat' (first | exact trivial | exact rfl | refine And.intro ?_ ?_)))) ?_ | refine call_eq rfl (indexF_pure l g cs p hp) ?_ | refine ify ?_ | refine ifn ?_ | refine i6 ?_ | refine ati ?_ | refine mst ?_ | refine rmd ?_ | refine ibo (fun _ => ?_) (fun _ => ?_)) <;> conv => whnf))
  show Da.plain _ = _
  have := idxF_nn l p
  cases h : l.any p <;> simp [Da.plain, this, h]
def pl_qlk1 : List (Nat × Plan) := []
def G_qlk1 : List FuncId := [173]
theorem cok_qlk1 : codeOk Tryz.prog G_qlk1 pl_qlk1 (Tryz.f172.body.getD .skip) = true := by kernel_rfl
theorem run_qlk1 (vs : Array Value) (w : World) : (callFunc 172 vs).run C1.P w = .ok (.enter 172 vs) w := by kernel_rfl
theorem qlk1_pure (G : Gr) (id u : Int) : Pure C1 172 [.int .i64 u, .ref (dG G), .ref (.int .i64 id)] (fun y => y = .bool (touchV G.edges u id)) := by
  refine pure_of c1_ok (pl := pl_qlk1) (G := G_qlk1) Tryz.func172 rfl Tryz.ntmps172 run_qlk1 cok_qlk1 (by simp) ?_
  (conv => whnf)
  (repeat' ((first | refine ord_ok (by (conv => whnf); (repeat' ((first | refine call_eq rfl (touch_pure G u id) ?_ | refine ify ?_ | refine ifn ?_ | refine i6 ?_ | refine ati ?_ | refine mst ?_ | refine rmd ?_ | refine ibo (fun _ => ?_) (fun _ => ?_)) <;> conv => whnf)); (all_goals (repeat' (first | exact trivial | exact rfl | refine And.intro ?_ ?_)))) ?_ | refine call_eq rfl (touch_pure G u id) ?_ | refine ify ?_ | refine ifn ?_ | refine i6 ?_ | refine ati ?_ | refine mst ?_ | refine rmd ?_ | refine ibo (fun _ => ?_) (fun _ => ?_)) <;> conv => whnf))
  exact rfl
def pl_qlk : List (Nat × Plan) := [(5, .leaf [0, 0, 0, 0, 0, 0, 1, 2, 0] [0, 1, 2, 3, 4, 5, 6, 7, 8] [0, 1, 3, 7, 7, 31, 7, 127, 255])]
def G_qlk : List FuncId := [171, 167, 168]
theorem cok_qlk : codeOk Tryz.prog G_qlk pl_qlk (Tryz.f113.body.getD .skip) = true := by kernel_rfl
theorem run_qlk (vs : Array Value) (w : World) : (callFunc 113 vs).run C1.P w = .ok (.enter 113 vs) w := by kernel_rfl
set_option maxHeartbeats 4000000 in
theorem qlinked_pure (G : Gr) (l : List Int) : Pure C1 113 [dG G, dIs l] (fun y => y = .bool (linkedV (lnGr G) l)) := by
  refine Pure.assume (fun O w us hr => by obtain ⟨v, vs, rfl, h1, h2⟩ := reps_inv hr; obtain ⟨v2, vs2, rfl, h3, _⟩ := reps_inv h2; exact ints_len h3) fun hm => ?_
  have hl : (l.map dI).length = l.length := List.length_map _
  refine pure_of c1_ok (pl := pl_qlk) (G := G_qlk) Tryz.func113 rfl Tryz.ntmps113 run_qlk cok_qlk (by simp) ?_
  ((conv => whnf); repeat' ((first | refine odw ?_ | refine ify ?_ | refine ifn ?_ | refine i6 ?_ | refine ati ?_ | refine mst ?_ | refine rmd ?_ | refine ibo (fun _ => ?_) (fun _ => ?_)) <;> conv => whnf))
  refine loop_lo (ι := Nat) (fun i => i ≤ l.length ∧ ∀ (j : Nat) (v : Int), j < i → l[j]? = some v → linkAt (lnGr G) l j v = true) (fun i => [(11, .d (.int .i64 i)), (10, .d (.int .i64 (l.map dI).length)), (9, .d (dIs l)), (2, .own 2), (1, .d (dIs l))]) (fun _ => [(2, .cells 26 [.d (dG G)])]) (fun i => l.length - i) 0 (fun _ => rfl) ⟨Nat.zero_le _, by intro j v h; omega⟩ (.refl _ _) ⟨rfl, rfl, rfl, rfl, rfl, trivial⟩ ⟨rfl, trivial⟩ ?_
  rintro i ⟨hi, hne⟩
  refine sxCode_sound c1_ok (G := G_qlk) (pl := pl_qlk) _ _ _ _ (by kernel_rfl) ?_
  by_cases hlt : i < l.length
  · have hx := List.getElem?_eq_getElem hlt
    generalize l[i] = y at hx
    have hxd : (l.map dI)[i]? = some (.int .i64 y) := by rw [List.getElem?_map, hx]; rfl
    have h1 := edge_pure G y
    have h2 := contains_pure (l.take i) y
    rw [dIs_take] at h2
    have hi2 : i ≤ (l.map dI).length := by omega
    by_cases hv : 0 ≤ y ∧ y < G.edges.length
    · obtain ⟨m, rfl⟩ := Int.eq_ofNat_of_zero_le hv.1
      have hml : m < G.edges.length := by omega
      have he := List.getElem?_eq_getElem hml
      generalize G.edges[m] = x at he
      have ey : edgeY G.edges m = .tuple [dE x, .bool true] := by unfold edgeY; rw [if_pos hv, Int.toNat_natCast, he]; rfl
      rw [ey] at h1
      have hhv : hasV (lnGr G) m = true := by rw [ln_has, decide_eq_true hv]
      by_cases hc : (m : Int) ∈ l.take i
      · rw [decide_eq_true hc] at h2
        rw [linkedV_no hx (linkAt_bad (.inr hc))]
        (conv => whnf)
        (repeat' ((first | refine ord_ok (by (conv => whnf); (repeat' ((first | refine at_da hxd rfl ?_ | refine call_eqb tab rfl h1 rfl ?_ | refine hi_is rfl hi2 ?_ | refine call_eqb tab rfl h2 rfl ?_ | refine ify ?_ | refine ifn ?_ | refine i6 ?_ | refine ati ?_ | refine mst ?_ | refine rmd ?_ | refine ibo (fun _ => ?_) (fun _ => ?_)) <;> conv => whnf)); (all_goals (repeat' (first | exact trivial | exact rfl | refine And.intro ?_ ?_)))) ?_ | refine at_da hxd rfl ?_ | refine call_eqb tab rfl h1 rfl ?_ | refine hi_is rfl hi2 ?_ | refine call_eqb tab rfl h2 rfl ?_ | refine ify ?_ | refine ifn ?_ | refine i6 ?_ | refine ati ?_ | refine mst ?_ | refine rmd ?_ | refine ibo (fun _ => ?_) (fun _ => ?_)) <;> conv => whnf))
        exact rfl
      · rw [decide_eq_false hc] at h2
        by_cases h0 : i = 0
        · have hyes : linkAt (lnGr G) l i m = true := by simp [linkAt, hhv, h0]
          (conv => whnf)
          (repeat' ((first | refine ord_ok (by (conv => whnf); (repeat' ((first | refine at_da hxd rfl ?_ | refine call_eqb tab rfl h1 rfl ?_ | refine hi_is rfl hi2 ?_ | refine call_eqb tab rfl h2 rfl ?_ | refine ify ?_ | refine ifn ?_ | refine i6 ?_ | refine ati ?_ | refine mst ?_ | refine rmd ?_ | refine ibo (fun _ => ?_) (fun _ => ?_)) <;> conv => whnf)); (all_goals (repeat' (first | exact trivial | exact rfl | refine And.intro ?_ ?_)))) ?_ | refine at_da hxd rfl ?_ | refine call_eqb tab rfl h1 rfl ?_ | refine hi_is rfl hi2 ?_ | refine call_eqb tab rfl h2 rfl ?_ | refine ify ?_ | refine ifn ?_ | refine i6 ?_ | refine ati ?_ | refine mst ?_ | refine rmd ?_ | refine ibo (fun _ => ?_) (fun _ => ?_)) <;> conv => whnf))
          refine ⟨i + 1, _, _, ⟨hlt, ?_⟩, .refl _ _, ⟨rfl, rfl, rfl, rfl, rfl, trivial⟩, ⟨rfl, trivial⟩, by omega⟩
          intro j v hj hjv
          by_cases hji : j = i
          · subst hji; rw [hx] at hjv; cases hjv; exact hyes
          · exact hne j v (by omega) hjv
        · have hpre : ∀ u ∈ l.take i, 0 ≤ u ∧ u < G.edges.length := fun u hu => by
            obtain ⟨j, hj, hju⟩ := List.mem_take_iff_getElem.1 hu
            have hj2 : j < l.length := by omega
            have h3 := hne j u (by omega) (by rw [List.getElem?_eq_getElem hj2, hju])
            by_cases hur : 0 ≤ u ∧ u < G.edges.length
            · exact hur
            · rw [linkAt_bad (.inl hur)] at h3; cases h3
          have h3 := qcontainsF_pure (l.take i) 172 [.ref (dG G), .ref (.int .i64 m)] (fun u => touchV G.edges u m) (fun u _ => qlk1_pure G m u)
          rw [dIs_take, any_touch hml hc hpre] at h3
          have hla : linkAt (lnGr G) l i m = (l.take i).any (besP (lnGr G).edges m) := by unfold linkAt; rw [hhv, decide_eq_false hc, decide_eq_false h0]; simp
          cases hb : (l.take i).any (besP (lnGr G).edges m) with
          | true =>
            have hyes := hla.trans hb
            rw [hb] at h3
            (conv => whnf)
            (repeat' ((first | refine ord_ok (by (conv => whnf); (repeat' ((first | refine at_da hxd rfl ?_ | refine call_eqb tab rfl h1 rfl ?_ | refine hi_is rfl hi2 ?_ | refine call_eqb tab rfl h2 rfl ?_ | refine call_eqb tab rfl h3 rfl ?_ | refine ify ?_ | refine ifn ?_ | refine i6 ?_ | refine ati ?_ | refine mst ?_ | refine rmd ?_ | refine ibo (fun _ => ?_) (fun _ => ?_)) <;> conv => whnf)); (all_goals (repeat' (first | exact trivial | exact rfl | refine And.intro ?_ ?_)))) ?_ | refine at_da hxd rfl ?_ | refine call_eqb tab rfl h1 rfl ?_ | refine hi_is rfl hi2 ?_ | refine call_eqb tab rfl h2 rfl ?_ | refine call_eqb tab rfl h3 rfl ?_ | refine ify ?_ | refine ifn ?_ | refine i6 ?_ | refine ati ?_ | refine mst ?_ | refine rmd ?_ | refine ibo (fun _ => ?_) (fun _ => ?_)) <;> conv => whnf))
            refine ⟨i + 1, _, _, ⟨hlt, ?_⟩, .refl _ _, ⟨rfl, rfl, rfl, rfl, rfl, trivial⟩, ⟨rfl, trivial⟩, by omega⟩
            intro j v hj hjv
            by_cases hji : j = i
            · subst hji; rw [hx] at hjv; cases hjv; exact hyes
            · exact hne j v (by omega) hjv
          | false =>
            rw [hb] at h3
            rw [linkedV_no hx (hla.trans hb)]
            (conv => whnf)
            (repeat' ((first | refine ord_ok (by (conv => whnf); (repeat' ((first | refine at_da hxd rfl ?_ | refine call_eqb tab rfl h1 rfl ?_ | refine hi_is rfl hi2 ?_ | refine call_eqb tab rfl h2 rfl ?_ | refine call_eqb tab rfl h3 rfl ?_ | refine ify ?_ | refine ifn ?_ | refine i6 ?_ | refine ati ?_ | refine mst ?_ | refine rmd ?_ | refine ibo (fun _ => ?_) (fun _ => ?_)) <;> conv => whnf)); (all_goals (repeat' (first | exact trivial | exact rfl | refine And.intro ?_ ?_)))) ?_ | refine at_da hxd rfl ?_ | refine call_eqb tab rfl h1 rfl ?_ | refine hi_is rfl hi2 ?_ | refine call_eqb tab rfl h2 rfl ?_ | refine call_eqb tab rfl h3 rfl ?_ | refine ify ?_ | refine ifn ?_ | refine i6 ?_ | refine ati ?_ | refine mst ?_ | refine rmd ?_ | refine ibo (fun _ => ?_) (fun _ => ?_)) <;> conv => whnf))
            exact rfl
    · have ey : edgeY G.edges y = .tuple [dE ⟨0, 0⟩, .bool false] := by unfold edgeY; rw [if_neg hv]
      rw [ey] at h1
      rw [linkedV_no hx (linkAt_bad (.inl hv))]
      (conv => whnf)
      (repeat' ((first | refine ord_ok (by (conv => whnf); (repeat' ((first | refine at_da hxd rfl ?_ | refine call_eqb tab rfl h1 rfl ?_ | refine ify ?_ | refine ifn ?_ | refine i6 ?_ | refine ati ?_ | refine mst ?_ | refine rmd ?_ | refine ibo (fun _ => ?_) (fun _ => ?_)) <;> conv => whnf)); (all_goals (repeat' (first | exact trivial | exact rfl | refine And.intro ?_ ?_)))) ?_ | refine at_da hxd rfl ?_ | refine call_eqb tab rfl h1 rfl ?_ | refine ify ?_ | refine ifn ?_ | refine i6 ?_ | refine ati ?_ | refine mst ?_ | refine rmd ?_ | refine ibo (fun _ => ?_) (fun _ => ?_)) <;> conv => whnf))
      exact rfl
  · have hie : i = l.length := by omega
    subst hie
    rw [linkedV_yes fun j v hj => hne j v (List.getElem?_eq_some_iff.1 hj).1 hj]
    ((conv => whnf); repeat' ((first | refine odw ?_ | refine ify ?_ | refine ifn ?_ | refine i6 ?_ | refine ati ?_ | refine mst ?_ | refine rmd ?_ | refine ibo (fun _ => ?_) (fun _ => ?_)) <;> conv => whnf))
    exact rfl
end Go.Proofs.YtaadeobcnamgdaaGreatDoor
end
