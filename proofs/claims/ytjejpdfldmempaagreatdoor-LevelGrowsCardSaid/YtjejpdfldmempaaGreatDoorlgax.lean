/- Merged: Flx Flt Fau Fst Fsu Qii Qta. -/
import Derived.Test.YtjejpdfldmempaaGreatDoorOen
import Derived.Test.YtjejpdfldmempaaGreatDoorRows
import Derived.Test.YtjejpdfldmempaaGreatDoorTrc
import Derived.Test.YtjejpdfldmempaaGreatDoorMem
import Derived.WalkSpells
import Derived.WalkLawsBesides
import Derived.Test.YtjejpdfldmempaaGreatDoorlgad
import Derived.Test.YtjejpdfldmempaaGreatDoorSxu
import Derived.Test.YtjejpdfldmempaaGreatDoorlgaw
section
namespace Go.Proofs.YtjejpdfldmempaaGreatDoor
open Go.RowKit Go.Reg
theorem x_valueOf_pp (t : Nat) (w : World) : (callFunc 169 #[.iface 194 (.pointer (some ⟨t,0,none⟩))]).run Tryz.prog w = .ok (.value (.agg #[.pointer (some ⟨5,194,none⟩), .pointer (some ⟨w.heap.size,0,none⟩), .int .u64 150])) (w.alloc (.cells #[.pointer (some ⟨t,0,none⟩)] 194)) := by kernel_rfl
theorem x_valueOf_p (t o : Nat) (w : World) : (callFunc 169 #[.iface 141 (.pointer (some ⟨t,o,none⟩))]).run Tryz.prog w = .ok (.value (.agg #[.pointer (some ⟨5,141,none⟩), .pointer (some ⟨w.heap.size,0,none⟩), .int .u64 150])) (w.alloc (.cells #[.pointer (some ⟨t,o,none⟩)] 141)) := by kernel_rfl
theorem x_type_pp (b : Nat) (w : World) : (callFunc 170 #[.agg #[.pointer (some ⟨5,194,none⟩), .pointer (some ⟨b,0,none⟩), .int .u64 150]]).run Tryz.prog w = .ok (.value (.iface 293 (.agg #[.pointer (some ⟨5,194,none⟩)]))) w := by kernel_rfl
theorem x_typeOf_p (b o : Nat) (w : World) : (callFunc 224 #[.iface 141 (.pointer (some ⟨b,o,none⟩))]).run Tryz.prog w = .ok (.value (.iface 293 (.agg #[.pointer (some ⟨5,141,none⟩)]))) w := by kernel_rfl
theorem x_kind_pp (w : World) : (callFunc 305 #[.pointer (some ⟨5,194,none⟩)]).run Tryz.prog w = .ok (.value (.int .u8 22)) w := by kernel_rfl
theorem x_kind_p (w : World) : (callFunc 305 #[.pointer (some ⟨5,141,none⟩)]).run Tryz.prog w = .ok (.value (.int .u8 22)) w := by kernel_rfl
theorem x_elem_pp (w : World) : (callFunc 318 #[.agg #[.pointer (some ⟨5,194,none⟩)]]).run Tryz.prog w = .ok (.value (.iface 293 (.agg #[.pointer (some ⟨5,141,none⟩)]))) w := by kernel_rfl
theorem x_impl_p (w : World) : (callFunc 319 #[.agg #[.pointer (some ⟨5,141,none⟩)], .iface 293 (.agg #[.pointer (some ⟨5,39,none⟩)])]).run Tryz.prog w = .ok (.value (.bool true)) w := by kernel_rfl
theorem x_assign_p (w : World) : (callFunc 316 #[.agg #[.pointer (some ⟨5,141,none⟩)], .iface 293 (.agg #[.pointer (some ⟨5,141,none⟩)])]).run Tryz.prog w = .ok (.value (.bool true)) w := by kernel_rfl
theorem x_mKind (b : Nat) (w : World) : (method 473 293 (.agg #[.pointer (some ⟨5,b,none⟩)]) "Kind").run Tryz.prog w = .ok (305, .pointer (some ⟨5,b,none⟩)) w := by kernel_rfl
theorem x_mElem (b : Nat) (w : World) : (method 473 293 (.agg #[.pointer (some ⟨5,b,none⟩)]) "Elem").run Tryz.prog w = .ok (318, .agg #[.pointer (some ⟨5,b,none⟩)]) w := by kernel_rfl
theorem x_mImpl (b : Nat) (w : World) : (method 473 293 (.agg #[.pointer (some ⟨5,b,none⟩)]) "Implements").run Tryz.prog w = .ok (319, .agg #[.pointer (some ⟨5,b,none⟩)]) w := by kernel_rfl
theorem x_mAssign (b : Nat) (w : World) : (method 473 293 (.agg #[.pointer (some ⟨5,b,none⟩)]) "AssignableTo").run Tryz.prog w = .ok (316, .agg #[.pointer (some ⟨5,b,none⟩)]) w := by kernel_rfl
theorem x_isNil (b t : Nat) (w : World) (h : w.cell? ⟨b,0,none⟩ = some (.pointer (some ⟨t,0,none⟩))) : (callFunc 171 #[.agg #[.pointer (some ⟨5,194,none⟩), .pointer (some ⟨b,0,none⟩), .int .u64 150]]).run Tryz.prog w = .ok (.value (.bool false)) w :=
 run_of_trace _ [.pointer (some ⟨t,0,none⟩)] [] (es := [ld ⟨b,0,none⟩ (.pointer (some ⟨t,0,none⟩))]) (by kernel_rfl) ⟨h, rfl⟩
theorem x_elemOf (b t : Nat) (w : World) (h : w.cell? ⟨b,0,none⟩ = some (.pointer (some ⟨t,0,none⟩))) : (callFunc 225 #[.agg #[.pointer (some ⟨5,194,none⟩), .pointer (some ⟨b,0,none⟩), .int .u64 150]]).run Tryz.prog w = .ok (.value (.agg #[.pointer (some ⟨5,141,none⟩), .pointer (some ⟨t,0,none⟩), .int .u64 406])) w :=
 run_of_trace _ [.pointer (some ⟨t,0,none⟩)] [] (es := [ld ⟨b,0,none⟩ (.pointer (some ⟨t,0,none⟩))]) (by kernel_rfl) ⟨h, rfl⟩
theorem x_set (t b : Nat) (v : Value) (f o : Nat) (w : World) (h : w.cell? ⟨b,0,none⟩ = some (.pointer (some ⟨f,o,none⟩))) (ht : w.cell? ⟨t,0,none⟩ = some v) (hz : w.frozen? ⟨t,0,none⟩ = false) : (callFunc 226 #[.agg #[.pointer (some ⟨5,141,none⟩), .pointer (some ⟨t,0,none⟩), .int .u64 406], .agg #[.pointer (some ⟨5,141,none⟩), .pointer (some ⟨b,0,none⟩), .int .u64 150]]).run Tryz.prog w = .ok (.value (.tuple #[])) (w.setCell ⟨t,0,none⟩ (.pointer (some ⟨f,o,none⟩))) :=
 run_of_trace _ [.pointer (some ⟨f,o,none⟩)] [] (es := [ld ⟨b,0,none⟩ (.pointer (some ⟨f,o,none⟩)), st ⟨t,0,none⟩ (.pointer (some ⟨f,o,none⟩))]) (by kernel_rfl) ⟨h, rfl, ⟨_, ht⟩, hz, rfl⟩
end Go.Proofs.YtjejpdfldmempaaGreatDoor
end
section
namespace Go.Proofs.YtjejpdfldmempaaGreatDoor
open Go.RowKit Go.Reg
def ErrT (w : World) : Prop := w.cell? ⟨0, 0, none⟩ = some (.iface 293 (.agg #[.pointer (some ⟨5,39,none⟩)]))
set_option maxRecDepth 100000 in
set_option maxHeartbeats 1000000 in
theorem as2_any (f o t b : Nat) (v : Value) (w : World) (hb : w.cell? ⟨b, 0, none⟩ = some (.pointer (some ⟨t, 0, none⟩))) (hf : w.cell? ⟨t, 0, none⟩ = some v) (hz : w.frozen? ⟨t, 0, none⟩ = false) (ht : t < w.heap.size) (hbs : b < w.heap.size) :
  Calls Tryz.prog 172 #[.iface 141 (.pointer (some ⟨f, o, none⟩)), .iface 194 (.pointer (some ⟨t, 0, none⟩)), .agg #[.pointer (some ⟨5,194,none⟩), .pointer (some ⟨b,0,none⟩), .int .u64 150], .iface 293 (.agg #[.pointer (some ⟨5,141,none⟩)])] w
   fun e w' => e = .returned (.bool true) ∧ w'.cell? ⟨t, 0, none⟩ = some (.pointer (some ⟨f, o, none⟩)) ∧ Tch [t] w w' := by
 have e1 := x_typeOf_p
 have e2 := x_mAssign
 have e3 := x_assign_p
 have e4 := fun w' (h : w'.cell? ⟨b,0,none⟩ = some (.pointer (some ⟨t,0,none⟩))) => x_elemOf b t w' h
 have e5 := x_valueOf_p f o
 have hT : Tch [] w ((w.alloc (.cells #[.pointer (some ⟨5,194,none⟩), .pointer (some ⟨b,0,none⟩), .int .u64 150] 248)).alloc (.cells #[.pointer (some ⟨f,o,none⟩)] 141)) := ((Tch.refl [] w).andAlloc _).andAlloc _
 have hN : ((w.alloc (.cells #[.pointer (some ⟨5,194,none⟩), .pointer (some ⟨b,0,none⟩), .int .u64 150] 248)).alloc (.cells #[.pointer (some ⟨f,o,none⟩)] 141)).cell? ⟨w.heap.size + 1, 0, none⟩ = some (.pointer (some ⟨f,o,none⟩)) := by
  simp
 have hFz : ((w.alloc (.cells #[.pointer (some ⟨5,194,none⟩), .pointer (some ⟨b,0,none⟩), .int .u64 150] 248)).alloc (.cells #[.pointer (some ⟨f,o,none⟩)] 141)).frozen? ⟨t, 0, none⟩ = false := by rw [World.frozen?_of_block (w := w) (hT.blk t ht (by simp))]; exact hz
 have e6 := x_set t (w.heap.size + 1) v f o _ hN (hT.cell hf (by simp)) hFz
 have HC := hid hf
 clear hT hN hFz
 go_enter Tryz.func172, Tryz.ntmps172
 go_wp2_with fail
 refine wp_loop_once ?_
 go_wp2_with fail
 go_ret
 refine ⟨rfl, ?_, ((Tch.setCell w (.inl (by simp)) _).andAlloc _).andAlloc _⟩
 exact (((Tch.refl [] _).andAlloc _).andAlloc _).cell (World.cell?_setCell_same _ _ _ HC.out) (by simp)
set_option maxRecDepth 100000 in
set_option maxHeartbeats 1000000 in
theorem as_any (f o t : Nat) (v : Value) (w : World) (hf : w.cell? ⟨t, 0, none⟩ = some v) (hz : w.frozen? ⟨t, 0, none⟩ = false) (ht : t < w.heap.size) (h0 : ErrT w) :
  Calls Tryz.prog 115 #[.iface 141 (.pointer (some ⟨f, o, none⟩)), .iface 194 (.pointer (some ⟨t, 0, none⟩))] w
   fun e w' => e = .returned (.bool true) ∧ w'.cell? ⟨t, 0, none⟩ = some (.pointer (some ⟨f, o, none⟩)) ∧ Tch [t] w w' := by
 unfold ErrT at h0
 have hs0 : 0 < w.heap.size := by omega
 have e1 := x_valueOf_pp t
 have e2 := x_type_pp
 have e3 := x_mKind
 have e4 := x_kind_pp
 have e5 := x_mElem
 have e6 := x_elem_pp
 have e7 := fun w' (h : w'.cell? ⟨w.heap.size,0,none⟩ = some (.pointer (some ⟨t,0,none⟩))) => x_isNil w.heap.size t w' h
 have e8 := x_kind_p
 have e9 := x_mImpl
 have e10 := x_impl_p
 have hT : Tch [] w ((w.alloc (.cells #[.pointer (some ⟨t,0,none⟩)] 194)).alloc (.cells #[.pointer (some ⟨5,194,none⟩), .pointer (some ⟨w.heap.size,0,none⟩), .int .u64 150] 248)) := ((Tch.refl [] w).andAlloc _).andAlloc _
 have HT := hid hT
 have HF := hid (hT.cell hf (by simp))
 have HB := hid (((Tch.refl [] (w.alloc (.cells #[.pointer (some ⟨t,0,none⟩)] 194))).andAlloc (.cells #[.pointer (some ⟨5,194,none⟩), .pointer (some ⟨w.heap.size,0,none⟩), .int .u64 150] 248)).cell ((Blk.new w 194 [.pointer (some ⟨t,0,none⟩)]).cell (i := 0) rfl) (by simp))
 have HZ := hid (show ((w.alloc (.cells #[.pointer (some ⟨t,0,none⟩)] 194)).alloc (.cells #[.pointer (some ⟨5,194,none⟩), .pointer (some ⟨w.heap.size,0,none⟩), .int .u64 150] 248)).frozen? ⟨t, 0, none⟩ = false by rw [World.frozen?_of_block (w := w) (hT.blk t ht (by simp))]; exact hz)
 clear hT hf hz
 go_enter Tryz.func115, Tryz.ntmps115
 go_wp2_with fail
 refine (as2_any f o t w.heap.size v _ HB.out HF.out HZ.out (by simp; omega) (by simp; omega)).mono ?_
 rintro e w' ⟨rfl, hc, hT⟩
 go_wp2_with fail
 go_ret
 exact ⟨rfl, hc, (HT.out).ahead0 hT⟩
set_option maxRecDepth 100000 in
theorem ffault_any (f o : Nat) (w : World) (h0 : ErrT w) (_hs : 0 < w.heap.size) :
  Calls Tryz.prog 74 #[.iface 141 (.pointer (some ⟨f, o, none⟩))] w fun e w' => e = .returned (.pointer (some ⟨f, o, none⟩)) ∧ Tch [] w w' := by
 have HN := hid (Blk.new w 141 [.pointer none])
 have H0 := hid (show ErrT (w.alloc (.cells #[.pointer none] 141)) from (Tch.alloc w _ []).cell h0 (by simp))
 clear h0
 go_enter Tryz.func74, Tryz.ntmps74
 go_wp2_with fail
 refine (as_any f o w.heap.size (.pointer none) _ (HN.out.cell (i := 0) rfl) (HN.out.frozen 0) (by simp) H0.out).mono ?_
 rintro e w' ⟨rfl, hc, hT⟩
 have HT := hid ((Tch.alloc w (.cells #[.pointer none] 141) []).trans hT (T := []) (fun _ h => h) (fun x hx => .inr (by simp at hx; omega)))
 clear hT
 go_wp2_with fail
 go_ret
 exact ⟨rfl, HT.out⟩
end Go.Proofs.YtjejpdfldmempaaGreatDoor
end
section
namespace Go.Proofs.YtjejpdfldmempaaGreatDoor
open Go.Sx Go.RowKit Go.Reg
set_option maxRecDepth 100000
theorem errT_glob {O : List Nat} {w : World} (h : Glob C1 O w) : ErrT w ∧ 0 ∉ O := by
 obtain ⟨cs, h1, h2⟩ := (h _ (List.mem_singleton_self _)).1
 simp only [RepC] at h1
 obtain ⟨b, o, c, rfl, hb, _, rfl, hc⟩ := h1
 simp only [toV, List.headD_cons, Value.pointer.injEq, Option.some.injEq, Addr.mk.injEq, and_true] at h2
 obtain ⟨rfl, rfl⟩ := h2
 exact ⟨hc 0 _ rfl, hb⟩
theorem ffault_pure (c a : Int) (s : ByteArray) : Pure C1 74 [dF c a s] (fun y => y = .ref (.agg [.int .i64 c, .int .i64 a, .str s])) := by
 intro O w us hO hg hr
 obtain ⟨v, vs, rfl, h1, h2⟩ := reps_inv hr
 obtain rfl := reps_inv0 h2
 obtain ⟨cs, r, rfl⟩ := h1
 simp only [dF, RepC] at r
 obtain ⟨c2, ⟨b, o, c3, rfl, r1, r2, r3, r4⟩, rfl⟩ := r
 obtain ⟨hE, h0⟩ := errT_glob hg
 refine ⟨by kernel_rfl, (ffault_any b o w hE (by omega)).mono ?_⟩
 rintro e w' ⟨rfl, ht⟩
 refine ⟨_, _, rfl, rfl, ⟨[_], ?_, rfl⟩, ht⟩
 have := RepC.later (Later.same ht O) (.ref (.agg [.int .i64 c, .int .i64 a, .str s])) [.pointer (some ⟨b, o, none⟩)] (by simp only [RepC]; exact ⟨b, o, c3, rfl, r1, r2, r3, r4⟩)
 exact this
theorem code_pure (c a : Int) (s : ByteArray) : Pure C1 24 [dF c a s] (fun y => y = .int .i64 c) := by
 refine pure_of c1_ok (pl := []) (G := []) Tryz.func24 rfl Tryz.ntmps24 (by intro vs w; kernel_rfl) (by kernel_rfl) (by simp) ?_
 ((conv => whnf); repeat' (first | (refine if_yes (by first | omega | rfl | assumption | exact ⟨rfl, rfl⟩ | exact ⟨rfl, rfl, rfl⟩ | exact ⟨rfl, rfl, rfl, rfl⟩) ?_; conv => whnf) | (refine if_no (by first | omega | assumption | exact fun h => h rfl | exact fun h => h (by assumption) | exact fun h => h ⟨rfl, rfl⟩ | exact fun h => h ⟨rfl, rfl, rfl⟩ | exact fun h => h ⟨rfl, rfl, rfl, rfl⟩) ?_; conv => whnf) | (refine i64_is (by omega) ?_; conv => whnf) | (refine at_is rfl (by assumption) ?_; conv => whnf) | (refine most_ok (by (try simp only [List.length_append, List.length_map, List.length_cons, List.length_nil]); omega) ?_; conv => whnf) | (refine rem_ok (by first | decide | omega) ?_; conv => whnf) | (refine if_both (fun _ => ?_) (fun _ => ?_) <;> conv => whnf)))
 refine call_pure rfl (ffault_pure c a s) ?_; rintro y rfl
 ((conv => whnf); repeat' (first | (refine if_yes (by first | omega | rfl | assumption | exact ⟨rfl, rfl⟩ | exact ⟨rfl, rfl, rfl⟩ | exact ⟨rfl, rfl, rfl, rfl⟩) ?_; conv => whnf) | (refine if_no (by first | omega | assumption | exact fun h => h rfl | exact fun h => h (by assumption) | exact fun h => h ⟨rfl, rfl⟩ | exact fun h => h ⟨rfl, rfl, rfl⟩ | exact fun h => h ⟨rfl, rfl, rfl, rfl⟩) ?_; conv => whnf) | (refine i64_is (by omega) ?_; conv => whnf) | (refine at_is rfl (by assumption) ?_; conv => whnf) | (refine most_ok (by (try simp only [List.length_append, List.length_map, List.length_cons, List.length_nil]); omega) ?_; conv => whnf) | (refine rem_ok (by first | decide | omega) ?_; conv => whnf) | (refine if_both (fun _ => ?_) (fun _ => ?_) <;> conv => whnf)))
 all_goals exact rfl
end Go.Proofs.YtjejpdfldmempaaGreatDoor
end
section
namespace Go.Proofs.YtjejpdfldmempaaGreatDoor
open Go.Sx Go.RowKit Go.Reg Go.Gr
set_option maxRecDepth 100000
theorem touch_bes {G : Gr} {u m : Nat} (hu : u < G.edges.length) (hm : m < G.edges.length) (h : u ≠ m) : touchV G.edges u m = besP (lnGr G).edges m u := by
 rw [touchV_nat]
 unfold besP lnGr
 rw [Bool.eq_iff_iff, decide_eq_true_eq]
 exact (turn_want h hu hm).symm
theorem any_touch {G : Gr} {t : List Int} {m : Nat} (hm : m < G.edges.length) (hn : ¬ (m : Int) ∈ t) (ht : ∀ u ∈ t, 0 ≤ u ∧ u < G.edges.length) : t.any (fun u => touchV G.edges u m) = t.any (besP (lnGr G).edges m) := by
 rw [Bool.eq_iff_iff, List.any_eq_true, List.any_eq_true]
 have key : ∀ u ∈ t, touchV G.edges u m = besP (lnGr G).edges m u := fun u hu => by
  obtain ⟨h1, h2⟩ := ht u hu
  obtain ⟨k, rfl⟩ := Int.eq_ofNat_of_zero_le h1
  exact touch_bes (by omega) hm (fun e => hn (by subst e; exact hu))
 constructor
 ·rintro ⟨u, hu, h⟩; exact ⟨u, hu, by rw [← key u hu]; exact h⟩
 ·rintro ⟨u, hu, h⟩; exact ⟨u, hu, by rw [key u hu]; exact h⟩
def pl_qscf : List (Nat × Plan) := []
def G_qscf : List FuncId := [231]
theorem cok_qscf : codeOk Tryz.prog G_qscf pl_qscf (Tryz.f187.body.getD .skip) = true := by kernel_rfl
theorem run_qscf (vs : Array Value) (w : World) : (callFunc 187 vs).run C1.P w = .ok (.enter 187 vs) w := by kernel_rfl
theorem qcontainsF_pure (l : List Int) (g : FuncId) (cs : List Da) (p : Int → Bool) (hp : ∀ x ∈ l, Pure C1 g (.int .i64 x :: cs) (fun y => y = .bool (p x))) : Pure C1 187 [dIs l, .func (.func g) [] cs] (fun y => y = .bool (l.any p)) := by
 refine pure_of c1_ok (pl := pl_qscf) (G := G_qscf) Tryz.func187 rfl Tryz.ntmps187 run_qscf cok_qscf (by simp) ?_
 (conv => whnf)
 (repeat' ((first | refine ord_ok ?_ ?_ | refine call_eq rfl (indexF_pure l g cs p hp) ?_ | refine ify ?_ | refine ifn ?_ | refine i6 ?_ | refine ati ?_ | refine mst ?_ | refine rmd ?_ | refine ibo (fun _ => ?_) (fun _ => ?_) | exact oend) <;> conv => whnf))
 show Da.plain _ = _
 have := idxF_nn l p
 cases h : l.any p <;> simp [Da.plain, this, h]
def pl_qlk1 : List (Nat × Plan) := []
def G_qlk1 : List FuncId := [192]
theorem cok_qlk1 : codeOk Tryz.prog G_qlk1 pl_qlk1 (Tryz.f191.body.getD .skip) = true := by kernel_rfl
theorem run_qlk1 (vs : Array Value) (w : World) : (callFunc 191 vs).run C1.P w = .ok (.enter 191 vs) w := by kernel_rfl
theorem qlk1_pure (G : Gr) (id u : Int) : Pure C1 191 [.int .i64 u, .ref (dG G), .ref (.int .i64 id)] (fun y => y = .bool (touchV G.edges u id)) := by
 refine pure_of c1_ok (pl := pl_qlk1) (G := G_qlk1) Tryz.func191 rfl Tryz.ntmps191 run_qlk1 cok_qlk1 (by simp) ?_
 (conv => whnf)
 (repeat' ((first | refine ord_ok ?_ ?_ | refine call_eq rfl (touch_pure G u id) ?_ | refine ify ?_ | refine ifn ?_ | refine i6 ?_ | refine ati ?_ | refine mst ?_ | refine rmd ?_ | refine ibo (fun _ => ?_) (fun _ => ?_) | exact oend) <;> conv => whnf))
 exact rfl
def pl_qlk : List (Nat × Plan) := [(5, .leaf [0, 0, 0, 0, 0, 0, 1, 2, 0] [0, 1, 2, 3, 4, 5, 6, 7, 8] [0, 1, 3, 7, 7, 31, 7, 127, 255])]
def G_qlk : List FuncId := [190, 186, 187]
theorem cok_qlk : codeOk Tryz.prog G_qlk pl_qlk (Tryz.f125.body.getD .skip) = true := by kernel_rfl
theorem run_qlk (vs : Array Value) (w : World) : (callFunc 125 vs).run C1.P w = .ok (.enter 125 vs) w := by kernel_rfl
set_option maxHeartbeats 4000000 in
theorem qlinked_pure (G : Gr) (l : List Int) : Pure C1 125 [dG G, dIs l] (fun y => y = .bool (linkedV (lnGr G) l)) := by
 refine Pure.assume (fun O w us hr => by obtain ⟨v, vs, rfl, h1, h2⟩ := reps_inv hr; obtain ⟨v2, vs2, rfl, h3, _⟩ := reps_inv h2; exact ints_len h3) fun hm => ?_
 have hl : (l.map dI).length = l.length := List.length_map _
 refine pure_of c1_ok (pl := pl_qlk) (G := G_qlk) Tryz.func125 rfl Tryz.ntmps125 run_qlk cok_qlk (by simp) ?_
 ((conv => whnf); repeat' ((first | refine odw ?_ | refine ify ?_ | refine ifn ?_ | refine i6 ?_ | refine ati ?_ | refine mst ?_ | refine rmd ?_ | refine ibo (fun _ => ?_) (fun _ => ?_)) <;> conv => whnf))
 refine loop_lo (ι := Nat) (fun i => i ≤ l.length ∧ ∀ (j : Nat) (v : Int), j < i → l[j]? = some v → linkAt (lnGr G) l j v = true) (fun i => [(11, .d (.int .i64 i)), (10, .d (.int .i64 (l.map dI).length)), (9, .d (dIs l)), (2, .own 2), (1, .d (dIs l))]) (fun _ => [(2, .cells 54 [.d (dG G)])]) (fun i => l.length - i) 0 (fun _ => rfl) ⟨Nat.zero_le _, by intro j v h; omega⟩ (.refl _ _) ⟨rfl, rfl, rfl, rfl, rfl, trivial⟩ ⟨rfl, trivial⟩ ?_
 rintro i ⟨hi, hne⟩
 refine sxCode_sound c1_ok (G := G_qlk) (pl := pl_qlk) _ _ _ _ (by kernel_rfl) ?_
 by_cases hlt : i < l.length
 ·have hx := List.getElem?_eq_getElem hlt
  generalize l[i] = y at hx
  have hxd : (l.map dI)[i]? = some (.int .i64 y) := by rw [List.getElem?_map, hx]; rfl
  have h1 := edge_pure G y
  have h2 := contains_pure (l.take i) y
  rw [dIs_take] at h2
  have hi2 : i ≤ (l.map dI).length := by omega
  by_cases hv : 0 ≤ y ∧ y < G.edges.length
  ·obtain ⟨m, rfl⟩ := Int.eq_ofNat_of_zero_le hv.1
   have hml : m < G.edges.length := by omega
   have he := List.getElem?_eq_getElem hml
   generalize G.edges[m] = x at he
   have ey : edgeY G.edges m = .tuple [dE x, .bool true] := by unfold edgeY; rw [if_pos hv, Int.toNat_natCast, he]; rfl
   rw [ey] at h1
   have hhv : hasV (lnGr G) m = true := by rw [ln_has, decide_eq_true hv]
   by_cases hc : (m : Int) ∈ l.take i
   ·rw [decide_eq_true hc] at h2
    rw [linkedV_no hx (linkAt_bad (.inr hc))]
    (conv => whnf)
    (repeat' ((first | refine ord_ok ?_ ?_ | refine at_da hxd rfl ?_ | refine call_eqb tab rfl h1 rfl ?_ | refine hi_is rfl hi2 ?_ | refine call_eqb tab rfl h2 rfl ?_ | refine ify ?_ | refine ifn ?_ | refine i6 ?_ | refine ati ?_ | refine mst ?_ | refine rmd ?_ | refine ibo (fun _ => ?_) (fun _ => ?_) | exact oend) <;> conv => whnf))
    exact rfl
   ·rw [decide_eq_false hc] at h2
    by_cases h0 : i = 0
    ·have hyes : linkAt (lnGr G) l i m = true := by simp [linkAt, hhv, h0]
     (conv => whnf)
     (repeat' ((first | refine ord_ok ?_ ?_ | refine at_da hxd rfl ?_ | refine call_eqb tab rfl h1 rfl ?_ | refine hi_is rfl hi2 ?_ | refine call_eqb tab rfl h2 rfl ?_ | refine ify ?_ | refine ifn ?_ | refine i6 ?_ | refine ati ?_ | refine mst ?_ | refine rmd ?_ | refine ibo (fun _ => ?_) (fun _ => ?_) | exact oend) <;> conv => whnf))
     refine ⟨i + 1, _, _, ⟨hlt, ?_⟩, .refl _ _, ⟨rfl, rfl, rfl, rfl, rfl, trivial⟩, ⟨rfl, trivial⟩, by omega⟩
     intro j v hj hjv
     by_cases hji : j = i
     ·subst hji; rw [hx] at hjv; cases hjv; exact hyes
     ·exact hne j v (by omega) hjv
    ·have hpre : ∀ u ∈ l.take i, 0 ≤ u ∧ u < G.edges.length := fun u hu => by
      obtain ⟨j, hj, hju⟩ := List.mem_take_iff_getElem.1 hu
      have hj2 : j < l.length := by omega
      have h3 := hne j u (by omega) (by rw [List.getElem?_eq_getElem hj2, hju])
      by_cases hur : 0 ≤ u ∧ u < G.edges.length
      ·exact hur
      ·rw [linkAt_bad (.inl hur)] at h3; cases h3
     have h3 := qcontainsF_pure (l.take i) 191 [.ref (dG G), .ref (.int .i64 m)] (fun u => touchV G.edges u m) (fun u _ => qlk1_pure G m u)
     rw [dIs_take, any_touch hml hc hpre] at h3
     have hla : linkAt (lnGr G) l i m = (l.take i).any (besP (lnGr G).edges m) := by unfold linkAt; rw [hhv, decide_eq_false hc, decide_eq_false h0]; simp
     cases hb : (l.take i).any (besP (lnGr G).edges m) with
     | true =>
       have hyes := hla.trans hb
       rw [hb] at h3
       (conv => whnf)
       (repeat' ((first | refine ord_ok ?_ ?_ | refine at_da hxd rfl ?_ | refine call_eqb tab rfl h1 rfl ?_ | refine hi_is rfl hi2 ?_ | refine call_eqb tab rfl h2 rfl ?_ | refine call_eqb tab rfl h3 rfl ?_ | refine ify ?_ | refine ifn ?_ | refine i6 ?_ | refine ati ?_ | refine mst ?_ | refine rmd ?_ | refine ibo (fun _ => ?_) (fun _ => ?_) | exact oend) <;> conv => whnf))
       refine ⟨i + 1, _, _, ⟨hlt, ?_⟩, .refl _ _, ⟨rfl, rfl, rfl, rfl, rfl, trivial⟩, ⟨rfl, trivial⟩, by omega⟩
       intro j v hj hjv
       by_cases hji : j = i
       ·subst hji; rw [hx] at hjv; cases hjv; exact hyes
       ·exact hne j v (by omega) hjv
     | false =>
       rw [hb] at h3
       rw [linkedV_no hx (hla.trans hb)]
       (conv => whnf)
       (repeat' ((first | refine ord_ok ?_ ?_ | refine at_da hxd rfl ?_ | refine call_eqb tab rfl h1 rfl ?_ | refine hi_is rfl hi2 ?_ | refine call_eqb tab rfl h2 rfl ?_ | refine call_eqb tab rfl h3 rfl ?_ | refine ify ?_ | refine ifn ?_ | refine i6 ?_ | refine ati ?_ | refine mst ?_ | refine rmd ?_ | refine ibo (fun _ => ?_) (fun _ => ?_) | exact oend) <;> conv => whnf))
       exact rfl
  ·have ey : edgeY G.edges y = .tuple [dE ⟨0, 0⟩, .bool false] := by unfold edgeY; rw [if_neg hv]
   rw [ey] at h1
   rw [linkedV_no hx (linkAt_bad (.inl hv))]
   (conv => whnf)
   (repeat' ((first | refine ord_ok ?_ ?_ | refine at_da hxd rfl ?_ | refine call_eqb tab rfl h1 rfl ?_ | refine ify ?_ | refine ifn ?_ | refine i6 ?_ | refine ati ?_ | refine mst ?_ | refine rmd ?_ | refine ibo (fun _ => ?_) (fun _ => ?_) | exact oend) <;> conv => whnf))
   exact rfl
 ·have hie : i = l.length := by omega
  subst hie
  rw [linkedV_yes fun j v hj => hne j v (List.getElem?_eq_some_iff.1 hj).1 hj]
  ((conv => whnf); repeat' ((first | refine odw ?_ | refine ify ?_ | refine ifn ?_ | refine i6 ?_ | refine ati ?_ | refine mst ?_ | refine rmd ?_ | refine ibo (fun _ => ?_) (fun _ => ?_)) <;> conv => whnf))
  exact rfl
def pl_sm8 : List (Nat × Plan) := [(6, .leaf [0, 1, 0, 0, 1, 0, 1, 0, 0, 1, 3] [0, 2, 5, 7, 1, 3, 4, 6, 8, 9, 10] [0, 1, 0, 7, 15, 0, 32, 0, 224, 480, 1023])]
def G_sm8 : List FuncId := [28]
theorem cok_sm8 : codeOk Tryz.prog G_sm8 pl_sm8 (Tryz.f37.body.getD .skip) = true := by kernel_rfl
theorem run_sm8 (vs : Array Value) (w : World) : (callFunc 37 vs).run C1.P w = .ok (.enter 37 vs) w := by kernel_rfl
set_option maxHeartbeats 4000000 in
theorem same8_pure (p : Pt) (hme : p.edges.length ≤ 9000000000000000000) : Pure C1 37 [dPt p, dPt p] (fun y => y = .bool true) := by
 have hde : (p.edges.map dE).length = p.edges.length := List.length_map _
 have hsm := same_pure p.labels p.labels
 rw [decide_eq_true rfl] at hsm
 refine pure_of c1_ok (pl := pl_sm8) (G := G_sm8) Tryz.func37 rfl Tryz.ntmps37 run_sm8 cok_sm8 (by simp) ?_
 (conv => whnf)
 (repeat' ((first | refine ord_ok ?_ ?_ | refine call_eq rfl hsm ?_ | refine ify ?_ | refine ifn ?_ | refine i6 ?_ | refine ati ?_ | refine mst ?_ | refine rmd ?_ | refine ibo (fun _ => ?_) (fun _ => ?_) | exact oend) <;> conv => whnf))
 refine loop_lo (ι := Nat) (fun i => i ≤ p.edges.length) (fun i => [(5, .d (.int .i64 i)), (3, .own 3), (2, .own 2)]) (fun _ => [(2, .cells 31 [.d (dIs p.labels), .d (dEs p.edges)]), (3, .cells 35 [.d (dIs p.labels), .d (dEs p.edges)])]) (fun i => p.edges.length - i) 0 (fun _ => rfl) (Nat.zero_le _) (.refl _ _) ⟨rfl, rfl, rfl, trivial⟩ ⟨rfl, rfl, trivial⟩ ?_
 intro i hi
 refine sxCode_sound c1_ok (G := G_sm8) (pl := pl_sm8) _ _ _ _ (by kernel_rfl) ?_
 by_cases hil : i < p.edges.length
 ·have hx := List.getElem?_eq_getElem hil
  generalize p.edges[i] = x at hx
  have hxd : (p.edges.map dE)[i]? = some (.agg [.int .i64 x.a, .int .i64 x.b]) := by rw [List.getElem?_map, hx]; rfl
  (conv => whnf)
  (repeat' ((first | refine ord_ok ?_ ?_ | refine at_da hxd rfl ?_ | refine ify ?_ | refine ifn ?_ | refine i6 ?_ | refine ati ?_ | refine mst ?_ | refine rmd ?_ | refine ibo (fun _ => ?_) (fun _ => ?_) | exact oend) <;> conv => whnf))
  exact ⟨i + 1, _, _, by omega, .refl _ _, ⟨rfl, rfl, rfl, trivial⟩, ⟨rfl, rfl, trivial⟩, by omega⟩
 ·((conv => whnf); repeat' ((first | refine odw ?_ | refine ify ?_ | refine ifn ?_ | refine i6 ?_ | refine ati ?_ | refine mst ?_ | refine rmd ?_ | refine ibo (fun _ => ?_) (fun _ => ?_)) <;> conv => whnf))
  exact rfl
def pl_r12a : List (Nat × Plan) := [(5, .leaf [0, 1, 0, 1, 0, 0, 0, 1, 0, 1, 6, 3, 0, 3] [0, 2, 4, 5, 6, 1, 3, 7, 8, 9, 10, 11, 12, 13] [0, 1, 0, 4, 0, 0, 48, 112, 252, 508, 1020, 2047, 4095, 8191]),
 (10, .leaf [0, 0, 1, 0, 0, 0, 1, 0, 1, 6, 3, 0] [0, 1, 3, 4, 5, 2, 6, 7, 8, 9, 10, 11] [0, 0, 2, 0, 0, 24, 56, 126, 254, 510, 1023, 2047])]
def G_r12a : List FuncId := [134]
theorem cok_r12a : codeOk Tryz.prog G_r12a pl_r12a (Tryz.f90.body.getD .skip) = true := by kernel_rfl
theorem run_r12a (vs : Array Value) (w : World) : (callFunc 90 vs).run C1.P w = .ok (.enter 90 vs) w := by kernel_rfl
set_option maxHeartbeats 4000000 in
theorem alone_pure (G : Gr) (V L : List Int) (hV : V.length ≤ 1000) (hL : L.length ≤ 1000) (_hGe : G.edges.length ≤ 9000000000000000000) (hv : ∀ x ∈ V, 0 ≤ x ∧ x < G.labels.length) (hl : ∀ x ∈ L, 0 ≤ x ∧ x < G.edges.length) :
  Pure C1 90 [dM G.labels G.edges, dIs V, dIs L] (fun y => y = dPt ⟨V.map (labelV G), madeE (endsOf G.edges L) V⟩) := by
 have hdL : (L.map dI).length = L.length := List.length_map _
 have hdV : (V.map dI).length = V.length := List.length_map _
 have hdG : (G.labels.map dI).length = G.labels.length := List.length_map _
 have hdE : (G.edges.map dE).length = G.edges.length := List.length_map _
 refine pure_of c1_ok (pl := pl_r12a) (G := G_r12a) Tryz.func90 rfl Tryz.ntmps90 run_r12a cok_r12a (by simp) ?_
 ((conv => whnf); repeat' ((first | refine odw ?_ | refine ify ?_ | refine ifn ?_ | refine i6 ?_ | refine ati ?_ | refine mst ?_ | refine rmd ?_ | refine ibo (fun _ => ?_) (fun _ => ?_)) <;> conv => whnf))
 refine loop_lo (ι := Nat) (fun i => i ≤ L.length) (fun i => [(8, .d (.int .i64 i)), (7, .own 7), (6, .own 6), (3, .own 3), (2, .d (dIs L)), (1, .d (dIs V))]) (fun i => [(3, .cells 59 [.d (dIs G.labels), .d (dEs G.edges)]), (6, .cells 35 [.d .nils, .d .nils]), (7, .cells 35 [.d (dIs G.labels), .own 300]), (300, .slice 137 2 ((endsOf G.edges (L.take i)).map dE))]) (fun i => L.length - i) 0 (fun _ => rfl) (Nat.zero_le _) (.ownc 7 300 137 2 rfl rfl (.there _ (.here _)) (.refl _ _)) ⟨rfl, rfl, rfl, rfl, rfl, rfl, trivial⟩ ⟨rfl, rfl, rfl, rfl, trivial⟩ ?_
 intro i hi
 refine sxCode_sound c1_ok (G := G_r12a) (pl := pl_r12a) _ _ _ _ (by kernel_rfl) ?_
 by_cases hil : i < L.length
 ·have hx := List.getElem?_eq_getElem hil
  have hxv := hl _ (List.getElem_mem hil)
  generalize L[i] = x at hx hxv
  obtain ⟨v, rfl⟩ := Int.eq_ofNat_of_zero_le hxv.1
  have hvl : v < G.edges.length := by omega
  have he := List.getElem?_eq_getElem hvl
  generalize G.edges[v] = e at he
  have hxd : (L.map dI)[i]? = some (.int .i64 v) := by rw [List.getElem?_map, hx]; rfl
  have hed : (G.edges.map dE)[v]? = some (.agg [.int .i64 e.a, .int .i64 e.b]) := by rw [List.getElem?_map, he]; rfl
  have hll : (endsOf G.edges (L.take i)).length ≤ 1000 := Nat.le_trans (endsOf_len _ _) (by rw [List.length_take]; omega)
  (conv => whnf)
  (repeat' ((first | refine ord_ok ?_ ?_ | refine at_da hxd rfl ?_ | refine at_da hed rfl ?_ | refine ify ?_ | refine ifn ?_ | refine i6 ?_ | refine ati ?_ | refine mst ?_ | refine rmd ?_ | refine ibo (fun _ => ?_) (fun _ => ?_) | exact oend) <;> conv => whnf))
  refine ⟨i + 1, _, _, by omega, .refl _ _, ⟨rfl, rfl, rfl, rfl, rfl, rfl, trivial⟩, ⟨rfl, rfl, rfl, slice_is ?_, trivial⟩, by omega⟩
  rw [List.take_add_one, hx, Option.toList_some, endsOf_in he]; simp [dE]
 ·have e : L.take i = L := List.take_of_length_le (by omega)
  rw [e]
  have hle := endsOf_len G.edges L
  ((conv => whnf); repeat' ((first | refine odw ?_ | refine ify ?_ | refine ifn ?_ | refine i6 ?_ | refine ati ?_ | refine mst ?_ | refine rmd ?_ | refine ibo (fun _ => ?_) (fun _ => ?_)) <;> conv => whnf))
  refine loop_lo (ι := Nat) (fun j => j ≤ V.length) (fun j => [(10, .d (.int .i64 j)), (9, .own 301), (7, .own 7), (6, .own 6), (3, .own 3), (1, .d (dIs V))]) (fun j => [(3, .cells 59 [.d (dIs G.labels), .d (dEs G.edges)]), (6, .cells 35 [.d .nils, .d .nils]), (7, .cells 35 [.d (dIs G.labels), .d (dEs (endsOf G.edges L))]), (301, .slice 3 1 (((V.take j).map (labelV G)).map dI))]) (fun j => V.length - j) 0 (fun _ => rfl) (Nat.zero_le _) (.frz 300 rfl (.own 9 301 3 1 rfl rfl (.refl _ _))) ⟨rfl, rfl, rfl, rfl, rfl, rfl, trivial⟩ ⟨rfl, rfl, rfl, rfl, trivial⟩ ?_
  intro j hj
  refine sxCode_sound c1_ok (G := G_r12a) (pl := pl_r12a) _ _ _ _ (by kernel_rfl) ?_
  by_cases hjl : j < V.length
  ·have hx := List.getElem?_eq_getElem hjl
   have hxv := hv _ (List.getElem_mem hjl)
   generalize V[j] = x at hx hxv
   obtain ⟨v, rfl⟩ := Int.eq_ofNat_of_zero_le hxv.1
   have hvl : v < G.labels.length := by omega
   have hxd : (V.map dI)[j]? = some (.int .i64 v) := by rw [List.getElem?_map, hx]; rfl
   have hlv : (G.labels.map dI)[v]? = some (.int .i64 (labelV G v)) := by
    rw [List.getElem?_map, List.getElem?_eq_getElem hvl]
    unfold labelV
    rw [if_pos (by omega), Int.toNat_natCast, List.getElem?_eq_getElem hvl]; rfl
   have hll : (((V.take j).map (labelV G)).map dI).length = j := by simp only [List.length_map, List.length_take]; omega
   (conv => whnf)
   (repeat' ((first | refine ord_ok ?_ ?_ | refine at_da hxd rfl ?_ | refine at_da hlv rfl ?_ | refine ify ?_ | refine ifn ?_ | refine i6 ?_ | refine ati ?_ | refine mst ?_ | refine rmd ?_ | refine ibo (fun _ => ?_) (fun _ => ?_) | exact oend) <;> conv => whnf))
   refine ⟨j + 1, _, _, by omega, .refl _ _, ⟨rfl, rfl, rfl, rfl, rfl, rfl, trivial⟩, ⟨rfl, rfl, rfl, slice_is ?_, trivial⟩, by omega⟩
   rw [List.take_add_one, hx]; simp [dI]
  ·have e2 : V.take j = V := List.take_of_length_le (by omega)
   rw [e2]
   have hmd := rmade_pure (V.map (labelV G)) ⟨G.labels, endsOf G.edges L⟩ V hV (by show (endsOf G.edges L).length ≤ _; omega)
   (conv => whnf)
   (repeat' ((first | refine ord_ok ?_ ?_ | refine call_frz 301 rfl ?_ | refine call_eq rfl hmd ?_ | refine ify ?_ | refine ifn ?_ | refine i6 ?_ | refine ati ?_ | refine mst ?_ | refine rmd ?_ | refine ibo (fun _ => ?_) (fun _ => ?_) | exact oend) <;> conv => whnf))
   exact rfl
end Go.Proofs.YtjejpdfldmempaaGreatDoor
end
