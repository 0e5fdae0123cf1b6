/- Merged: Flx Flt Fau Fst Fsu Qii. -/
import Derived.Test.YteigfapjiekdnaaGreatDoorRows
import Derived.Test.YteigfapjiekdnaaGreatDoorTrc
import Derived.Test.YteigfapjiekdnaaGreatDoorMem
import Derived.WalkSpells
import Derived.WalkLawsBesides
import Derived.Test.YteigfapjiekdnaaGreatDoorKeae
import Derived.Test.YteigfapjiekdnaaGreatDoorSxu
import Derived.Test.YteigfapjiekdnaaGreatDoorKeay
import Derived.Test.YteigfapjiekdnaaGreatDoorKeba
section
/- Closed facts on the calls that errors.As makes: what reflectlite's functions hand back. -/
namespace Go.Proofs.YteigfapjiekdnaaGreatDoor
open Go.RowKit Go.Reg

theorem x_valueOf_pp (t : Nat) (w : World) : (callFunc 169 #[.iface 178 (.pointer (some ⟨t,0,none⟩))]).run Tryz.prog w = .ok (.value (.agg #[.pointer (some ⟨5,178,none⟩), .pointer (some ⟨w.heap.size,0,none⟩), .int .u64 150])) (w.alloc (.cells #[.pointer (some ⟨t,0,none⟩)] 178)) := by kernel_rfl
theorem x_valueOf_p (t o : Nat) (w : World) : (callFunc 169 #[.iface 139 (.pointer (some ⟨t,o,none⟩))]).run Tryz.prog w = .ok (.value (.agg #[.pointer (some ⟨5,139,none⟩), .pointer (some ⟨w.heap.size,0,none⟩), .int .u64 150])) (w.alloc (.cells #[.pointer (some ⟨t,o,none⟩)] 139)) := by kernel_rfl
theorem x_type_pp (b : Nat) (w : World) : (callFunc 170 #[.agg #[.pointer (some ⟨5,178,none⟩), .pointer (some ⟨b,0,none⟩), .int .u64 150]]).run Tryz.prog w = .ok (.value (.iface 234 (.agg #[.pointer (some ⟨5,178,none⟩)]))) w := by kernel_rfl
theorem x_typeOf_p (b o : Nat) (w : World) : (callFunc 192 #[.iface 139 (.pointer (some ⟨b,o,none⟩))]).run Tryz.prog w = .ok (.value (.iface 234 (.agg #[.pointer (some ⟨5,139,none⟩)]))) w := by kernel_rfl
theorem x_kind_pp (w : World) : (callFunc 227 #[.pointer (some ⟨5,178,none⟩)]).run Tryz.prog w = .ok (.value (.int .u8 22)) w := by kernel_rfl
theorem x_kind_p (w : World) : (callFunc 227 #[.pointer (some ⟨5,139,none⟩)]).run Tryz.prog w = .ok (.value (.int .u8 22)) w := by kernel_rfl
theorem x_elem_pp (w : World) : (callFunc 240 #[.agg #[.pointer (some ⟨5,178,none⟩)]]).run Tryz.prog w = .ok (.value (.iface 234 (.agg #[.pointer (some ⟨5,139,none⟩)]))) w := by kernel_rfl
theorem x_impl_p (w : World) : (callFunc 241 #[.agg #[.pointer (some ⟨5,139,none⟩)], .iface 234 (.agg #[.pointer (some ⟨5,33,none⟩)])]).run Tryz.prog w = .ok (.value (.bool true)) w := by kernel_rfl
theorem x_assign_p (w : World) : (callFunc 238 #[.agg #[.pointer (some ⟨5,139,none⟩)], .iface 234 (.agg #[.pointer (some ⟨5,139,none⟩)])]).run Tryz.prog w = .ok (.value (.bool true)) w := by kernel_rfl
theorem x_mKind (b : Nat) (w : World) : (method 389 234 (.agg #[.pointer (some ⟨5,b,none⟩)]) "Kind").run Tryz.prog w = .ok (227, .pointer (some ⟨5,b,none⟩)) w := by kernel_rfl
theorem x_mElem (b : Nat) (w : World) : (method 389 234 (.agg #[.pointer (some ⟨5,b,none⟩)]) "Elem").run Tryz.prog w = .ok (240, .agg #[.pointer (some ⟨5,b,none⟩)]) w := by kernel_rfl
theorem x_mImpl (b : Nat) (w : World) : (method 389 234 (.agg #[.pointer (some ⟨5,b,none⟩)]) "Implements").run Tryz.prog w = .ok (241, .agg #[.pointer (some ⟨5,b,none⟩)]) w := by kernel_rfl
theorem x_mAssign (b : Nat) (w : World) : (method 389 234 (.agg #[.pointer (some ⟨5,b,none⟩)]) "AssignableTo").run Tryz.prog w = .ok (238, .agg #[.pointer (some ⟨5,b,none⟩)]) w := by kernel_rfl

theorem x_isNil (b t : Nat) (w : World) (h : w.cell? ⟨b,0,none⟩ = some (.pointer (some ⟨t,0,none⟩))) : (callFunc 171 #[.agg #[.pointer (some ⟨5,178,none⟩), .pointer (some ⟨b,0,none⟩), .int .u64 150]]).run Tryz.prog w = .ok (.value (.bool false)) w :=
  run_of_trace _ [.pointer (some ⟨t,0,none⟩)] [] (es := [ld ⟨b,0,none⟩ (.pointer (some ⟨t,0,none⟩))]) (by kernel_rfl) ⟨h, rfl⟩
theorem x_elemOf (b t : Nat) (w : World) (h : w.cell? ⟨b,0,none⟩ = some (.pointer (some ⟨t,0,none⟩))) : (callFunc 193 #[.agg #[.pointer (some ⟨5,178,none⟩), .pointer (some ⟨b,0,none⟩), .int .u64 150]]).run Tryz.prog w = .ok (.value (.agg #[.pointer (some ⟨5,139,none⟩), .pointer (some ⟨t,0,none⟩), .int .u64 406])) w :=
  run_of_trace _ [.pointer (some ⟨t,0,none⟩)] [] (es := [ld ⟨b,0,none⟩ (.pointer (some ⟨t,0,none⟩))]) (by kernel_rfl) ⟨h, rfl⟩
theorem x_set (t b : Nat) (v : Value) (f o : Nat) (w : World) (h : w.cell? ⟨b,0,none⟩ = some (.pointer (some ⟨f,o,none⟩))) (ht : w.cell? ⟨t,0,none⟩ = some v) (hz : w.frozen? ⟨t,0,none⟩ = false) : (callFunc 194 #[.agg #[.pointer (some ⟨5,139,none⟩), .pointer (some ⟨t,0,none⟩), .int .u64 406], .agg #[.pointer (some ⟨5,139,none⟩), .pointer (some ⟨b,0,none⟩), .int .u64 150]]).run Tryz.prog w = .ok (.value (.tuple #[])) (w.setCell ⟨t,0,none⟩ (.pointer (some ⟨f,o,none⟩))) :=
  run_of_trace _ [.pointer (some ⟨f,o,none⟩)] [] (es := [ld ⟨b,0,none⟩ (.pointer (some ⟨f,o,none⟩)), st ⟨t,0,none⟩ (.pointer (some ⟨f,o,none⟩))]) (by kernel_rfl) ⟨h, rfl, ⟨_, ht⟩, hz, rfl⟩

end Go.Proofs.YteigfapjiekdnaaGreatDoor
end

section
/- errors.As on the program's faults; fault.New, fault.Code. -/
namespace Go.Proofs.YteigfapjiekdnaaGreatDoor
open Go.RowKit Go.Reg

/-- what errors.errorType holds -/
def ErrT (w : World) : Prop := w.cell? ⟨0, 0, none⟩ = some (.iface 234 (.agg #[.pointer (some ⟨5,33,none⟩)]))

set_option maxRecDepth 100000 in
set_option maxHeartbeats 1000000 in
theorem as2_any (f o t b : Nat) (v : Value) (w : World) (hb : w.cell? ⟨b, 0, none⟩ = some (.pointer (some ⟨t, 0, none⟩))) (hf : w.cell? ⟨t, 0, none⟩ = some v) (hz : w.frozen? ⟨t, 0, none⟩ = false) (ht : t < w.heap.size) (hbs : b < w.heap.size) :
    Calls Tryz.prog 172 #[.iface 139 (.pointer (some ⟨f, o, none⟩)), .iface 178 (.pointer (some ⟨t, 0, none⟩)), .agg #[.pointer (some ⟨5,178,none⟩), .pointer (some ⟨b,0,none⟩), .int .u64 150], .iface 234 (.agg #[.pointer (some ⟨5,139,none⟩)])] w
      fun e w' => e = .returned (.bool true) ∧ w'.cell? ⟨t, 0, none⟩ = some (.pointer (some ⟨f, o, none⟩)) ∧ Tch [t] w w' := by
  have e1 := x_typeOf_p
  have e2 := x_mAssign
  have e3 := x_assign_p
  have e4 := fun w' (h : w'.cell? ⟨b,0,none⟩ = some (.pointer (some ⟨t,0,none⟩))) => x_elemOf b t w' h
  have e5 := x_valueOf_p f o
  have hT : Tch [] w ((w.alloc (.cells #[.pointer (some ⟨5,178,none⟩), .pointer (some ⟨b,0,none⟩), .int .u64 150] 210)).alloc (.cells #[.pointer (some ⟨f,o,none⟩)] 139)) := ((Tch.refl [] w).andAlloc _).andAlloc _
  have hN : ((w.alloc (.cells #[.pointer (some ⟨5,178,none⟩), .pointer (some ⟨b,0,none⟩), .int .u64 150] 210)).alloc (.cells #[.pointer (some ⟨f,o,none⟩)] 139)).cell? ⟨w.heap.size + 1, 0, none⟩ = some (.pointer (some ⟨f,o,none⟩)) := by
    simp
  have hFz : ((w.alloc (.cells #[.pointer (some ⟨5,178,none⟩), .pointer (some ⟨b,0,none⟩), .int .u64 150] 210)).alloc (.cells #[.pointer (some ⟨f,o,none⟩)] 139)).frozen? ⟨t, 0, none⟩ = false := by rw [World.frozen?_of_block (w := w) (hT.blk t ht (by simp))]; exact hz
  have e6 := x_set t (w.heap.size + 1) v f o _ hN (hT.cell hf (by simp)) hFz
  have HC := hid hf
  clear hT hN hFz
  go_enter Tryz.func172, Tryz.ntmps172
  go_wp2_with fail
  refine wp_loop_once ?_
  go_wp2_with fail
  go_ret
  refine ⟨rfl, ?_, ((Tch.setCell w (.inl (by simp)) _).andAlloc _).andAlloc _⟩
  exact (((Tch.refl [] _).andAlloc _).andAlloc _).cell (World.cell?_setCell_same _ _ _ HC.out) (by simp)

set_option maxRecDepth 100000 in
set_option maxHeartbeats 1000000 in
theorem as_any (f o t : Nat) (v : Value) (w : World) (hf : w.cell? ⟨t, 0, none⟩ = some v) (hz : w.frozen? ⟨t, 0, none⟩ = false) (ht : t < w.heap.size) (h0 : ErrT w) :
    Calls Tryz.prog 140 #[.iface 139 (.pointer (some ⟨f, o, none⟩)), .iface 178 (.pointer (some ⟨t, 0, none⟩))] w
      fun e w' => e = .returned (.bool true) ∧ w'.cell? ⟨t, 0, none⟩ = some (.pointer (some ⟨f, o, none⟩)) ∧ Tch [t] w w' := by
  unfold ErrT at h0
  have hs0 : 0 < w.heap.size := by omega
  have e1 := x_valueOf_pp t
  have e2 := x_type_pp
  have e3 := x_mKind
  have e4 := x_kind_pp
  have e5 := x_mElem
  have e6 := x_elem_pp
  have e7 := fun w' (h : w'.cell? ⟨w.heap.size,0,none⟩ = some (.pointer (some ⟨t,0,none⟩))) => x_isNil w.heap.size t w' h
  have e8 := x_kind_p
  have e9 := x_mImpl
  have e10 := x_impl_p
  have hT : Tch [] w ((w.alloc (.cells #[.pointer (some ⟨t,0,none⟩)] 178)).alloc (.cells #[.pointer (some ⟨5,178,none⟩), .pointer (some ⟨w.heap.size,0,none⟩), .int .u64 150] 210)) := ((Tch.refl [] w).andAlloc _).andAlloc _
  have HT := hid hT
  have HF := hid (hT.cell hf (by simp))
  have HB := hid (((Tch.refl [] (w.alloc (.cells #[.pointer (some ⟨t,0,none⟩)] 178))).andAlloc (.cells #[.pointer (some ⟨5,178,none⟩), .pointer (some ⟨w.heap.size,0,none⟩), .int .u64 150] 210)).cell ((Blk.new w 178 [.pointer (some ⟨t,0,none⟩)]).cell (i := 0) rfl) (by simp))
  have HZ := hid (show ((w.alloc (.cells #[.pointer (some ⟨t,0,none⟩)] 178)).alloc (.cells #[.pointer (some ⟨5,178,none⟩), .pointer (some ⟨w.heap.size,0,none⟩), .int .u64 150] 210)).frozen? ⟨t, 0, none⟩ = false by rw [World.frozen?_of_block (w := w) (hT.blk t ht (by simp))]; exact hz)
  clear hT hf hz
  go_enter Tryz.func140, Tryz.ntmps140
  go_wp2_with fail
  refine (as2_any f o t w.heap.size v _ HB.out HF.out HZ.out (by simp; omega) (by simp; omega)).mono ?_
  rintro e w' ⟨rfl, hc, hT⟩
  go_wp2_with fail
  go_ret
  exact ⟨rfl, hc, (HT.out).ahead0 hT⟩

set_option maxRecDepth 100000 in
theorem ffault_any (f o : Nat) (w : World) (h0 : ErrT w) (_hs : 0 < w.heap.size) :
    Calls Tryz.prog 99 #[.iface 139 (.pointer (some ⟨f, o, none⟩))] w fun e w' => e = .returned (.pointer (some ⟨f, o, none⟩)) ∧ Tch [] w w' := by
  have HN := hid (Blk.new w 139 [.pointer none])
  have H0 := hid (show ErrT (w.alloc (.cells #[.pointer none] 139)) from (Tch.alloc w _ []).cell h0 (by simp))
  clear h0
  go_enter Tryz.func99, Tryz.ntmps99
  go_wp2_with fail
  refine (as_any f o w.heap.size (.pointer none) _ (HN.out.cell (i := 0) rfl) (HN.out.frozen 0) (by simp) H0.out).mono ?_
  rintro e w' ⟨rfl, hc, hT⟩
  have HT := hid ((Tch.alloc w (.cells #[.pointer none] 139) []).trans hT (T := []) (fun _ h => h) (fun x hx => .inr (by simp at hx; omega)))
  clear hT
  go_wp2_with fail
  go_ret
  exact ⟨rfl, HT.out⟩

end Go.Proofs.YteigfapjiekdnaaGreatDoor
end

section
/- Faults, told for the engine: New, Code. -/
namespace Go.Proofs.YteigfapjiekdnaaGreatDoor
open Go.Sx Go.RowKit Go.Reg

set_option maxRecDepth 100000
theorem errT_glob {O : List Nat} {w : World} (h : Glob C1 O w) : ErrT w ∧ 0 ∉ O := by
  obtain ⟨cs, h1, h2⟩ := (h _ (List.mem_singleton_self _)).1
  simp only [RepC] at h1
  obtain ⟨b, o, c, rfl, hb, _, rfl, hc⟩ := h1
  simp only [toV, List.headD_cons, Value.pointer.injEq, Option.some.injEq, Addr.mk.injEq, and_true] at h2
  obtain ⟨rfl, rfl⟩ := h2
  exact ⟨hc 0 _ rfl, hb⟩
theorem ffault_pure (c a : Int) (s : ByteArray) : Pure C1 99 [dF c a s] (fun y => y = .ref (.agg [.int .i64 c, .int .i64 a, .str s])) := by
  intro O w us hO hg hr
  obtain ⟨v, vs, rfl, h1, h2⟩ := reps_inv hr
  obtain rfl := reps_inv0 h2
  obtain ⟨cs, r, rfl⟩ := h1
  simp only [dF, RepC] at r
  obtain ⟨c2, ⟨b, o, c3, rfl, r1, r2, r3, r4⟩, rfl⟩ := r
  obtain ⟨hE, h0⟩ := errT_glob hg
  refine ⟨by kernel_rfl, (ffault_any b o w hE (by omega)).mono ?_⟩
  rintro e w' ⟨rfl, ht⟩
  refine ⟨_, _, rfl, rfl, ⟨[_], ?_, rfl⟩, ht⟩
  have := RepC.later (Later.same ht O) (.ref (.agg [.int .i64 c, .int .i64 a, .str s])) [.pointer (some ⟨b, o, none⟩)] (by simp only [RepC]; exact ⟨b, o, c3, rfl, r1, r2, r3, r4⟩)
  exact this
theorem code_pure (c a : Int) (s : ByteArray) : Pure C1 45 [dF c a s] (fun y => y = .int .i64 c) := by
  refine pure_of c1_ok (pl := []) (G := []) Tryz.func45 rfl Tryz.ntmps45 (by intro vs w; kernel_rfl) (by kernel_rfl) (by simp) ?_
  ((conv => whnf); repeat' (first | (refine if_yes (by first | omega | rfl | assumption | exact ⟨rfl, rfl⟩ | exact ⟨rfl, rfl, rfl⟩ | exact ⟨rfl, rfl, rfl, rfl⟩) ?_; conv => whnf) | (refine if_no (by first | omega | assumption | exact fun h => h rfl | exact fun h => h (by assumption) | exact fun h => h ⟨rfl, rfl⟩ | exact fun h => h ⟨rfl, rfl, rfl⟩ | exact fun h => h ⟨rfl, rfl, rfl, rfl⟩) ?_; conv => whnf) | (refine i64_is (by omega) ?_; conv => whnf) | (refine at_is rfl (by assumption) ?_; conv => whnf) | (refine most_ok (by (try simp only [List.length_append, List.length_map, List.length_cons, List.length_nil]); omega) ?_; conv => whnf) | (refine rem_ok (by first | decide | omega) ?_; conv => whnf) | (refine if_both (fun _ => ?_) (fun _ => ?_) <;> conv => whnf)))
  refine call_pure rfl (ffault_pure c a s) ?_; rintro y rfl
  ((conv => whnf); repeat' (first | (refine if_yes (by first | omega | rfl | assumption | exact ⟨rfl, rfl⟩ | exact ⟨rfl, rfl, rfl⟩ | exact ⟨rfl, rfl, rfl, rfl⟩) ?_; conv => whnf) | (refine if_no (by first | omega | assumption | exact fun h => h rfl | exact fun h => h (by assumption) | exact fun h => h ⟨rfl, rfl⟩ | exact fun h => h ⟨rfl, rfl, rfl⟩ | exact fun h => h ⟨rfl, rfl, rfl, rfl⟩) ?_; conv => whnf) | (refine i64_is (by omega) ?_; conv => whnf) | (refine at_is rfl (by assumption) ?_; conv => whnf) | (refine most_ok (by (try simp only [List.length_append, List.length_map, List.length_cons, List.length_nil]); omega) ?_; conv => whnf) | (refine rem_ok (by first | decide | omega) ?_; conv => whnf) | (refine if_both (fun _ => ?_) (fun _ => ?_) <;> conv => whnf)))
  all_goals exact rfl
end Go.Proofs.YteigfapjiekdnaaGreatDoor
end

section
/- law12: alive, QuickImages: the walks. -/
namespace Go.Proofs.YteigfapjiekdnaaGreatDoor
open Go.Sx Go.RowKit Go.Reg Go.Gr

set_option maxRecDepth 100000
def qxE : List Edg := [⟨0, 2⟩, ⟨1, 2⟩, ⟨0, 1⟩]
def qxG : Gr := ⟨[0, 0, 0], [⟨0, 1⟩, ⟨0, 2⟩, ⟨1, 2⟩]⟩
theorem qx_canon : canon qxE = qxG.edges := (canon_eq (by decide) (by decide) (by decide)).symm
theorem qx_made : madeY [0, 0, 0] qxE = .tuple [dG qxG, dM qxG.labels qxG.edges, .bool true] := by
  have h : madeG [0, 0, 0] qxE = some qxG := by
    unfold madeG
    rw [if_pos (by decide), show newErr [0, 0, 0] qxE = none by decide, qx_canon]; rfl
  unfold madeY
  rw [h]
theorem qx_ok : qxG.Ok := by
  have h : madeG [0, 0, 0] qxE = some qxG := by
    unfold madeG
    rw [if_pos (by decide), show newErr [0, 0, 0] qxE = none by decide, qx_canon]; rfl
  exact (madeG_some h).2.1
theorem qx_text : patB ⟨[0, 0], [⟨0, 1⟩]⟩ = [48, 44, 48, 124, 48, 45, 49] := by
  have h0 : Lib.itoa 0 = [48] := by rw [show (0 : Int) = ((0 : Nat) : Int) from rfl, itoa_nat, Lib.decDigits_one (by omega)]; rfl
  have h1 : Lib.itoa 1 = [49] := by rw [show (1 : Int) = ((1 : Nat) : Int) from rfl, itoa_nat, Lib.decDigits_one (by omega)]; rfl
  unfold patB edgB
  simp only [List.map_cons, List.map_nil, h0, h1]
  rfl
def pl_qal : List (Nat × Plan) := []
def G_qal : List FuncId := [10, 40, 71, 45]
theorem cok_qal : codeOk Tryz.prog G_qal pl_qal (Tryz.f30.body.getD .skip) = true := by kernel_rfl
theorem run_qal (vs : Array Value) (w : World) : (callFunc 30 vs).run C1.P w = .ok (.enter 30 vs) w := by kernel_rfl
set_option maxHeartbeats 4000000 in
theorem qalive_pure : Sx.Pure C3 30 [] (fun y => y = .bool true) := by
  have hmd := Pure.up3 (made_pure [0, 0, 0] qxE)
  rw [qx_made] at hmd
  have hv1 := Pure.up3 (qvert_pure qxG qx_ok [2, 0] ⟨[0, 0], [⟨0, 1⟩]⟩ (fun _ _ => by
    have := pmake1_pure [0, 0] (by decide) ⟨0, 1⟩ (by decide) (by decide) (by decide)
    rw [show ([2, 0] : List Int).map (labelV qxG) = [0, 0] by decide, show colsF (adjF qxG.edges ([2, 0] : List Int)) ([2, 0] : List Int).length = [⟨0, 1⟩] by decide]
    exact this) (by decide))
  rw [if_neg (by decide), if_neg (by decide)] at hv1
  have hv2 := Pure.up3 (qvert_pure qxG qx_ok [0, 0] ⟨[], []⟩ (fun _ h => by exact absurd h (by decide)) (by decide))
  rw [if_neg (by decide), if_pos (by decide)] at hv2
  have htx := ptext_pure ⟨[0, 0], [⟨0, 1⟩]⟩ (by decide) (by decide) (by decide) (by decide)
  rw [qx_text] at htx
  have hc := Pure.up3 (code_pure 2 0 listS)
  refine pure_of c3_ok (pl := pl_qal) (G := G_qal) Tryz.func30 rfl Tryz.ntmps30 run_qal cok_qal (by simp) ?_
  (conv => whnf)
  (repeat' ((first | refine ord_ok (by (conv => whnf); (repeat' ((first | refine call_frz 9 rfl ?_ | refine call_frz 13 rfl ?_ | refine call_eq (xs := [dIs [0, 0, 0], dEs qxE]) rfl hmd ?_ | refine call_frz 20 rfl ?_ | refine call_eq (xs := [dG qxG, dIs [2, 0]]) rfl hv1 ?_ | refine call_frz 26 rfl ?_ | refine call_eq (xs := [dG qxG, dIs [0, 0]]) rfl hv2 ?_ | refine call_eq rfl htx ?_ | refine call_eq rfl hc ?_ | refine ify ?_ | refine ifn ?_ | refine i6 ?_ | refine ati ?_ | refine mst ?_ | refine rmd ?_ | refine ibo (fun _ => ?_) (fun _ => ?_)) <;> conv => whnf)); (all_goals (repeat' (first | exact trivial | exact rfl | refine And.intro ?_ ?_)))) ?_ | refine call_frz 9 rfl ?_ | refine call_frz 13 rfl ?_ | refine call_eq (xs := [dIs [0, 0, 0], dEs qxE]) rfl hmd ?_ | refine call_frz 20 rfl ?_ | refine call_eq (xs := [dG qxG, dIs [2, 0]]) rfl hv1 ?_ | refine call_frz 26 rfl ?_ | refine call_eq (xs := [dG qxG, dIs [0, 0]]) rfl hv2 ?_ | refine call_eq rfl htx ?_ | refine call_eq rfl hc ?_ | refine ify ?_ | refine ifn ?_ | refine i6 ?_ | refine ati ?_ | refine mst ?_ | refine rmd ?_ | refine ibo (fun _ => ?_) (fun _ => ?_)) <;> conv => whnf))
  exact rfl
end Go.Proofs.YteigfapjiekdnaaGreatDoor
end
