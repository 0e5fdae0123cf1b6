/- Merged: Lct Lcs Flx Flt Fau Mnl Mru Cpf. -/
import Derived.Test.YteigfapjiekdnaaGreatDoorKtbb
import Derived.Test.YteigfapjiekdnaaGreatDoorRows
import Derived.Test.YteigfapjiekdnaaGreatDoorTrc
import Derived.Test.YteigfapjiekdnaaGreatDoorMem
import Derived.WalkSpells
import Derived.WalkLawsBesides
import Derived.Test.YteigfapjiekdnaaGreatDoorKtae
import Derived.Test.YteigfapjiekdnaaGreatDoorKtaq
import Derived.Test.YteigfapjiekdnaaGreatDoorKtai
import Derived.Test.YteigfapjiekdnaaGreatDoorKtam
import Derived.Test.YteigfapjiekdnaaGreatDoorKtax
import Derived.Test.YteigfapjiekdnaaGreatDoorKtao
section
/- CanonTurns: the walk. -/
namespace Go.Proofs.YteigfapjiekdnaaGreatDoor
open Go.Sx Go.RowKit Go.Reg Go.Gr

set_option maxRecDepth 100000
theorem cmp_by {p q : Pt} (hp : pErr p = none) (hq : pErr q = none) : Pure C1 62 [dPt p, dPt q] (fun y => y = .int .i64 (cmpP p q)) := by
  have h1 := (lErr_none (pErr_none hp).1).1
  have h2 := (lErr_none (pErr_none hq).1).1
  have h3 := pt_edges hp
  have h4 := pt_edges hq
  exact ptcompare_pure p q (by omega) (by omega) (by omega) (by omega)
theorem cmp_same {p : Pt} (hp : pErr p = none) : Pure C1 62 [dPt p, dPt p] (fun y => y = .int .i64 0) := by
  have := cmp_by hp hp
  rwa [torP.self p] at this
end Go.Proofs.YteigfapjiekdnaaGreatDoor
end

section
/- Closed facts on the calls that errors.As makes: what reflectlite's functions hand back. -/
namespace Go.Proofs.YteigfapjiekdnaaGreatDoor
open Go.RowKit Go.Reg

theorem x_valueOf_pp (t : Nat) (w : World) : (callFunc 169 #[.iface 178 (.pointer (some ⟨t,0,none⟩))]).run Tryz.prog w = .ok (.value (.agg #[.pointer (some ⟨5,178,none⟩), .pointer (some ⟨w.heap.size,0,none⟩), .int .u64 150])) (w.alloc (.cells #[.pointer (some ⟨t,0,none⟩)] 178)) := by kernel_rfl
theorem x_valueOf_p (t o : Nat) (w : World) : (callFunc 169 #[.iface 139 (.pointer (some ⟨t,o,none⟩))]).run Tryz.prog w = .ok (.value (.agg #[.pointer (some ⟨5,139,none⟩), .pointer (some ⟨w.heap.size,0,none⟩), .int .u64 150])) (w.alloc (.cells #[.pointer (some ⟨t,o,none⟩)] 139)) := by kernel_rfl
theorem x_type_pp (b : Nat) (w : World) : (callFunc 170 #[.agg #[.pointer (some ⟨5,178,none⟩), .pointer (some ⟨b,0,none⟩), .int .u64 150]]).run Tryz.prog w = .ok (.value (.iface 234 (.agg #[.pointer (some ⟨5,178,none⟩)]))) w := by kernel_rfl
theorem x_typeOf_p (b o : Nat) (w : World) : (callFunc 192 #[.iface 139 (.pointer (some ⟨b,o,none⟩))]).run Tryz.prog w = .ok (.value (.iface 234 (.agg #[.pointer (some ⟨5,139,none⟩)]))) w := by kernel_rfl
theorem x_kind_pp (w : World) : (callFunc 227 #[.pointer (some ⟨5,178,none⟩)]).run Tryz.prog w = .ok (.value (.int .u8 22)) w := by kernel_rfl
theorem x_kind_p (w : World) : (callFunc 227 #[.pointer (some ⟨5,139,none⟩)]).run Tryz.prog w = .ok (.value (.int .u8 22)) w := by kernel_rfl
theorem x_elem_pp (w : World) : (callFunc 240 #[.agg #[.pointer (some ⟨5,178,none⟩)]]).run Tryz.prog w = .ok (.value (.iface 234 (.agg #[.pointer (some ⟨5,139,none⟩)]))) w := by kernel_rfl
theorem x_impl_p (w : World) : (callFunc 241 #[.agg #[.pointer (some ⟨5,139,none⟩)], .iface 234 (.agg #[.pointer (some ⟨5,33,none⟩)])]).run Tryz.prog w = .ok (.value (.bool true)) w := by kernel_rfl
theorem x_assign_p (w : World) : (callFunc 238 #[.agg #[.pointer (some ⟨5,139,none⟩)], .iface 234 (.agg #[.pointer (some ⟨5,139,none⟩)])]).run Tryz.prog w = .ok (.value (.bool true)) w := by kernel_rfl
theorem x_mKind (b : Nat) (w : World) : (method 389 234 (.agg #[.pointer (some ⟨5,b,none⟩)]) "Kind").run Tryz.prog w = .ok (227, .pointer (some ⟨5,b,none⟩)) w := by kernel_rfl
theorem x_mElem (b : Nat) (w : World) : (method 389 234 (.agg #[.pointer (some ⟨5,b,none⟩)]) "Elem").run Tryz.prog w = .ok (240, .agg #[.pointer (some ⟨5,b,none⟩)]) w := by kernel_rfl
theorem x_mImpl (b : Nat) (w : World) : (method 389 234 (.agg #[.pointer (some ⟨5,b,none⟩)]) "Implements").run Tryz.prog w = .ok (241, .agg #[.pointer (some ⟨5,b,none⟩)]) w := by kernel_rfl
theorem x_mAssign (b : Nat) (w : World) : (method 389 234 (.agg #[.pointer (some ⟨5,b,none⟩)]) "AssignableTo").run Tryz.prog w = .ok (238, .agg #[.pointer (some ⟨5,b,none⟩)]) w := by kernel_rfl

theorem x_isNil (b t : Nat) (w : World) (h : w.cell? ⟨b,0,none⟩ = some (.pointer (some ⟨t,0,none⟩))) : (callFunc 171 #[.agg #[.pointer (some ⟨5,178,none⟩), .pointer (some ⟨b,0,none⟩), .int .u64 150]]).run Tryz.prog w = .ok (.value (.bool false)) w :=
  run_of_trace _ [.pointer (some ⟨t,0,none⟩)] [] (es := [ld ⟨b,0,none⟩ (.pointer (some ⟨t,0,none⟩))]) (by kernel_rfl) ⟨h, rfl⟩
theorem x_elemOf (b t : Nat) (w : World) (h : w.cell? ⟨b,0,none⟩ = some (.pointer (some ⟨t,0,none⟩))) : (callFunc 193 #[.agg #[.pointer (some ⟨5,178,none⟩), .pointer (some ⟨b,0,none⟩), .int .u64 150]]).run Tryz.prog w = .ok (.value (.agg #[.pointer (some ⟨5,139,none⟩), .pointer (some ⟨t,0,none⟩), .int .u64 406])) w :=
  run_of_trace _ [.pointer (some ⟨t,0,none⟩)] [] (es := [ld ⟨b,0,none⟩ (.pointer (some ⟨t,0,none⟩))]) (by kernel_rfl) ⟨h, rfl⟩
theorem x_set (t b : Nat) (v : Value) (f o : Nat) (w : World) (h : w.cell? ⟨b,0,none⟩ = some (.pointer (some ⟨f,o,none⟩))) (ht : w.cell? ⟨t,0,none⟩ = some v) (hz : w.frozen? ⟨t,0,none⟩ = false) : (callFunc 194 #[.agg #[.pointer (some ⟨5,139,none⟩), .pointer (some ⟨t,0,none⟩), .int .u64 406], .agg #[.pointer (some ⟨5,139,none⟩), .pointer (some ⟨b,0,none⟩), .int .u64 150]]).run Tryz.prog w = .ok (.value (.tuple #[])) (w.setCell ⟨t,0,none⟩ (.pointer (some ⟨f,o,none⟩))) :=
  run_of_trace _ [.pointer (some ⟨f,o,none⟩)] [] (es := [ld ⟨b,0,none⟩ (.pointer (some ⟨f,o,none⟩)), st ⟨t,0,none⟩ (.pointer (some ⟨f,o,none⟩))]) (by kernel_rfl) ⟨h, rfl, ⟨_, ht⟩, hz, rfl⟩

end Go.Proofs.YteigfapjiekdnaaGreatDoor
end

section
/- errors.As on the program's faults; fault.New, fault.Code. -/
namespace Go.Proofs.YteigfapjiekdnaaGreatDoor
open Go.RowKit Go.Reg

/-- what errors.errorType holds -/
def ErrT (w : World) : Prop := w.cell? ⟨0, 0, none⟩ = some (.iface 234 (.agg #[.pointer (some ⟨5,33,none⟩)]))

set_option maxRecDepth 100000 in
set_option maxHeartbeats 1000000 in
theorem as2_any (f o t b : Nat) (v : Value) (w : World) (hb : w.cell? ⟨b, 0, none⟩ = some (.pointer (some ⟨t, 0, none⟩))) (hf : w.cell? ⟨t, 0, none⟩ = some v) (hz : w.frozen? ⟨t, 0, none⟩ = false) (ht : t < w.heap.size) (hbs : b < w.heap.size) :
    Calls Tryz.prog 172 #[.iface 139 (.pointer (some ⟨f, o, none⟩)), .iface 178 (.pointer (some ⟨t, 0, none⟩)), .agg #[.pointer (some ⟨5,178,none⟩), .pointer (some ⟨b,0,none⟩), .int .u64 150], .iface 234 (.agg #[.pointer (some ⟨5,139,none⟩)])] w
      fun e w' => e = .returned (.bool true) ∧ w'.cell? ⟨t, 0, none⟩ = some (.pointer (some ⟨f, o, none⟩)) ∧ Tch [t] w w' := by
  have e1 := x_typeOf_p
  have e2 := x_mAssign
  have e3 := x_assign_p
  have e4 := fun w' (h : w'.cell? ⟨b,0,none⟩ = some (.pointer (some ⟨t,0,none⟩))) => x_elemOf b t w' h
  have e5 := x_valueOf_p f o
  have hT : Tch [] w ((w.alloc (.cells #[.pointer (some ⟨5,178,none⟩), .pointer (some ⟨b,0,none⟩), .int .u64 150] 210)).alloc (.cells #[.pointer (some ⟨f,o,none⟩)] 139)) := ((Tch.refl [] w).andAlloc _).andAlloc _
  have hN : ((w.alloc (.cells #[.pointer (some ⟨5,178,none⟩), .pointer (some ⟨b,0,none⟩), .int .u64 150] 210)).alloc (.cells #[.pointer (some ⟨f,o,none⟩)] 139)).cell? ⟨w.heap.size + 1, 0, none⟩ = some (.pointer (some ⟨f,o,none⟩)) := by
    simp
  have hFz : ((w.alloc (.cells #[.pointer (some ⟨5,178,none⟩), .pointer (some ⟨b,0,none⟩), .int .u64 150] 210)).alloc (.cells #[.pointer (some ⟨f,o,none⟩)] 139)).frozen? ⟨t, 0, none⟩ = false := by rw [World.frozen?_of_block (w := w) (hT.blk t ht (by simp))]; exact hz
  have e6 := x_set t (w.heap.size + 1) v f o _ hN (hT.cell hf (by simp)) hFz
  have HC := hid hf
  clear hT hN hFz
  go_enter Tryz.func172, Tryz.ntmps172
  go_wp2_with fail
  refine wp_loop_once ?_
  go_wp2_with fail
  go_ret
  refine ⟨rfl, ?_, ((Tch.setCell w (.inl (by simp)) _).andAlloc _).andAlloc _⟩
  exact (((Tch.refl [] _).andAlloc _).andAlloc _).cell (World.cell?_setCell_same _ _ _ HC.out) (by simp)

set_option maxRecDepth 100000 in
set_option maxHeartbeats 1000000 in
theorem as_any (f o t : Nat) (v : Value) (w : World) (hf : w.cell? ⟨t, 0, none⟩ = some v) (hz : w.frozen? ⟨t, 0, none⟩ = false) (ht : t < w.heap.size) (h0 : ErrT w) :
    Calls Tryz.prog 140 #[.iface 139 (.pointer (some ⟨f, o, none⟩)), .iface 178 (.pointer (some ⟨t, 0, none⟩))] w
      fun e w' => e = .returned (.bool true) ∧ w'.cell? ⟨t, 0, none⟩ = some (.pointer (some ⟨f, o, none⟩)) ∧ Tch [t] w w' := by
  unfold ErrT at h0
  have hs0 : 0 < w.heap.size := by omega
  have e1 := x_valueOf_pp t
  have e2 := x_type_pp
  have e3 := x_mKind
  have e4 := x_kind_pp
  have e5 := x_mElem
  have e6 := x_elem_pp
  have e7 := fun w' (h : w'.cell? ⟨w.heap.size,0,none⟩ = some (.pointer (some ⟨t,0,none⟩))) => x_isNil w.heap.size t w' h
  have e8 := x_kind_p
  have e9 := x_mImpl
  have e10 := x_impl_p
  have hT : Tch [] w ((w.alloc (.cells #[.pointer (some ⟨t,0,none⟩)] 178)).alloc (.cells #[.pointer (some ⟨5,178,none⟩), .pointer (some ⟨w.heap.size,0,none⟩), .int .u64 150] 210)) := ((Tch.refl [] w).andAlloc _).andAlloc _
  have HT := hid hT
  have HF := hid (hT.cell hf (by simp))
  have HB := hid (((Tch.refl [] (w.alloc (.cells #[.pointer (some ⟨t,0,none⟩)] 178))).andAlloc (.cells #[.pointer (some ⟨5,178,none⟩), .pointer (some ⟨w.heap.size,0,none⟩), .int .u64 150] 210)).cell ((Blk.new w 178 [.pointer (some ⟨t,0,none⟩)]).cell (i := 0) rfl) (by simp))
  have HZ := hid (show ((w.alloc (.cells #[.pointer (some ⟨t,0,none⟩)] 178)).alloc (.cells #[.pointer (some ⟨5,178,none⟩), .pointer (some ⟨w.heap.size,0,none⟩), .int .u64 150] 210)).frozen? ⟨t, 0, none⟩ = false by rw [World.frozen?_of_block (w := w) (hT.blk t ht (by simp))]; exact hz)
  clear hT hf hz
  go_enter Tryz.func140, Tryz.ntmps140
  go_wp2_with fail
  refine (as2_any f o t w.heap.size v _ HB.out HF.out HZ.out (by simp; omega) (by simp; omega)).mono ?_
  rintro e w' ⟨rfl, hc, hT⟩
  go_wp2_with fail
  go_ret
  exact ⟨rfl, hc, (HT.out).ahead0 hT⟩

set_option maxRecDepth 100000 in
theorem ffault_any (f o : Nat) (w : World) (h0 : ErrT w) (_hs : 0 < w.heap.size) :
    Calls Tryz.prog 99 #[.iface 139 (.pointer (some ⟨f, o, none⟩))] w fun e w' => e = .returned (.pointer (some ⟨f, o, none⟩)) ∧ Tch [] w w' := by
  have HN := hid (Blk.new w 139 [.pointer none])
  have H0 := hid (show ErrT (w.alloc (.cells #[.pointer none] 139)) from (Tch.alloc w _ []).cell h0 (by simp))
  clear h0
  go_enter Tryz.func99, Tryz.ntmps99
  go_wp2_with fail
  refine (as_any f o w.heap.size (.pointer none) _ (HN.out.cell (i := 0) rfl) (HN.out.frozen 0) (by simp) H0.out).mono ?_
  rintro e w' ⟨rfl, hc, hT⟩
  have HT := hid ((Tch.alloc w (.cells #[.pointer none] 139) []).trans hT (T := []) (fun _ h => h) (fun x hx => .inr (by simp at hx; omega)))
  clear hT
  go_wp2_with fail
  go_ret
  exact ⟨rfl, HT.out⟩

end Go.Proofs.YteigfapjiekdnaaGreatDoor
end

section
/- Faults, told for the engine: New, Code. -/
namespace Go.Proofs.YteigfapjiekdnaaGreatDoor
open Go.Sx Go.RowKit Go.Reg

set_option maxRecDepth 100000
theorem errT_glob {O : List Nat} {w : World} (h : Glob C1 O w) : ErrT w ∧ 0 ∉ O := by
  obtain ⟨cs, h1, h2⟩ := (h _ (List.mem_singleton_self _)).1
  simp only [RepC] at h1
  obtain ⟨b, o, c, rfl, hb, _, rfl, hc⟩ := h1
  simp only [toV, List.headD_cons, Value.pointer.injEq, Option.some.injEq, Addr.mk.injEq, and_true] at h2
  obtain ⟨rfl, rfl⟩ := h2
  exact ⟨hc 0 _ rfl, hb⟩
theorem ffault_pure (c a : Int) (s : ByteArray) : Pure C1 99 [dF c a s] (fun y => y = .ref (.agg [.int .i64 c, .int .i64 a, .str s])) := by
  intro O w us hO hg hr
  obtain ⟨v, vs, rfl, h1, h2⟩ := reps_inv hr
  obtain rfl := reps_inv0 h2
  obtain ⟨cs, r, rfl⟩ := h1
  simp only [dF, RepC] at r
  obtain ⟨c2, ⟨b, o, c3, rfl, r1, r2, r3, r4⟩, rfl⟩ := r
  obtain ⟨hE, h0⟩ := errT_glob hg
  refine ⟨by kernel_rfl, (ffault_any b o w hE (by omega)).mono ?_⟩
  rintro e w' ⟨rfl, ht⟩
  refine ⟨_, _, rfl, rfl, ⟨[_], ?_, rfl⟩, ht⟩
  have := RepC.later (Later.same ht O) (.ref (.agg [.int .i64 c, .int .i64 a, .str s])) [.pointer (some ⟨b, o, none⟩)] (by simp only [RepC]; exact ⟨b, o, c3, rfl, r1, r2, r3, r4⟩)
  exact this
theorem code_pure (c a : Int) (s : ByteArray) : Pure C1 45 [dF c a s] (fun y => y = .int .i64 c) := by
  refine pure_of c1_ok (pl := []) (G := []) Tryz.func45 rfl Tryz.ntmps45 (by intro vs w; kernel_rfl) (by kernel_rfl) (by simp) ?_
  ((conv => whnf); repeat' (first | (refine if_yes (by first | omega | rfl | assumption | exact ⟨rfl, rfl⟩ | exact ⟨rfl, rfl, rfl⟩ | exact ⟨rfl, rfl, rfl, rfl⟩) ?_; conv => whnf) | (refine if_no (by first | omega | assumption | exact fun h => h rfl | exact fun h => h (by assumption) | exact fun h => h ⟨rfl, rfl⟩ | exact fun h => h ⟨rfl, rfl, rfl⟩ | exact fun h => h ⟨rfl, rfl, rfl, rfl⟩) ?_; conv => whnf) | (refine i64_is (by omega) ?_; conv => whnf) | (refine at_is rfl (by assumption) ?_; conv => whnf) | (refine most_ok (by (try simp only [List.length_append, List.length_map, List.length_cons, List.length_nil]); omega) ?_; conv => whnf) | (refine rem_ok (by first | decide | omega) ?_; conv => whnf) | (refine if_both (fun _ => ?_) (fun _ => ?_) <;> conv => whnf)))
  refine call_pure rfl (ffault_pure c a s) ?_; rintro y rfl
  ((conv => whnf); repeat' (first | (refine if_yes (by first | omega | rfl | assumption | exact ⟨rfl, rfl⟩ | exact ⟨rfl, rfl, rfl⟩ | exact ⟨rfl, rfl, rfl, rfl⟩) ?_; conv => whnf) | (refine if_no (by first | omega | assumption | exact fun h => h rfl | exact fun h => h (by assumption) | exact fun h => h ⟨rfl, rfl⟩ | exact fun h => h ⟨rfl, rfl, rfl⟩ | exact fun h => h ⟨rfl, rfl, rfl, rfl⟩) ?_; conv => whnf) | (refine i64_is (by omega) ?_; conv => whnf) | (refine at_is rfl (by assumption) ?_; conv => whnf) | (refine most_ok (by (try simp only [List.length_append, List.length_map, List.length_cons, List.length_nil]); omega) ?_; conv => whnf) | (refine rem_ok (by first | decide | omega) ?_; conv => whnf) | (refine if_both (fun _ => ?_) (fun _ => ?_) <;> conv => whnf)))
  all_goals exact rfl
end Go.Proofs.YteigfapjiekdnaaGreatDoor
end

section
/- law15: alive, MiniLabels: the walks. -/
namespace Go.Gr
open Go.Proofs.YteigfapjiekdnaaGreatDoor
def mxG : Gr := ⟨[0, 0, 0], [⟨0, 2⟩, ⟨1, 2⟩]⟩
def mxP : Pt := ⟨[0, 0], [⟨0, 1⟩]⟩
theorem mx_canon : canon [⟨0, 2⟩, ⟨1, 2⟩] = mxG.edges := (canon_eq (by decide) (by decide) (by decide)).symm
theorem mx_made : madeG [0, 0, 0] [⟨0, 2⟩, ⟨1, 2⟩] = some mxG := by
  unfold madeG
  rw [if_pos (by decide), show newErr [0, 0, 0] [⟨0, 2⟩, ⟨1, 2⟩] = none by decide, mx_canon]; rfl
theorem mx_ok : mxG.Ok := (madeG_some mx_made).2.1
theorem mx_sup : supP mxG mxP = 3 := by
  unfold supP
  rw [show imgP mxG mxP false = [[0, 2], [1, 2], [2, 0], [2, 1]] by decide]
  have h0 : colS [[0, 2], [1, 2], [2, 0], [2, 1]] 0 = [0, 1, 2] := rise_eq (colS_rise _ _) (by decide) fun x => by
    rw [mem_colS]; simp
    constructor
    · rintro (h | h | h) <;> omega
    · rintro (h | h | h) <;> omega
  have h1 : colS [[0, 2], [1, 2], [2, 0], [2, 1]] 1 = [0, 1, 2] := rise_eq (colS_rise _ _) (by decide) fun x => by
    rw [mem_colS]; simp
    constructor
    · rintro (h | h | h) <;> omega
    · rintro (h | h | h) <;> omega
  exact leastL_is (s := [0, 1, 2]) (mem_colsS.2 ⟨0, by decide, h0⟩) fun t ht => by
    obtain ⟨i, hi, rfl⟩ := mem_colsS.1 ht
    have hi : i < 2 := hi
    match i with
    | 0 => rw [h0]; decide
    | 1 => rw [h1]; decide
    | i + 2 => omega
end Go.Gr
namespace Go.Proofs.YteigfapjiekdnaaGreatDoor
open Go.Sx Go.RowKit Go.Reg Go.Gr

set_option maxRecDepth 100000
def pl_mnw : List (Nat × Plan) := [(9, .leaf [1, 0, 0, 1, 0, 2, 0, 6, 0, 0] [1, 2, 0, 3, 4, 5, 6, 7, 8, 9] [0, 0, 0, 4, 12, 28, 63, 127, 255, 511])]
def G_mnw : List FuncId := [53, 43, 34]
theorem cok_mnw : codeOk Tryz.prog G_mnw pl_mnw (Tryz.f21.body.getD .skip) = true := by kernel_rfl
theorem run_mnw (vs : Array Value) (w : World) : (callFunc 21 vs).run C1.P w = .ok (.enter 21 vs) w := by kernel_rfl
theorem mnew_empty : Pure C1 21 [.agg [.nils, .nils]] (fun y => y = .tuple [.nilp, dF 2 0 patternS]) := by
  refine Sx.Pure.lax (.cons (.agg (.cons (.nils 1) (.cons (.nils 2) .nil))) .nil) ?_
  have hr := mright_empty
  refine pure_of c1_ok (pl := pl_mnw) (G := G_mnw) Tryz.func21 rfl Tryz.ntmps21 run_mnw cok_mnw (by simp) ?_
  (conv => whnf)
  (repeat' ((first | refine ord_ok (by (conv => whnf); (repeat' ((first | refine call_eq rfl hr ?_ | refine ify ?_ | refine ifn ?_ | refine i6 ?_ | refine ati ?_ | refine mst ?_ | refine rmd ?_ | refine ibo (fun _ => ?_) (fun _ => ?_)) <;> conv => whnf)); (all_goals (repeat' (first | exact trivial | exact rfl | refine And.intro ?_ ?_)))) ?_ | refine call_eq rfl hr ?_ | refine ify ?_ | refine ifn ?_ | refine i6 ?_ | refine ati ?_ | refine mst ?_ | refine rmd ?_ | refine ibo (fun _ => ?_) (fun _ => ?_)) <;> conv => whnf))
  exact rfl
def pl_mla : List (Nat × Plan) := []
def G_mla : List FuncId := [10, 14, 21, 45]
theorem cok_mla : codeOk Tryz.prog G_mla pl_mla (Tryz.f9.body.getD .skip) = true := by kernel_rfl
theorem run_mla (vs : Array Value) (w : World) : (callFunc 9 vs).run C1.P w = .ok (.enter 9 vs) w := by kernel_rfl
set_option maxHeartbeats 4000000 in
theorem malive_pure : Pure C1 9 [] (fun y => y = .bool true) := by
  have hmd := made_pure [0, 0, 0] [⟨0, 2⟩, ⟨1, 2⟩]
  rw [show madeY [0, 0, 0] [⟨0, 2⟩, ⟨1, 2⟩] = .tuple [dG mxG, dM mxG.labels mxG.edges, .bool true] by unfold madeY; rw [mx_made]] at hmd
  have hsu := support_pure mxG mx_ok (p := mxP) (by decide) (by decide) (by decide) (by decide) (by decide)
  rw [mx_sup] at hsu
  have hc := code_pure 2 0 patternS
  refine pure_of c1_ok (pl := pl_mla) (G := G_mla) Tryz.func9 rfl Tryz.ntmps9 run_mla cok_mla (by simp) ?_
  (conv => whnf)
  (repeat' ((first | refine ord_ok (by (conv => whnf); (repeat' ((first | refine call_frz 9 rfl ?_ | refine call_frz 12 rfl ?_ | refine call_eq (xs := [dIs [0, 0, 0], dEs [⟨0, 2⟩, ⟨1, 2⟩]]) rfl hmd ?_ | refine call_frz 19 rfl ?_ | refine call_frz 21 rfl ?_ | refine call_agg2 rfl ?_ | refine call_eq (xs := [dG mxG, dPt mxP]) rfl hsu ?_ | refine call_eq rfl mnew_empty ?_ | refine call_eq rfl hc ?_ | refine ify ?_ | refine ifn ?_ | refine i6 ?_ | refine ati ?_ | refine mst ?_ | refine rmd ?_ | refine ibo (fun _ => ?_) (fun _ => ?_)) <;> conv => whnf)); (all_goals (repeat' (first | exact trivial | exact rfl | refine And.intro ?_ ?_)))) ?_ | refine call_frz 9 rfl ?_ | refine call_frz 12 rfl ?_ | refine call_eq (xs := [dIs [0, 0, 0], dEs [⟨0, 2⟩, ⟨1, 2⟩]]) rfl hmd ?_ | refine call_frz 19 rfl ?_ | refine call_frz 21 rfl ?_ | refine call_agg2 rfl ?_ | refine call_eq (xs := [dG mxG, dPt mxP]) rfl hsu ?_ | refine call_eq rfl mnew_empty ?_ | refine call_eq rfl hc ?_ | refine ify ?_ | refine ifn ?_ | refine i6 ?_ | refine ati ?_ | refine mst ?_ | refine rmd ?_ | refine ibo (fun _ => ?_) (fun _ => ?_)) <;> conv => whnf))
  exact rfl
end Go.Proofs.YteigfapjiekdnaaGreatDoor
end

section
/- law15: MiniRules: the walk. -/
namespace Go.Gr
open Go.Proofs.YteigfapjiekdnaaGreatDoor
theorem setOf_same_len {l : List Int} (h : l.Nodup) : (setOf l).length = l.length := by
  have h1 := nodup_le (rise_nodup (setOf_spec l).1) fun x hx => ((setOf_spec l).2 x).1 hx
  have h2 := nodup_le h fun x hx => ((setOf_spec l).2 x).2 hx
  omega
theorem own_le {n : Nat} {p : Pt} (hp : PtOk n p) (h8 : n ≤ 8) : (mapsP p p).length ≤ 40320 := by
  obtain ⟨c, hc⟩ := own_all hp
  have := facN_le n h8
  have hpos := facN_pos n
  cases c with
  | zero => omega
  | succ c => rw [Nat.add_mul, Nat.one_mul] at hc; omega
theorem ownI_len (p : Pt) (X : List (List Int)) : (ownI p X).length = X.length * (mapsP p p).length := flatMap_len fun x _ => by rw [List.length_map]
def doneB (o : List Int) (i v : Nat) : Bool := (List.range i).any fun j => decide (pl o j = v)
theorem doneB_iff {o : List Int} {i v : Nat} : doneB o i v = true ↔ ∃ j, j < i ∧ pl o j = v := by
  unfold doneB; rw [List.any_eq_true]; simp
theorem doneB_step (o : List Int) (i v : Nat) : doneB o (i + 1) v = (doneB o i v || decide (v = pl o i)) := by
  rw [Bool.eq_iff_iff, Bool.or_eq_true, doneB_iff, doneB_iff, decide_eq_true_eq]
  constructor
  · rintro ⟨j, hj, e⟩
    rcases Nat.lt_or_ge j i with h | h
    · exact .inl ⟨j, h, e⟩
    · rw [show j = i by omega] at e; exact .inr e.symm
  · rintro (⟨j, hj, e⟩ | e)
    · exact ⟨j, by omega, e⟩
    · exact ⟨i, by omega, e.symm⟩
theorem doneB_no {n : Nat} {o : List Int} (ho : IsOrd n o) {i : Nat} (hi : i < n) : doneB o i (pl o i) = false := by
  cases h : doneB o i (pl o i) with
  | false => rfl
  | true =>
    obtain ⟨j, hj, e⟩ := doneB_iff.1 h
    have := pl_inj ho (show j < n by omega) hi e
    omega
theorem doneB_all {n : Nat} {o : List Int} (ho : IsOrd n o) (v : Nat) (hv : v < n) : doneB o n v = true := by
  obtain ⟨j, hj, e⟩ := pl_surj ho hv
  exact doneB_iff.2 ⟨j, hj, e⟩
theorem doneB_zero (o : List Int) (v : Nat) : doneB o 0 v = false := rfl
end Go.Gr
namespace Go.Proofs.YteigfapjiekdnaaGreatDoor
open Go.Sx Go.RowKit Go.Reg Go.Gr

set_option maxRecDepth 100000
def pl_mnz : List (Nat × Plan) := [(9, .leaf [1, 0, 0, 1, 0, 2, 0, 6, 0, 0] [1, 2, 0, 3, 4, 5, 6, 7, 8, 9] [0, 0, 0, 4, 12, 28, 63, 127, 255, 511])]
def G_mnz : List FuncId := [53, 43, 34]
theorem cok_mnz : codeOk Tryz.prog G_mnz pl_mnz (Tryz.f21.body.getD .skip) = true := by kernel_rfl
theorem run_mnz (vs : Array Value) (w : World) : (callFunc 21 vs).run C1.P w = .ok (.enter 21 vs) w := by kernel_rfl
def pl_mtk : List (Nat × Plan) := [(11, .leaf [0, 0, 0, 1, 0, 0, 0, 1, 0, 0, 0, 1, 0, 0, 0, 1, 0, 1, 0, 2, 0, 3] [0, 1, 2, 4, 5, 6, 8, 9, 10, 12, 13, 14, 18, 3, 7, 11, 15, 16, 17, 19, 20, 21] [0, 1, 3, 7, 0, 0, 48, 112, 0, 256, 768, 1792, 0, 0, 12288, 28672, 65280, 130816, 0, 524032, 1048575, 2097151])]
def G_mtk : List FuncId := [66, 54]
theorem cok_mtk : codeOk Tryz.prog G_mtk pl_mtk (Tryz.f24.body.getD .skip) = true := by kernel_rfl
theorem run_mtk (vs : Array Value) (w : World) : (callFunc 24 vs).run C1.P w = .ok (.enter 24 vs) w := by kernel_rfl
end Go.Proofs.YteigfapjiekdnaaGreatDoor
end

section
/- The orbits of a pattern: plain laws. -/
namespace Go.Gr
open Go.Proofs.YteigfapjiekdnaaGreatDoor
/-! ### the orbits of a pattern -/
/-- the vertices that own orders lead v to -/
def orbS (p : Pt) (v : Nat) : List Int := setOf ((mapsP p p).map fun o => (o[v]?).getD 0)
instance (p : Pt) (v u : Nat) : Decidable (InOrb p v u) := by unfold InOrb; exact inferInstance
/-- vertices in whose orbit none comes ahead -/
def firstV (p : Pt) (v : Nat) : Bool := (List.range v).all fun u => !decide (InOrb p u v)
/-- the orbits of the vertices below m -/
def orbsU (p : Pt) (m : Nat) : List (List Int) := ((List.range m).filter fun v => firstV p v).map (orbS p)
section
variable {n : Nat} {p : Pt}
theorem orbS_rise (p : Pt) (v : Nat) : (orbS p v).Pairwise (· < ·) := (setOf_spec _).1
theorem mem_orbS (hp : PtOk n p) {v : Nat} (hv : v < n) {x : Int} : x ∈ orbS p v ↔ ∃ u : Nat, x = u ∧ InOrb p v u := by
  unfold orbS InOrb
  rw [(setOf_spec _).2, List.mem_map]
  constructor
  · rintro ⟨o, ho, rfl⟩
    refine ⟨pl o v, ?_, o, ho, rfl⟩
    rw [pl_at (own_ord hp ho) hv]; rfl
  · rintro ⟨u, rfl, o, ho, rfl⟩
    exact ⟨o, ho, by rw [pl_at (own_ord hp ho) hv]; rfl⟩
theorem mem_orbS_nat (hp : PtOk n p) {v : Nat} (hv : v < n) {u : Nat} : (u : Int) ∈ orbS p v ↔ InOrb p v u := by
  rw [mem_orbS hp hv]
  exact ⟨fun ⟨w, e, h⟩ => by have : u = w := by omega
                             subst this; exact h, fun h => ⟨u, rfl, h⟩⟩
theorem first_iff {v : Nat} : firstV p v = true ↔ ∀ u, u < v → ¬ InOrb p u v := by
  unfold firstV
  simp
theorem orbsU_step (p : Pt) (m : Nat) : orbsU p (m + 1) = orbsU p m ++ if firstV p m = true then [orbS p m] else [] := by
  unfold orbsU
  rw [List.range_succ, List.filter_append, List.map_append]
  congr 1
  cases h : firstV p m <;> simp [h]
/-- is a vertex in an orbit of one below m? -/
def doneV (p : Pt) (m u : Nat) : Bool := (List.range m).any fun v => decide (InOrb p v u)
theorem done_iff {m u : Nat} : doneV p m u = true ↔ ∃ v, v < m ∧ InOrb p v u := by
  unfold doneV; simp
theorem done_step (p : Pt) (m u : Nat) : doneV p (m + 1) u = (doneV p m u || decide (InOrb p m u)) := by
  unfold doneV
  rw [List.range_succ, List.any_append]; simp
theorem done_first {m : Nat} : doneV p m m = !firstV p m := by
  cases h : firstV p m with
  | true =>
    have := first_iff.1 h
    rw [Bool.not_true, Bool.eq_false_iff]
    intro hd
    obtain ⟨v, h1, h2⟩ := done_iff.1 hd
    exact this v h1 h2
  | false =>
    rw [Bool.not_false]
    have : ¬ ∀ u, u < m → ¬ InOrb p u m := fun hh => by rw [first_iff.2 hh] at h; cases h
    obtain ⟨u, hu⟩ := Classical.not_forall.1 this
    obtain ⟨h1, h2⟩ := Classical.not_imp.1 hu
    exact done_iff.2 ⟨u, h1, Classical.not_not.1 h2⟩
/-- one that is done adds nothing -/
theorem done_same (hp : PtOk n p) {m : Nat} (hm : m < n) (h : doneV p m m = true) (u : Nat) : doneV p (m + 1) u = doneV p m u := by
  rw [done_step]
  cases hd : doneV p m u with
  | true => rfl
  | false =>
    rw [Bool.false_or, decide_eq_false_iff_not]
    intro hh
    obtain ⟨v, h1, h2⟩ := done_iff.1 h
    rw [done_iff.2 ⟨v, h1, orb_trans hp (by omega) h2 hh⟩] at hd; cases hd
/-- the orbits found, by their first vertices -/
theorem orbs_at {i : Nat} {l : List Int} (h : (orbsU p n)[i]? = some l) : ∃ v, ((List.range n).filter fun v => firstV p v)[i]? = some v ∧ v < n ∧ firstV p v = true ∧ l = orbS p v := by
  unfold orbsU at h
  rw [List.getElem?_map] at h
  obtain ⟨v, h1, rfl⟩ := Option.map_eq_some_iff.1 h
  obtain ⟨h2, h3⟩ := List.mem_filter.1 (List.mem_of_getElem? h1)
  exact ⟨v, h1, List.mem_range.1 h2, h3, rfl⟩
theorem orbS_head (hp : PtOk n p) {v : Nat} (hv : v < n) (hf : firstV p v = true) : (orbS p v)[0]? = some (v : Int) := by
  have hm := (mem_orbS_nat hp hv).2 (orb_self hp hv)
  have hr := orbS_rise p v
  have hin := fun x => (mem_orbS hp hv (x := x)).1
  generalize orbS p v = L at hm hr hin
  cases L with
  | nil => simp at hm
  | cons x L =>
    obtain ⟨h1, h2⟩ := List.pairwise_cons.1 hr
    rcases List.mem_cons.1 hm with e | h
    · rw [e]; rfl
    · have h3 := h1 _ h
      obtain ⟨u, rfl, hu⟩ := hin x (by simp)
      exact absurd (orb_sym hp hv hu) (first_iff.1 hf u (by omega))
end
end Go.Gr
end
