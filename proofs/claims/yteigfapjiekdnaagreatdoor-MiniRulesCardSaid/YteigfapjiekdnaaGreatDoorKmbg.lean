/- Merged: Fau Mnl. -/
import Derived.Test.YteigfapjiekdnaaGreatDoorKmae
import Derived.Test.YteigfapjiekdnaaGreatDoorKmbf
import Derived.Test.YteigfapjiekdnaaGreatDoorKmat
import Derived.Test.YteigfapjiekdnaaGreatDoorKmbe
import Derived.Test.YteigfapjiekdnaaGreatDoorKmai
import Derived.Test.YteigfapjiekdnaaGreatDoorKman
section
/- Faults, told for the engine: New, Code. -/
namespace Go.Proofs.YteigfapjiekdnaaGreatDoor
open Go.Sx Go.RowKit Go.Reg

set_option maxRecDepth 100000
theorem errT_glob {O : List Nat} {w : World} (h : Glob C1 O w) : ErrT w ∧ 0 ∉ O := by
  obtain ⟨cs, h1, h2⟩ := (h _ (List.mem_singleton_self _)).1
  simp only [RepC] at h1
  obtain ⟨b, o, c, rfl, hb, _, rfl, hc⟩ := h1
  simp only [toV, List.headD_cons, Value.pointer.injEq, Option.some.injEq, Addr.mk.injEq, and_true] at h2
  obtain ⟨rfl, rfl⟩ := h2
  exact ⟨hc 0 _ rfl, hb⟩
theorem ffault_pure (c a : Int) (s : ByteArray) : Pure C1 99 [dF c a s] (fun y => y = .ref (.agg [.int .i64 c, .int .i64 a, .str s])) := by
  intro O w us hO hg hr
  obtain ⟨v, vs, rfl, h1, h2⟩ := reps_inv hr
  obtain rfl := reps_inv0 h2
  obtain ⟨cs, r, rfl⟩ := h1
  simp only [dF, RepC] at r
  obtain ⟨c2, ⟨b, o, c3, rfl, r1, r2, r3, r4⟩, rfl⟩ := r
  obtain ⟨hE, h0⟩ := errT_glob hg
  refine ⟨by kernel_rfl, (ffault_any b o w hE (by omega)).mono ?_⟩
  rintro e w' ⟨rfl, ht⟩
  refine ⟨_, _, rfl, rfl, ⟨[_], ?_, rfl⟩, ht⟩
  have := RepC.later (Later.same ht O) (.ref (.agg [.int .i64 c, .int .i64 a, .str s])) [.pointer (some ⟨b, o, none⟩)] (by simp only [RepC]; exact ⟨b, o, c3, rfl, r1, r2, r3, r4⟩)
  exact this
theorem code_pure (c a : Int) (s : ByteArray) : Pure C1 45 [dF c a s] (fun y => y = .int .i64 c) := by
  refine pure_of c1_ok (pl := []) (G := []) Tryz.func45 rfl Tryz.ntmps45 (by intro vs w; kernel_rfl) (by kernel_rfl) (by simp) ?_
  ((conv => whnf); repeat' (first | (refine if_yes (by first | omega | rfl | assumption | exact ⟨rfl, rfl⟩ | exact ⟨rfl, rfl, rfl⟩ | exact ⟨rfl, rfl, rfl, rfl⟩) ?_; conv => whnf) | (refine if_no (by first | omega | assumption | exact fun h => h rfl | exact fun h => h (by assumption) | exact fun h => h ⟨rfl, rfl⟩ | exact fun h => h ⟨rfl, rfl, rfl⟩ | exact fun h => h ⟨rfl, rfl, rfl, rfl⟩) ?_; conv => whnf) | (refine i64_is (by omega) ?_; conv => whnf) | (refine at_is rfl (by assumption) ?_; conv => whnf) | (refine most_ok (by (try simp only [List.length_append, List.length_map, List.length_cons, List.length_nil]); omega) ?_; conv => whnf) | (refine rem_ok (by first | decide | omega) ?_; conv => whnf) | (refine if_both (fun _ => ?_) (fun _ => ?_) <;> conv => whnf)))
  refine call_pure rfl (ffault_pure c a s) ?_; rintro y rfl
  ((conv => whnf); repeat' (first | (refine if_yes (by first | omega | rfl | assumption | exact ⟨rfl, rfl⟩ | exact ⟨rfl, rfl, rfl⟩ | exact ⟨rfl, rfl, rfl, rfl⟩) ?_; conv => whnf) | (refine if_no (by first | omega | assumption | exact fun h => h rfl | exact fun h => h (by assumption) | exact fun h => h ⟨rfl, rfl⟩ | exact fun h => h ⟨rfl, rfl, rfl⟩ | exact fun h => h ⟨rfl, rfl, rfl, rfl⟩) ?_; conv => whnf) | (refine i64_is (by omega) ?_; conv => whnf) | (refine at_is rfl (by assumption) ?_; conv => whnf) | (refine most_ok (by (try simp only [List.length_append, List.length_map, List.length_cons, List.length_nil]); omega) ?_; conv => whnf) | (refine rem_ok (by first | decide | omega) ?_; conv => whnf) | (refine if_both (fun _ => ?_) (fun _ => ?_) <;> conv => whnf)))
  all_goals exact rfl
end Go.Proofs.YteigfapjiekdnaaGreatDoor
end

section
/- law15: alive, MiniLabels: the walks. -/
namespace Go.Gr
open Go.Proofs.YteigfapjiekdnaaGreatDoor
def mxG : Gr := ⟨[0, 0, 0], [⟨0, 2⟩, ⟨1, 2⟩]⟩
def mxP : Pt := ⟨[0, 0], [⟨0, 1⟩]⟩
theorem mx_canon : canon [⟨0, 2⟩, ⟨1, 2⟩] = mxG.edges := (canon_eq (by decide) (by decide) (by decide)).symm
theorem mx_made : madeG [0, 0, 0] [⟨0, 2⟩, ⟨1, 2⟩] = some mxG := by
  unfold madeG
  rw [if_pos (by decide), show newErr [0, 0, 0] [⟨0, 2⟩, ⟨1, 2⟩] = none by decide, mx_canon]; rfl
theorem mx_ok : mxG.Ok := (madeG_some mx_made).2.1
theorem mx_sup : supP mxG mxP = 3 := by
  unfold supP
  rw [show imgP mxG mxP false = [[0, 2], [1, 2], [2, 0], [2, 1]] by decide]
  have h0 : colS [[0, 2], [1, 2], [2, 0], [2, 1]] 0 = [0, 1, 2] := rise_eq (colS_rise _ _) (by decide) fun x => by
    rw [mem_colS]; simp
    constructor
    · rintro (h | h | h) <;> omega
    · rintro (h | h | h) <;> omega
  have h1 : colS [[0, 2], [1, 2], [2, 0], [2, 1]] 1 = [0, 1, 2] := rise_eq (colS_rise _ _) (by decide) fun x => by
    rw [mem_colS]; simp
    constructor
    · rintro (h | h | h) <;> omega
    · rintro (h | h | h) <;> omega
  exact leastL_is (s := [0, 1, 2]) (mem_colsS.2 ⟨0, by decide, h0⟩) fun t ht => by
    obtain ⟨i, hi, rfl⟩ := mem_colsS.1 ht
    have hi : i < 2 := hi
    match i with
    | 0 => rw [h0]; decide
    | 1 => rw [h1]; decide
    | i + 2 => omega
end Go.Gr
namespace Go.Proofs.YteigfapjiekdnaaGreatDoor
open Go.Sx Go.RowKit Go.Reg Go.Gr

set_option maxRecDepth 100000
def pl_mnw : List (Nat × Plan) := [(9, .leaf [1, 0, 0, 1, 0, 2, 0, 6, 0, 0] [1, 2, 0, 3, 4, 5, 6, 7, 8, 9] [0, 0, 0, 4, 12, 28, 63, 127, 255, 511])]
def G_mnw : List FuncId := [53, 43, 34]
theorem cok_mnw : codeOk Tryz.prog G_mnw pl_mnw (Tryz.f21.body.getD .skip) = true := by kernel_rfl
theorem run_mnw (vs : Array Value) (w : World) : (callFunc 21 vs).run C1.P w = .ok (.enter 21 vs) w := by kernel_rfl
theorem mnew_empty : Pure C1 21 [.agg [.nils, .nils]] (fun y => y = .tuple [.nilp, dF 2 0 patternS]) := by
  refine Sx.Pure.lax (.cons (.agg (.cons (.nils 1) (.cons (.nils 2) .nil))) .nil) ?_
  have hr := mright_empty
  refine pure_of c1_ok (pl := pl_mnw) (G := G_mnw) Tryz.func21 rfl Tryz.ntmps21 run_mnw cok_mnw (by simp) ?_
  (conv => whnf)
  (repeat' ((first | refine ord_ok (by (conv => whnf); (repeat' ((first | refine call_eq rfl hr ?_ | refine ify ?_ | refine ifn ?_ | refine i6 ?_ | refine ati ?_ | refine mst ?_ | refine rmd ?_ | refine ibo (fun _ => ?_) (fun _ => ?_)) <;> conv => whnf)); (all_goals (repeat' (first | exact trivial | exact rfl | refine And.intro ?_ ?_)))) ?_ | refine call_eq rfl hr ?_ | refine ify ?_ | refine ifn ?_ | refine i6 ?_ | refine ati ?_ | refine mst ?_ | refine rmd ?_ | refine ibo (fun _ => ?_) (fun _ => ?_)) <;> conv => whnf))
  exact rfl
def pl_mla : List (Nat × Plan) := []
def G_mla : List FuncId := [10, 14, 21, 45]
theorem cok_mla : codeOk Tryz.prog G_mla pl_mla (Tryz.f9.body.getD .skip) = true := by kernel_rfl
theorem run_mla (vs : Array Value) (w : World) : (callFunc 9 vs).run C1.P w = .ok (.enter 9 vs) w := by kernel_rfl
set_option maxHeartbeats 4000000 in
theorem malive_pure : Pure C1 9 [] (fun y => y = .bool true) := by
  have hmd := made_pure [0, 0, 0] [⟨0, 2⟩, ⟨1, 2⟩]
  rw [show madeY [0, 0, 0] [⟨0, 2⟩, ⟨1, 2⟩] = .tuple [dG mxG, dM mxG.labels mxG.edges, .bool true] by unfold madeY; rw [mx_made]] at hmd
  have hsu := support_pure mxG mx_ok (p := mxP) (by decide) (by decide) (by decide) (by decide) (by decide)
  rw [mx_sup] at hsu
  have hc := code_pure 2 0 patternS
  refine pure_of c1_ok (pl := pl_mla) (G := G_mla) Tryz.func9 rfl Tryz.ntmps9 run_mla cok_mla (by simp) ?_
  (conv => whnf)
  (repeat' ((first | refine ord_ok (by (conv => whnf); (repeat' ((first | refine call_frz 9 rfl ?_ | refine call_frz 12 rfl ?_ | refine call_eq (xs := [dIs [0, 0, 0], dEs [⟨0, 2⟩, ⟨1, 2⟩]]) rfl hmd ?_ | refine call_frz 19 rfl ?_ | refine call_frz 21 rfl ?_ | refine call_agg2 rfl ?_ | refine call_eq (xs := [dG mxG, dPt mxP]) rfl hsu ?_ | refine call_eq rfl mnew_empty ?_ | refine call_eq rfl hc ?_ | refine ify ?_ | refine ifn ?_ | refine i6 ?_ | refine ati ?_ | refine mst ?_ | refine rmd ?_ | refine ibo (fun _ => ?_) (fun _ => ?_)) <;> conv => whnf)); (all_goals (repeat' (first | exact trivial | exact rfl | refine And.intro ?_ ?_)))) ?_ | refine call_frz 9 rfl ?_ | refine call_frz 12 rfl ?_ | refine call_eq (xs := [dIs [0, 0, 0], dEs [⟨0, 2⟩, ⟨1, 2⟩]]) rfl hmd ?_ | refine call_frz 19 rfl ?_ | refine call_frz 21 rfl ?_ | refine call_agg2 rfl ?_ | refine call_eq (xs := [dG mxG, dPt mxP]) rfl hsu ?_ | refine call_eq rfl mnew_empty ?_ | refine call_eq rfl hc ?_ | refine ify ?_ | refine ifn ?_ | refine i6 ?_ | refine ati ?_ | refine mst ?_ | refine rmd ?_ | refine ibo (fun _ => ?_) (fun _ => ?_)) <;> conv => whnf))
  exact rfl
end Go.Proofs.YteigfapjiekdnaaGreatDoor
end
