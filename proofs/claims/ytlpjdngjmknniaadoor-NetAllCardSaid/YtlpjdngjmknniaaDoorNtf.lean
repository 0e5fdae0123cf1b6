/- The order of letters: cmp.Compare, cmp.Or, the closure that Inbox hands to the sort. -/
import Derived.Test.YtlpjdngjmknniaaDoorNte
import Derived.Test.YtlpjdngjmknniaaDoorLay
namespace Go.Proofs.YtlpjdngjmknniaaDoor
open Go.RowKit Go.Reg

def cmpI (a b : Int) : Int := if a < b then -1 else if b < a then 1 else 0
def orI (a b : Int) : Int := if a = 0 then b else a
def cmpL (x y : Letter) : Int := orI (cmpI x.src y.src) (cmpI x.seq y.seq)

set_option maxRecDepth 100000 in
theorem isNaN_ok (a : Int) (w : World) : Calls Tryd.prog 72 #[.int .i64 a] w fun e w' => e = .returned (.bool false) ∧ w = w' := by
  have h : (a != a) = false := by simp
  go_enter Tryd.func72, Tryd.ntmps72
  go_wp2_with fail
  go_ret
  exact ⟨rfl, rfl⟩

set_option maxRecDepth 100000 in
theorem compare_ok (a b : Int) (w : World) : Calls Tryd.prog 54 #[.int .i64 a, .int .i64 b] w fun e w' => e = .returned (.int .i64 (cmpI a b)) ∧ w = w' := by
  by_cases h1 : a < b
  · have e1 : cmpI a b = -1 := by simp [cmpI, h1]
    rw [e1]
    clear e1
    go_enter Tryd.func54, Tryd.ntmps54
    go_wp2_with (go_at_call 72; refine (isNaN_ok _ _).mono ?_; rintro e w' ⟨rfl, rfl⟩)
    go_ret
    exact ⟨rfl, rfl⟩
  · by_cases h2 : b < a
    · have e1 : cmpI a b = 1 := by simp [cmpI, h1, h2]
      rw [e1]
      clear e1
      go_enter Tryd.func54, Tryd.ntmps54
      go_wp2_with (go_at_call 72; refine (isNaN_ok _ _).mono ?_; rintro e w' ⟨rfl, rfl⟩)
      go_ret
      exact ⟨rfl, rfl⟩
    · have e1 : cmpI a b = 0 := by simp [cmpI, h1, h2]
      rw [e1]
      clear e1
      go_enter Tryd.func54, Tryd.ntmps54
      go_wp2_with (go_at_call 72; refine (isNaN_ok _ _).mono ?_; rintro e w' ⟨rfl, rfl⟩)
      go_ret
      exact ⟨rfl, rfl⟩

set_option maxRecDepth 100000 in
theorem or_ok (s : Nat) (a b : Int) (w : World) (c0 : w.cell? ⟨s, 0, none⟩ = some (.int .i64 a)) (c1 : w.cell? ⟨s, 1, none⟩ = some (.int .i64 b)) :
    Calls Tryd.prog 53 #[.slice (some ⟨s, 0, none⟩) 2 2] w fun e w' => e = .returned (.int .i64 (orI a b)) ∧ w = w' := by
  by_cases ha : a = 0
  · subst ha
    have e1 : orI 0 b = b := by simp [orI]
    rw [e1]
    clear e1
    have b0 : ((0 : Int) != 0) = false := by simp
    by_cases hb : b = 0
    · subst hb
      go_enter Tryd.func53, Tryd.ntmps53
      go_wp2_with fail
      refine wp_loop_rounds 3 ?_
      rw [rounds_succ]
      go_wp2_with fail
      rw [rounds_succ]
      go_wp2_with fail
      rw [rounds_succ]
      go_wp2_with fail
      go_ret
      exact ⟨rfl, rfl⟩
    · have hb' : (b != 0) = true := by simpa using hb
      clear hb
      go_enter Tryd.func53, Tryd.ntmps53
      go_wp2_with fail
      refine wp_loop_rounds 2 ?_
      rw [rounds_succ]
      go_wp2_with fail
      rw [rounds_succ]
      go_wp2_with fail
      go_ret
      exact ⟨rfl, rfl⟩
  · have e1 : orI a b = a := by simp [orI, ha]
    rw [e1]
    have ha' : (a != 0) = true := by simpa using ha
    clear e1 ha
    go_enter Tryd.func53, Tryd.ntmps53
    go_wp2_with fail
    refine wp_loop_rounds 1 ?_
    rw [rounds_succ]
    go_wp2_with fail
    go_ret
    exact ⟨rfl, rfl⟩

theorem cell_new (w : World) (cs : Array Value) (T : TypeId) {s i : Nat} {v : Value} (hs : s = w.heap.size) (h : cs[i]? = some v) : (w.alloc (.cells cs T)).drew.cell? ⟨s, i, none⟩ = some v := by
  subst hs
  simp [h]

open Go.Sort Go.Proofs in
set_option maxRecDepth 100000 in
set_option maxHeartbeats 1000000 in
theorem closure_ok (x y : Letter) (W : World) : Calls Tryd.prog 52 #[valL x, valL y] W fun e w' => e = .returned (.int .i64 (cmpL x y)) ∧ ∃ q os', w' = grow (W.drewN q) os' := by
  unfold valL
  go_enter Tryd.func52, Tryd.ntmps52
  go_wp2_with fail
  refine wp_region_t [54] [0, 1, 0, 1, 2, 0, 1, 0, 1, 2, 6, 3, 0] [0, 2, 5, 7, 1, 3, 6, 8, 4, 9, 10, 11, 12] [0, 1, 0, 4, 15, 0, 32, 0, 128, 511, 1023, 2047, 4095] mixed (by kernel_rfl) ?_
  go_wp2_with (first | (refine wpT_pure rfl rfl rfl rfl (fun _ _ => ?_)) | (refine wpT_look rfl rfl rfl (fun _ _ => ?_)))
  refine wpT_call rfl rfl rfl (fun K1 hK1 => ?_)
  go_wp2_with (go_at_call 54; refine (compare_ok _ _ _).mono ?_; rintro e w' ⟨rfl, rfl⟩)
  refine hK1 _ _ (Ext.refl _) ?_
  go_wp2_with (first | (refine wpT_pure rfl rfl rfl rfl (fun _ _ => ?_)) | (refine wpT_look rfl rfl rfl (fun _ _ => ?_)))
  refine wpT_call rfl rfl rfl (fun K2 hK2 => ?_)
  go_wp2_with (go_at_call 54; refine (compare_ok _ _ _).mono ?_; rintro e w' ⟨rfl, rfl⟩)
  refine hK2 _ _ (Ext.refl _) ?_
  go_wp2_with (first | (refine wpT_pure rfl rfl rfl rfl (fun _ _ => ?_)) | (refine wpT_look rfl rfl rfl (fun _ _ => ?_)))
  refine wpT_one rfl rfl rfl (fun K3 hK3 => ?_)
  go_wp2_with fail
  refine (or_ok _ _ _ _ (cell_new _ _ _ (by simp) rfl) (cell_new _ _ _ (by simp) rfl)).mono ?_
  rintro e w' ⟨rfl, rfl⟩
  refine hK3 _ _ ?_
  go_wp2_with (first | (refine wpT_pure rfl rfl rfl rfl (fun _ _ => ?_)) | (refine wpT_look rfl rfl rfl (fun _ _ => ?_)) | refine wpT_nil ?_)
  go_ret
  exact ⟨rfl, 1, _, by rw [alloc_eq_grow, alloc_eq_grow, alloc_eq_grow, grow_grow, grow_grow]; rfl⟩
end Go.Proofs.YtlpjdngjmknniaaDoor
