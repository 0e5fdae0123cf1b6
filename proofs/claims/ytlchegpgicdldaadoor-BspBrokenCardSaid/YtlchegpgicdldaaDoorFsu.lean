/- Faults behind a step, told for the engine: fault, Code, At. -/
import Derived.Test.YtlchegpgicdldaaDoorFau
import Derived.Test.YtlchegpgicdldaaDoorFst
import Derived.Test.YtlchegpgicdldaaDoorSxu
namespace Go.Proofs.YtlchegpgicdldaaDoor
open Go.Sx Go.RowKit Go.Reg

set_option maxRecDepth 100000
theorem ffault_dS (z : ByteArray) (c a : Int) (s : ByteArray) : Pure C1 31 [dS z (dF c a s)] (fun y => y = .ref (.agg [.int .i64 c, .int .i64 a, .str s])) := by
  intro O w us hO hg hr
  obtain ⟨v, vs, rfl, h1, h2⟩ := reps_inv hr
  obtain rfl := reps_inv0 h2
  obtain ⟨cs, r, rfl⟩ := h1
  simp only [dS, dF, RepC, RepCs] at r
  obtain ⟨_, ⟨b, o, c3, rfl, hb, hbl, ⟨_, _, rfl, rfl, _, _, rfl, ⟨_, ⟨b2, o2, c4, rfl, hb2, hbl2, r3, r4⟩, rfl⟩, rfl⟩, hc⟩, rfl⟩ := r
  obtain ⟨hE, h0⟩ := errT_glob hg
  have hs : w.cell? ⟨b, o + 1, none⟩ = some (.iface 69 (.pointer (some ⟨b2, o2, none⟩))) := hc 1 _ rfl
  refine ⟨by kernel_rfl, (ffault_step b o b2 o2 w hE hs hbl).mono ?_⟩
  rintro e w' ⟨rfl, ht⟩
  refine ⟨_, _, rfl, rfl, ⟨[_], ?_, rfl⟩, ht⟩
  exact RepC.later (Later.same ht O) (.ref (.agg [.int .i64 c, .int .i64 a, .str s])) [.pointer (some ⟨b2, o2, none⟩)] (by simp only [RepC, RepCs]; exact ⟨b2, o2, c4, rfl, hb2, hbl2, r3, r4⟩)
theorem code_dS (z : ByteArray) (c a : Int) (s : ByteArray) : Pure C1 13 [dS z (dF c a s)] (fun y => y = .int .i64 c) := by
  refine pure_of c1_ok (pl := []) (G := []) Tryd.func13 rfl Tryd.ntmps13 (by intro vs w; kernel_rfl) (by kernel_rfl) (by simp) ?_
  ((conv => whnf); repeat' ((first | refine odw ?_ | refine ify ?_ | refine ifn ?_ | refine i6 ?_ | refine ati ?_ | refine mst ?_ | refine rmd ?_ | refine ibo (fun _ => ?_) (fun _ => ?_)) <;> conv => whnf))
  refine call_eq rfl (ffault_dS z c a s) ?_
  ((conv => whnf); repeat' ((first | refine odw ?_ | refine ify ?_ | refine ifn ?_ | refine i6 ?_ | refine ati ?_ | refine mst ?_ | refine rmd ?_ | refine ibo (fun _ => ?_) (fun _ => ?_)) <;> conv => whnf))
  all_goals exact rfl
theorem at_dS (z : ByteArray) (c a : Int) (s : ByteArray) : Pure C1 19 [dS z (dF c a s)] (fun y => y = .int .i64 a) := by
  refine pure_of c1_ok (pl := []) (G := []) Tryd.func19 rfl Tryd.ntmps19 (by intro vs w; kernel_rfl) (by kernel_rfl) (by simp) ?_
  ((conv => whnf); repeat' ((first | refine odw ?_ | refine ify ?_ | refine ifn ?_ | refine i6 ?_ | refine ati ?_ | refine mst ?_ | refine rmd ?_ | refine ibo (fun _ => ?_) (fun _ => ?_)) <;> conv => whnf))
  refine call_eq rfl (ffault_dS z c a s) ?_
  ((conv => whnf); repeat' ((first | refine odw ?_ | refine ify ?_ | refine ifn ?_ | refine i6 ?_ | refine ati ?_ | refine mst ?_ | refine rmd ?_ | refine ibo (fun _ => ?_) (fun _ => ?_)) <;> conv => whnf))
  all_goals exact rfl
theorem at_dF (c a : Int) (s : ByteArray) : Pure C1 19 [dF c a s] (fun y => y = .int .i64 a) := by
  refine pure_of c1_ok (pl := []) (G := []) Tryd.func19 rfl Tryd.ntmps19 (by intro vs w; kernel_rfl) (by kernel_rfl) (by simp) ?_
  ((conv => whnf); repeat' ((first | refine odw ?_ | refine ify ?_ | refine ifn ?_ | refine i6 ?_ | refine ati ?_ | refine mst ?_ | refine rmd ?_ | refine ibo (fun _ => ?_) (fun _ => ?_)) <;> conv => whnf))
  refine call_eq rfl (ffault_pure c a s) ?_
  ((conv => whnf); repeat' ((first | refine odw ?_ | refine ify ?_ | refine ifn ?_ | refine i6 ?_ | refine ati ?_ | refine mst ?_ | refine rmd ?_ | refine ibo (fun _ => ?_) (fun _ => ?_)) <;> conv => whnf))
  all_goals exact rfl
end Go.Proofs.YtlchegpgicdldaaDoor
