/- Closed facts on the calls that errors.As makes: what reflectlite's functions hand back. -/
import Derived.Test.YtfkkfaociofkjaaDoorRows
import Derived.Test.YtfkkfaociofkjaaDoorTrc
namespace Go.Proofs.YtfkkfaociofkjaaDoor
open Go.RowKit Go.Reg

theorem x_valueOf_pp (t : Nat) (w : World) : (callFunc 71 #[.iface 99 (.pointer (some ⟨t,0,none⟩))]).run Tryd.prog w = .ok (.value (.agg #[.pointer (some ⟨1,99,none⟩), .pointer (some ⟨w.heap.size,0,none⟩), .int .u64 150])) (w.alloc (.cells #[.pointer (some ⟨t,0,none⟩)] 99)) := by kernel_rfl
theorem x_valueOf_p (t o : Nat) (w : World) : (callFunc 71 #[.iface 71 (.pointer (some ⟨t,o,none⟩))]).run Tryd.prog w = .ok (.value (.agg #[.pointer (some ⟨1,71,none⟩), .pointer (some ⟨w.heap.size,0,none⟩), .int .u64 150])) (w.alloc (.cells #[.pointer (some ⟨t,o,none⟩)] 71)) := by kernel_rfl
theorem x_type_pp (b : Nat) (w : World) : (callFunc 72 #[.agg #[.pointer (some ⟨1,99,none⟩), .pointer (some ⟨b,0,none⟩), .int .u64 150]]).run Tryd.prog w = .ok (.value (.iface 136 (.agg #[.pointer (some ⟨1,99,none⟩)]))) w := by kernel_rfl
theorem x_typeOf_p (b o : Nat) (w : World) : (callFunc 82 #[.iface 71 (.pointer (some ⟨b,o,none⟩))]).run Tryd.prog w = .ok (.value (.iface 136 (.agg #[.pointer (some ⟨1,71,none⟩)]))) w := by kernel_rfl
theorem x_kind_pp (w : World) : (callFunc 113 #[.pointer (some ⟨1,99,none⟩)]).run Tryd.prog w = .ok (.value (.int .u8 22)) w := by kernel_rfl
theorem x_kind_p (w : World) : (callFunc 113 #[.pointer (some ⟨1,71,none⟩)]).run Tryd.prog w = .ok (.value (.int .u8 22)) w := by kernel_rfl
theorem x_elem_pp (w : World) : (callFunc 125 #[.agg #[.pointer (some ⟨1,99,none⟩)]]).run Tryd.prog w = .ok (.value (.iface 136 (.agg #[.pointer (some ⟨1,71,none⟩)]))) w := by kernel_rfl
theorem x_impl_p (w : World) : (callFunc 126 #[.agg #[.pointer (some ⟨1,71,none⟩)], .iface 136 (.agg #[.pointer (some ⟨1,26,none⟩)])]).run Tryd.prog w = .ok (.value (.bool true)) w := by kernel_rfl
theorem x_assign_p (w : World) : (callFunc 123 #[.agg #[.pointer (some ⟨1,71,none⟩)], .iface 136 (.agg #[.pointer (some ⟨1,71,none⟩)])]).run Tryd.prog w = .ok (.value (.bool true)) w := by kernel_rfl
theorem x_mKind (b : Nat) (w : World) : (method 285 136 (.agg #[.pointer (some ⟨1,b,none⟩)]) "Kind").run Tryd.prog w = .ok (113, .pointer (some ⟨1,b,none⟩)) w := by kernel_rfl
theorem x_mElem (b : Nat) (w : World) : (method 285 136 (.agg #[.pointer (some ⟨1,b,none⟩)]) "Elem").run Tryd.prog w = .ok (125, .agg #[.pointer (some ⟨1,b,none⟩)]) w := by kernel_rfl
theorem x_mImpl (b : Nat) (w : World) : (method 285 136 (.agg #[.pointer (some ⟨1,b,none⟩)]) "Implements").run Tryd.prog w = .ok (126, .agg #[.pointer (some ⟨1,b,none⟩)]) w := by kernel_rfl
theorem x_mAssign (b : Nat) (w : World) : (method 285 136 (.agg #[.pointer (some ⟨1,b,none⟩)]) "AssignableTo").run Tryd.prog w = .ok (123, .agg #[.pointer (some ⟨1,b,none⟩)]) w := by kernel_rfl

theorem x_isNil (b t : Nat) (w : World) (h : w.cell? ⟨b,0,none⟩ = some (.pointer (some ⟨t,0,none⟩))) : (callFunc 73 #[.agg #[.pointer (some ⟨1,99,none⟩), .pointer (some ⟨b,0,none⟩), .int .u64 150]]).run Tryd.prog w = .ok (.value (.bool false)) w :=
  run_of_trace _ [.pointer (some ⟨t,0,none⟩)] [] (es := [ld ⟨b,0,none⟩ (.pointer (some ⟨t,0,none⟩))]) (by kernel_rfl) ⟨h, rfl⟩
theorem x_elemOf (b t : Nat) (w : World) (h : w.cell? ⟨b,0,none⟩ = some (.pointer (some ⟨t,0,none⟩))) : (callFunc 83 #[.agg #[.pointer (some ⟨1,99,none⟩), .pointer (some ⟨b,0,none⟩), .int .u64 150]]).run Tryd.prog w = .ok (.value (.agg #[.pointer (some ⟨1,71,none⟩), .pointer (some ⟨t,0,none⟩), .int .u64 406])) w :=
  run_of_trace _ [.pointer (some ⟨t,0,none⟩)] [] (es := [ld ⟨b,0,none⟩ (.pointer (some ⟨t,0,none⟩))]) (by kernel_rfl) ⟨h, rfl⟩
theorem x_set (t b : Nat) (v : Value) (f o : Nat) (w : World) (h : w.cell? ⟨b,0,none⟩ = some (.pointer (some ⟨f,o,none⟩))) (ht : w.cell? ⟨t,0,none⟩ = some v) (hz : w.frozen? ⟨t,0,none⟩ = false) : (callFunc 84 #[.agg #[.pointer (some ⟨1,71,none⟩), .pointer (some ⟨t,0,none⟩), .int .u64 406], .agg #[.pointer (some ⟨1,71,none⟩), .pointer (some ⟨b,0,none⟩), .int .u64 150]]).run Tryd.prog w = .ok (.value (.tuple #[])) (w.setCell ⟨t,0,none⟩ (.pointer (some ⟨f,o,none⟩))) :=
  run_of_trace _ [.pointer (some ⟨f,o,none⟩)] [] (es := [ld ⟨b,0,none⟩ (.pointer (some ⟨f,o,none⟩)), st ⟨t,0,none⟩ (.pointer (some ⟨f,o,none⟩))]) (by kernel_rfl) ⟨h, rfl, ⟨_, ht⟩, hz, rfl⟩

end Go.Proofs.YtfkkfaociofkjaaDoor
