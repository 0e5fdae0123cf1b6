/- Closed facts on the calls that errors.As makes: what reflectlite's functions hand back. -/
import Derived.Test.YtmkbgbnehokmmaaGreatDoorRows
import Derived.Test.YtmkbgbnehokmmaaGreatDoorTrc
namespace Go.Proofs.YtmkbgbnehokmmaaGreatDoor
open Go.RowKit Go.Reg

theorem x_valueOf_pp (t : Nat) (w : World) : (callFunc 60 #[.iface 85 (.pointer (some ⟨t,0,none⟩))]).run Tryz.prog w = .ok (.value (.agg #[.pointer (some ⟨1,85,none⟩), .pointer (some ⟨w.heap.size,0,none⟩), .int .u64 150])) (w.alloc (.cells #[.pointer (some ⟨t,0,none⟩)] 85)) := by kernel_rfl
theorem x_valueOf_p (t o : Nat) (w : World) : (callFunc 60 #[.iface 69 (.pointer (some ⟨t,o,none⟩))]).run Tryz.prog w = .ok (.value (.agg #[.pointer (some ⟨1,69,none⟩), .pointer (some ⟨w.heap.size,0,none⟩), .int .u64 150])) (w.alloc (.cells #[.pointer (some ⟨t,o,none⟩)] 69)) := by kernel_rfl
theorem x_type_pp (b : Nat) (w : World) : (callFunc 61 #[.agg #[.pointer (some ⟨1,85,none⟩), .pointer (some ⟨b,0,none⟩), .int .u64 150]]).run Tryz.prog w = .ok (.value (.iface 126 (.agg #[.pointer (some ⟨1,85,none⟩)]))) w := by kernel_rfl
theorem x_typeOf_p (b o : Nat) (w : World) : (callFunc 78 #[.iface 69 (.pointer (some ⟨b,o,none⟩))]).run Tryz.prog w = .ok (.value (.iface 126 (.agg #[.pointer (some ⟨1,69,none⟩)]))) w := by kernel_rfl
theorem x_kind_pp (w : World) : (callFunc 100 #[.pointer (some ⟨1,85,none⟩)]).run Tryz.prog w = .ok (.value (.int .u8 22)) w := by kernel_rfl
theorem x_kind_p (w : World) : (callFunc 100 #[.pointer (some ⟨1,69,none⟩)]).run Tryz.prog w = .ok (.value (.int .u8 22)) w := by kernel_rfl
theorem x_elem_pp (w : World) : (callFunc 112 #[.agg #[.pointer (some ⟨1,85,none⟩)]]).run Tryz.prog w = .ok (.value (.iface 126 (.agg #[.pointer (some ⟨1,69,none⟩)]))) w := by kernel_rfl
theorem x_impl_p (w : World) : (callFunc 113 #[.agg #[.pointer (some ⟨1,69,none⟩)], .iface 126 (.agg #[.pointer (some ⟨1,35,none⟩)])]).run Tryz.prog w = .ok (.value (.bool true)) w := by kernel_rfl
theorem x_assign_p (w : World) : (callFunc 110 #[.agg #[.pointer (some ⟨1,69,none⟩)], .iface 126 (.agg #[.pointer (some ⟨1,69,none⟩)])]).run Tryz.prog w = .ok (.value (.bool true)) w := by kernel_rfl
theorem x_mKind (b : Nat) (w : World) : (method 273 126 (.agg #[.pointer (some ⟨1,b,none⟩)]) "Kind").run Tryz.prog w = .ok (100, .pointer (some ⟨1,b,none⟩)) w := by kernel_rfl
theorem x_mElem (b : Nat) (w : World) : (method 273 126 (.agg #[.pointer (some ⟨1,b,none⟩)]) "Elem").run Tryz.prog w = .ok (112, .agg #[.pointer (some ⟨1,b,none⟩)]) w := by kernel_rfl
theorem x_mImpl (b : Nat) (w : World) : (method 273 126 (.agg #[.pointer (some ⟨1,b,none⟩)]) "Implements").run Tryz.prog w = .ok (113, .agg #[.pointer (some ⟨1,b,none⟩)]) w := by kernel_rfl
theorem x_mAssign (b : Nat) (w : World) : (method 273 126 (.agg #[.pointer (some ⟨1,b,none⟩)]) "AssignableTo").run Tryz.prog w = .ok (110, .agg #[.pointer (some ⟨1,b,none⟩)]) w := by kernel_rfl

theorem x_isNil (b t : Nat) (w : World) (h : w.cell? ⟨b,0,none⟩ = some (.pointer (some ⟨t,0,none⟩))) : (callFunc 62 #[.agg #[.pointer (some ⟨1,85,none⟩), .pointer (some ⟨b,0,none⟩), .int .u64 150]]).run Tryz.prog w = .ok (.value (.bool false)) w :=
  run_of_trace _ [.pointer (some ⟨t,0,none⟩)] [] (es := [ld ⟨b,0,none⟩ (.pointer (some ⟨t,0,none⟩))]) (by kernel_rfl) ⟨h, rfl⟩
theorem x_elemOf (b t : Nat) (w : World) (h : w.cell? ⟨b,0,none⟩ = some (.pointer (some ⟨t,0,none⟩))) : (callFunc 79 #[.agg #[.pointer (some ⟨1,85,none⟩), .pointer (some ⟨b,0,none⟩), .int .u64 150]]).run Tryz.prog w = .ok (.value (.agg #[.pointer (some ⟨1,69,none⟩), .pointer (some ⟨t,0,none⟩), .int .u64 406])) w :=
  run_of_trace _ [.pointer (some ⟨t,0,none⟩)] [] (es := [ld ⟨b,0,none⟩ (.pointer (some ⟨t,0,none⟩))]) (by kernel_rfl) ⟨h, rfl⟩
theorem x_set (t b : Nat) (v : Value) (f o : Nat) (w : World) (h : w.cell? ⟨b,0,none⟩ = some (.pointer (some ⟨f,o,none⟩))) (ht : w.cell? ⟨t,0,none⟩ = some v) (hz : w.frozen? ⟨t,0,none⟩ = false) : (callFunc 80 #[.agg #[.pointer (some ⟨1,69,none⟩), .pointer (some ⟨t,0,none⟩), .int .u64 406], .agg #[.pointer (some ⟨1,69,none⟩), .pointer (some ⟨b,0,none⟩), .int .u64 150]]).run Tryz.prog w = .ok (.value (.tuple #[])) (w.setCell ⟨t,0,none⟩ (.pointer (some ⟨f,o,none⟩))) :=
  run_of_trace _ [.pointer (some ⟨f,o,none⟩)] [] (es := [ld ⟨b,0,none⟩ (.pointer (some ⟨f,o,none⟩)), st ⟨t,0,none⟩ (.pointer (some ⟨f,o,none⟩))]) (by kernel_rfl) ⟨h, rfl, ⟨_, ht⟩, hz, rfl⟩

end Go.Proofs.YtmkbgbnehokmmaaGreatDoor
