/- Closed facts on the calls that errors.As makes: what reflectlite's functions hand back. -/
import Derived.Test.YtlpjdngjmknniaaDoorRows
import Derived.Test.YtlpjdngjmknniaaDoorTrc
namespace Go.Proofs.YtlpjdngjmknniaaDoor
open Go.RowKit Go.Reg

theorem x_valueOf_pp (t : Nat) (w : World) : (callFunc 75 #[.iface 128 (.pointer (some ⟨t,0,none⟩))]).run Tryd.prog w = .ok (.value (.agg #[.pointer (some ⟨1,128,none⟩), .pointer (some ⟨w.heap.size,0,none⟩), .int .u64 150])) (w.alloc (.cells #[.pointer (some ⟨t,0,none⟩)] 128)) := by kernel_rfl
theorem x_valueOf_p (t o : Nat) (w : World) : (callFunc 75 #[.iface 88 (.pointer (some ⟨t,o,none⟩))]).run Tryd.prog w = .ok (.value (.agg #[.pointer (some ⟨1,88,none⟩), .pointer (some ⟨w.heap.size,0,none⟩), .int .u64 150])) (w.alloc (.cells #[.pointer (some ⟨t,o,none⟩)] 88)) := by kernel_rfl
theorem x_type_pp (b : Nat) (w : World) : (callFunc 76 #[.agg #[.pointer (some ⟨1,128,none⟩), .pointer (some ⟨b,0,none⟩), .int .u64 150]]).run Tryd.prog w = .ok (.value (.iface 161 (.agg #[.pointer (some ⟨1,128,none⟩)]))) w := by kernel_rfl
theorem x_typeOf_p (b o : Nat) (w : World) : (callFunc 89 #[.iface 88 (.pointer (some ⟨b,o,none⟩))]).run Tryd.prog w = .ok (.value (.iface 161 (.agg #[.pointer (some ⟨1,88,none⟩)]))) w := by kernel_rfl
theorem x_kind_pp (w : World) : (callFunc 112 #[.pointer (some ⟨1,128,none⟩)]).run Tryd.prog w = .ok (.value (.int .u8 22)) w := by kernel_rfl
theorem x_kind_p (w : World) : (callFunc 112 #[.pointer (some ⟨1,88,none⟩)]).run Tryd.prog w = .ok (.value (.int .u8 22)) w := by kernel_rfl
theorem x_elem_pp (w : World) : (callFunc 126 #[.agg #[.pointer (some ⟨1,128,none⟩)]]).run Tryd.prog w = .ok (.value (.iface 161 (.agg #[.pointer (some ⟨1,88,none⟩)]))) w := by kernel_rfl
theorem x_impl_p (w : World) : (callFunc 127 #[.agg #[.pointer (some ⟨1,88,none⟩)], .iface 161 (.agg #[.pointer (some ⟨1,27,none⟩)])]).run Tryd.prog w = .ok (.value (.bool true)) w := by kernel_rfl
theorem x_assign_p (w : World) : (callFunc 124 #[.agg #[.pointer (some ⟨1,88,none⟩)], .iface 161 (.agg #[.pointer (some ⟨1,88,none⟩)])]).run Tryd.prog w = .ok (.value (.bool true)) w := by kernel_rfl
theorem x_mKind (b : Nat) (w : World) : (method 308 161 (.agg #[.pointer (some ⟨1,b,none⟩)]) "Kind").run Tryd.prog w = .ok (112, .pointer (some ⟨1,b,none⟩)) w := by kernel_rfl
theorem x_mElem (b : Nat) (w : World) : (method 308 161 (.agg #[.pointer (some ⟨1,b,none⟩)]) "Elem").run Tryd.prog w = .ok (126, .agg #[.pointer (some ⟨1,b,none⟩)]) w := by kernel_rfl
theorem x_mImpl (b : Nat) (w : World) : (method 308 161 (.agg #[.pointer (some ⟨1,b,none⟩)]) "Implements").run Tryd.prog w = .ok (127, .agg #[.pointer (some ⟨1,b,none⟩)]) w := by kernel_rfl
theorem x_mAssign (b : Nat) (w : World) : (method 308 161 (.agg #[.pointer (some ⟨1,b,none⟩)]) "AssignableTo").run Tryd.prog w = .ok (124, .agg #[.pointer (some ⟨1,b,none⟩)]) w := by kernel_rfl

theorem x_isNil (b t : Nat) (w : World) (h : w.cell? ⟨b,0,none⟩ = some (.pointer (some ⟨t,0,none⟩))) : (callFunc 77 #[.agg #[.pointer (some ⟨1,128,none⟩), .pointer (some ⟨b,0,none⟩), .int .u64 150]]).run Tryd.prog w = .ok (.value (.bool false)) w :=
  run_of_trace _ [.pointer (some ⟨t,0,none⟩)] [] (es := [ld ⟨b,0,none⟩ (.pointer (some ⟨t,0,none⟩))]) (by kernel_rfl) ⟨h, rfl⟩
theorem x_elemOf (b t : Nat) (w : World) (h : w.cell? ⟨b,0,none⟩ = some (.pointer (some ⟨t,0,none⟩))) : (callFunc 90 #[.agg #[.pointer (some ⟨1,128,none⟩), .pointer (some ⟨b,0,none⟩), .int .u64 150]]).run Tryd.prog w = .ok (.value (.agg #[.pointer (some ⟨1,88,none⟩), .pointer (some ⟨t,0,none⟩), .int .u64 406])) w :=
  run_of_trace _ [.pointer (some ⟨t,0,none⟩)] [] (es := [ld ⟨b,0,none⟩ (.pointer (some ⟨t,0,none⟩))]) (by kernel_rfl) ⟨h, rfl⟩
theorem x_set (t b : Nat) (v : Value) (f o : Nat) (w : World) (h : w.cell? ⟨b,0,none⟩ = some (.pointer (some ⟨f,o,none⟩))) (ht : w.cell? ⟨t,0,none⟩ = some v) (hz : w.frozen? ⟨t,0,none⟩ = false) : (callFunc 91 #[.agg #[.pointer (some ⟨1,88,none⟩), .pointer (some ⟨t,0,none⟩), .int .u64 406], .agg #[.pointer (some ⟨1,88,none⟩), .pointer (some ⟨b,0,none⟩), .int .u64 150]]).run Tryd.prog w = .ok (.value (.tuple #[])) (w.setCell ⟨t,0,none⟩ (.pointer (some ⟨f,o,none⟩))) :=
  run_of_trace _ [.pointer (some ⟨f,o,none⟩)] [] (es := [ld ⟨b,0,none⟩ (.pointer (some ⟨f,o,none⟩)), st ⟨t,0,none⟩ (.pointer (some ⟨f,o,none⟩))]) (by kernel_rfl) ⟨h, rfl, ⟨_, ht⟩, hz, rfl⟩

end Go.Proofs.YtlpjdngjmknniaaDoor
