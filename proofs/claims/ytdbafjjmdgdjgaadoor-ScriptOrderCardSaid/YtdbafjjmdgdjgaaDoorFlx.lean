/- Closed facts on the calls that errors.As makes: what reflectlite's functions hand back. -/
import Derived.Test.YtdbafjjmdgdjgaaDoorRows
import Derived.Test.YtdbafjjmdgdjgaaDoorTrc
namespace Go.Proofs.YtdbafjjmdgdjgaaDoor
open Go.RowKit Go.Reg

theorem x_valueOf_pp (t : Nat) (w : World) : (callFunc 39 #[.iface 69 (.pointer (some ⟨t,0,none⟩))]).run Tryd.prog w = .ok (.value (.agg #[.pointer (some ⟨7,69,none⟩), .pointer (some ⟨w.heap.size,0,none⟩), .int .u64 150])) (w.alloc (.cells #[.pointer (some ⟨t,0,none⟩)] 69)) := by kernel_rfl
theorem x_valueOf_p (t o : Nat) (w : World) : (callFunc 39 #[.iface 53 (.pointer (some ⟨t,o,none⟩))]).run Tryd.prog w = .ok (.value (.agg #[.pointer (some ⟨7,53,none⟩), .pointer (some ⟨w.heap.size,0,none⟩), .int .u64 150])) (w.alloc (.cells #[.pointer (some ⟨t,o,none⟩)] 53)) := by kernel_rfl
theorem x_type_pp (b : Nat) (w : World) : (callFunc 40 #[.agg #[.pointer (some ⟨7,69,none⟩), .pointer (some ⟨b,0,none⟩), .int .u64 150]]).run Tryd.prog w = .ok (.value (.iface 97 (.agg #[.pointer (some ⟨7,69,none⟩)]))) w := by kernel_rfl
theorem x_typeOf_p (b o : Nat) (w : World) : (callFunc 54 #[.iface 53 (.pointer (some ⟨b,o,none⟩))]).run Tryd.prog w = .ok (.value (.iface 97 (.agg #[.pointer (some ⟨7,53,none⟩)]))) w := by kernel_rfl
theorem x_kind_pp (w : World) : (callFunc 89 #[.pointer (some ⟨7,69,none⟩)]).run Tryd.prog w = .ok (.value (.int .u8 22)) w := by kernel_rfl
theorem x_kind_p (w : World) : (callFunc 89 #[.pointer (some ⟨7,53,none⟩)]).run Tryd.prog w = .ok (.value (.int .u8 22)) w := by kernel_rfl
theorem x_elem_pp (w : World) : (callFunc 103 #[.agg #[.pointer (some ⟨7,69,none⟩)]]).run Tryd.prog w = .ok (.value (.iface 97 (.agg #[.pointer (some ⟨7,53,none⟩)]))) w := by kernel_rfl
theorem x_impl_p (w : World) : (callFunc 104 #[.agg #[.pointer (some ⟨7,53,none⟩)], .iface 97 (.agg #[.pointer (some ⟨7,25,none⟩)])]).run Tryd.prog w = .ok (.value (.bool true)) w := by kernel_rfl
theorem x_assign_p (w : World) : (callFunc 101 #[.agg #[.pointer (some ⟨7,53,none⟩)], .iface 97 (.agg #[.pointer (some ⟨7,53,none⟩)])]).run Tryd.prog w = .ok (.value (.bool true)) w := by kernel_rfl
theorem x_mKind (b : Nat) (w : World) : (method 263 97 (.agg #[.pointer (some ⟨7,b,none⟩)]) "Kind").run Tryd.prog w = .ok (89, .pointer (some ⟨7,b,none⟩)) w := by kernel_rfl
theorem x_mElem (b : Nat) (w : World) : (method 263 97 (.agg #[.pointer (some ⟨7,b,none⟩)]) "Elem").run Tryd.prog w = .ok (103, .agg #[.pointer (some ⟨7,b,none⟩)]) w := by kernel_rfl
theorem x_mImpl (b : Nat) (w : World) : (method 263 97 (.agg #[.pointer (some ⟨7,b,none⟩)]) "Implements").run Tryd.prog w = .ok (104, .agg #[.pointer (some ⟨7,b,none⟩)]) w := by kernel_rfl
theorem x_mAssign (b : Nat) (w : World) : (method 263 97 (.agg #[.pointer (some ⟨7,b,none⟩)]) "AssignableTo").run Tryd.prog w = .ok (101, .agg #[.pointer (some ⟨7,b,none⟩)]) w := by kernel_rfl

theorem x_isNil (b t : Nat) (w : World) (h : w.cell? ⟨b,0,none⟩ = some (.pointer (some ⟨t,0,none⟩))) : (callFunc 41 #[.agg #[.pointer (some ⟨7,69,none⟩), .pointer (some ⟨b,0,none⟩), .int .u64 150]]).run Tryd.prog w = .ok (.value (.bool false)) w :=
  run_of_trace _ [.pointer (some ⟨t,0,none⟩)] [] (es := [ld ⟨b,0,none⟩ (.pointer (some ⟨t,0,none⟩))]) (by kernel_rfl) ⟨h, rfl⟩
theorem x_elemOf (b t : Nat) (w : World) (h : w.cell? ⟨b,0,none⟩ = some (.pointer (some ⟨t,0,none⟩))) : (callFunc 55 #[.agg #[.pointer (some ⟨7,69,none⟩), .pointer (some ⟨b,0,none⟩), .int .u64 150]]).run Tryd.prog w = .ok (.value (.agg #[.pointer (some ⟨7,53,none⟩), .pointer (some ⟨t,0,none⟩), .int .u64 406])) w :=
  run_of_trace _ [.pointer (some ⟨t,0,none⟩)] [] (es := [ld ⟨b,0,none⟩ (.pointer (some ⟨t,0,none⟩))]) (by kernel_rfl) ⟨h, rfl⟩
theorem x_set (t b : Nat) (v : Value) (f o : Nat) (w : World) (h : w.cell? ⟨b,0,none⟩ = some (.pointer (some ⟨f,o,none⟩))) (ht : w.cell? ⟨t,0,none⟩ = some v) (hz : w.frozen? ⟨t,0,none⟩ = false) : (callFunc 56 #[.agg #[.pointer (some ⟨7,53,none⟩), .pointer (some ⟨t,0,none⟩), .int .u64 406], .agg #[.pointer (some ⟨7,53,none⟩), .pointer (some ⟨b,0,none⟩), .int .u64 150]]).run Tryd.prog w = .ok (.value (.tuple #[])) (w.setCell ⟨t,0,none⟩ (.pointer (some ⟨f,o,none⟩))) :=
  run_of_trace _ [.pointer (some ⟨f,o,none⟩)] [] (es := [ld ⟨b,0,none⟩ (.pointer (some ⟨f,o,none⟩)), st ⟨t,0,none⟩ (.pointer (some ⟨f,o,none⟩))]) (by kernel_rfl) ⟨h, rfl, ⟨_, ht⟩, hz, rfl⟩

end Go.Proofs.YtdbafjjmdgdjgaaDoor
