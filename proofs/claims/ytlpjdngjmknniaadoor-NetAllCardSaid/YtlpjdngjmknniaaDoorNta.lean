/- The keys of net's maps; what a net is in memory. -/
import Derived.Test.YtlpjdngjmknniaaDoorFlt
import Derived.Test.YtlpjdngjmknniaaDoorMap
namespace Go.Proofs.YtlpjdngjmknniaaDoor
open Go.RowKit Go.Reg

theorem mixed : Tryd.prog.follows .mixedOrders = true := by kernel_rfl

def encWay (k : Int × Int) : Value := .agg #[.int .i64 k.1, .int .i64 k.2]
def encStamp (k : Int × Int × Int) : Value := .agg #[.int .i64 k.1, .int .i64 k.2.1, .int .i64 k.2.2]

theorem way_check (em : Bool) (k : Int × Int) (w : World) : (Instr.checkKey em 10000 99 (encWay k)).run Tryd.prog w = .ok () w := by
  obtain ⟨a, b⟩ := k; kernel_rfl
theorem stamp_check (em : Bool) (k : Int × Int × Int) (w : World) : (Instr.checkKey em 10000 101 (encStamp k)).run Tryd.prog w = .ok () w := by
  obtain ⟨a, b, c⟩ := k; kernel_rfl

theorem way_held : Tryd.prog.stoodInHeld 99 = false := by kernel_rfl
theorem stamp_held : Tryd.prog.stoodInHeld 101 = false := by kernel_rfl
theorem part_int (cs : Array Value) (i : Nat) (v : Value) (h : cs[i]? = some v) (w : World) : (part 3 cs i).run Tryd.prog w = .ok v w := by
  have e : (isAgg 3).run Tryd.prog w = .ok false w := by kernel_rfl
  simp [part, e, h]
theorem int_equal (n : Nat) (a b : Int) (w : World) : (Op.equalIn (n + 1) 3 (.int .i64 a) (.int .i64 b)).run Tryd.prog w = .ok (a == b) w := by
  simp [Op.equalIn, run_underlying Tryd.underlying3]
theorem way_equalIn (n : Nat) (k k' : Int × Int) (w : World) : (Op.equalIn (n + 2) 99 (encWay k) (encWay k')).run Tryd.prog w = .ok (decide (k = k')) w := by
  obtain ⟨a, b⟩ := k
  obtain ⟨c, d⟩ := k'
  unfold Op.equalIn
  simp [run_underlying Tryd.underlying99, encWay, program, Sem.run, part_int]
  simp only [int_equal, Result.andThen_ok]
  by_cases h1 : a = c <;> by_cases h2 : b = d <;> simp [h1, h2]
theorem way_equal (k k' : Int × Int) (w : World) : (Op.equal 99 (encWay k) (encWay k')).run Tryd.prog w = .ok (decide (k = k')) w := way_equalIn 9998 k k' w
theorem part_way (a b c : Value) (w : World) : (part 99 #[a, b, c] 0).run Tryd.prog w = .ok (.agg #[a, b]) w := by kernel_rfl
theorem stamp_equal (k k' : Int × Int × Int) (w : World) : (Op.equal 101 (encStamp k) (encStamp k')).run Tryd.prog w = .ok (decide (k = k')) w := by
  obtain ⟨a, b, c⟩ := k
  obtain ⟨a', b', c'⟩ := k'
  unfold Op.equal
  rw [show Op.maxDepth = 9999 + 1 from rfl]
  unfold Op.equalIn
  have e : ∀ w, (Op.equalIn 9999 99 (.agg #[.int .i64 a, .int .i64 b]) (.agg #[.int .i64 a', .int .i64 b'])).run Tryd.prog w = .ok (decide ((a, b) = (a', b'))) w := fun w => way_equalIn 9997 (a, b) (a', b') w
  simp [run_underlying Tryd.underlying101, encStamp, program, Sem.run, part_int, part_way]
  rw [show (9999 : Nat) = 9998 + 1 from rfl] at e ⊢
  simp only [int_equal, e, Result.andThen_ok]
  by_cases h1 : a = a' <;> by_cases h2 : b = b' <;> by_cases h3 : c = c' <;> simp [h1, h2, h3]

theorem wayOk : KeyOk Tryd.prog 99 encWay :=
  KeyOk.of_equal Tryd.underlying99 (fun _ _ => rfl) way_check (fun k k' w => way_equal k k' w) (fun ⟨a, b⟩ => by simp [encWay, Instr.sameBits])
theorem stampOk : KeyOk Tryd.prog 101 encStamp :=
  KeyOk.of_equal Tryd.underlying101 (fun _ _ => rfl) stamp_check (fun k k' w => stamp_equal k k' w) (fun ⟨a, b, c⟩ => by simp [encStamp, Instr.sameBits])
end Go.Proofs.YtlpjdngjmknniaaDoor
