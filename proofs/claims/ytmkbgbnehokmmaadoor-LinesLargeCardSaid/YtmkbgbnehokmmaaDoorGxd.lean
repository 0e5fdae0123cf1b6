/- What the rows give: the laid variable, the arguments' elements, a world for the witness. -/
import Derived.Test.YtmkbgbnehokmmaaDoorFsu
import Derived.Test.YtmkbgbnehokmmaaDoorGrc
import Derived.Test.YtmkbgbnehokmmaaDoorArg
import Derived.Test.YtmkbgbnehokmmaaDoorCards
import Derived.Test.YtmkbgbnehokmmaaDoorTie
import Derived.WalkKit
import Derived.ProofKit
import Derived.OpenShut
import Derived.Deep.DeepHandedRow
import Derived.Lib.LaidTab
import Derived.LaidHandle
import Derived.Carry
namespace Go.Proofs.YtmkbgbnehokmmaaDoor
open Go.ChangeShapes Go.WideShapes Go.ChangeAt Go.RowKit Go.Reg Go.Gr

theorem own : ownKnob Tryd.prog.godebug = none := by kernel_rfl
theorem laidOut : laidOutB Tryd.prog = true := by kernel_rfl
theorem gEt : Tryd.prog.globalNamed "errors.errorType" = some 0 := by kernel_rfl
theorem gRt : (Tryd.prog.cutTypes.find? (·.1 == "internal/reflectlite.rtype")).map (·.2) = some 173 := by kernel_rfl
theorem oneRow : ((List.range Tryd.prog.types.size).filter fun t => Tryd.prog.rowNamed t [101, 114, 114, 111, 114]) = [26] := by kernel_rfl

theorem errT_of_laid {W : World} (h : laidMetH Tryd.prog [("errors.errorType", Rows.laid_errors_errorType)] W) : ErrT W := by
  have h' : laidMet Tryd.prog [] W ∧ handlesMet Tryd.prog [("errors.errorType", Rows.laid_errors_errorType)] W := h
  obtain ⟨name, u, ty, e1, e2, e3, e4, e5⟩ := h'.2 _ (List.mem_singleton.2 rfl)
  have en : name = [101, 114, 114, 111, 114] := (Option.some.inj e1).symm
  subst en
  obtain rfl := Option.some.inj (gRt.symm.trans e2)
  have hm : ty ∈ (List.range Tryd.prog.types.size).filter fun t => Tryd.prog.rowNamed t [101, 114, 114, 111, 114] := List.mem_filter.2 ⟨List.mem_range.2 e3, e4⟩
  rw [oneRow] at hm
  obtain rfl := List.mem_singleton.1 hm
  have hh : typeHandle Tryd.prog 26 = .pointer (some ⟨7, 26, none⟩) := by kernel_rfl
  rw [hh] at e5
  have := World.var?_cell gEt e5 0
  simpa [ErrT] using this

def eI : Sx.Enc Int := ⟨fun n => [.int .i64 n], dI, 1, fun _ => rfl, fun n u hu => by simp at hu; rw [hu]; rfl, fun O w n => by simp [dI, Sx.RepC]⟩
def eE : Sx.Enc Edg := ⟨fun e => [.int .i64 e.a, .int .i64 e.b], dE, 2, fun _ => rfl, fun n u hu => by simp at hu; rcases hu with rfl | rfl <;> rfl, fun O w n => by simp [dE, Sx.RepC, Sx.RepCs]⟩
set_option maxRecDepth 100000 in
theorem int_el {H : Type} {e' : TypeId × Value → H} {w : World} {base : Nat} {spare : Nat → Bool} {held : Bool} (n : Nat) (cs : List Value) (y : DataW H × List MemPlace)
    (h : DataW.trod e' Tryd.prog w base spare held n 3 cs = some y) : ∃ x : Int, cs = eI.enc x ∧ True := by
  obtain ⟨m, h0, _⟩ := DataW.trod_int Tryd.underlying3 h
  exact ⟨m, h0, trivial⟩
set_option maxRecDepth 100000 in
theorem edge_el {H : Type} {e' : TypeId × Value → H} {w : World} {base : Nat} {spare : Nat → Bool} {held : Bool} (n : Nat) (cs : List Value) (y : DataW H × List MemPlace)
    (h : DataW.trod e' Tryd.prog w base spare held n 63 cs = some y) : ∃ x : Edg, cs = eE.enc x ∧ True := by
  obtain ⟨xs, k, _, _, hcl, hxl, hf⟩ := DataW.trod_struct Tryd.underlying63 h
  have cl : cs.length = 2 := hcl.trans (by kernel_rfl)
  match cs, cl with
  | [c0, c1], _ =>
    have hx4 : xs.length = 2 := hxl
    match xs, hx4 with
    | [y0, y1], _ =>
      have k3 : Tryd.prog.cellsOf 3 = 1 := by kernel_rfl
      have g0 := hf 0 _ rfl
      have g1 := hf 1 _ rfl
      simp [k3] at g0 g1
      obtain ⟨n0, h0, _⟩ := DataW.trod_int Tryd.underlying3 g0
      obtain ⟨n1, h1, _⟩ := DataW.trod_int Tryd.underlying3 g1
      simp at h0 h1
      subst h0; subst h1
      exact ⟨⟨n0, n1⟩, rfl, trivial⟩
theorem rep_bool {O : List Nat} {w : World} {v : Value} {b : Bool} (h : Sx.Rep O w (.bool b) v) : v = .bool b := by obtain ⟨cs, r, rfl⟩ := h; simp only [Sx.RepC] at r; subst r; rfl
/-- A WORLD FOR THE WITNESS: the settled one, the variable's cell laid. -/
noncomputable def laidWorld (os : Os) : World :=
  let w0 := World.holding Tryd.prog os ⟨#[], #[], []⟩
  { w0 with heap := w0.heap.modify 0 fun
      | .cells _ t frozen => .cells #[.iface 173 (.agg #[.pointer (some ⟨7, 26, none⟩)])] t frozen
      | o => o }
theorem laidWorld_met (os : Os) (args : Array Value) : laidMetH Tryd.prog [("errors.errorType", Rows.laid_errors_errorType)] ((laidWorld os).forCall (fun _ _ => 0) ⟨#[], args, []⟩).memory :=
  laidMetH_of_parts (laidMet_nil _ _) (by kernel_rfl)
end Go.Proofs.YtmkbgbnehokmmaaDoor
