/- What the rows give (canon: no error is looked for): the variables, the arguments' elements, a world for the witness. -/
import Derived.Test.YthegabgbakckfaaGreatDoorZtx
import Derived.Test.YthegabgbakckfaaGreatDoorArg
import Derived.Test.YthegabgbakckfaaGreatDoorCards
import Derived.Test.YthegabgbakckfaaGreatDoorTie
import Derived.WalkKit
import Derived.ProofKit
import Derived.OpenShut
import Derived.ChangeMaps5
import Derived.ChangeSame
import Derived.SizedLaws
import Derived.Deep.DeepHandedRow
import Derived.Lib.LaidTab
import Derived.LaidHandle
import Derived.Carry
import Derived.Stop.LaidErr
namespace Go.Reg
open Go Go.RowKit Go.Deep Go.WideShapes
section
variable {α H : Type}
theorem argSl_shape {P : Program} {k : Nat} {enc : α → List Value} {e' : TypeId × Value → H} {w : World} {base : Nat} {spare : Nat → Bool} {held : Bool} {t e : TypeId} {v : Value} {d : DataW H} {ps : List MemPlace} (Q : α → Prop)
    (ht : P.underlying t = some (.slice e)) (hc : P.cellsOf e = k) (hk : 0 < k) (he : ∀ x, (enc x).length = k)
    (hel : ∀ n cs y, DataW.trod e' P w base spare held n e cs = some y → ∃ x, cs = enc x ∧ Q x)
    (hsh : ∃ a n c, v = .slice a n c) (h : DataW.Trod e' P w base spare held t v d ps) : ∃ l, ArgSl k enc w v l ∧ ∀ x ∈ l, Q x := by
  obtain ⟨a0, len0, cap0, rfl⟩ := hsh
  obtain ⟨fuel, hf⟩ := h
  rcases open_slice ht hf with ⟨h1, _⟩ | ⟨a, len, cap, m, n, D, Pl, h1, hb, hl, hm, hmm, _, hx⟩
  · simp [Value.cells] at h1
    obtain ⟨rfl, rfl, rfl⟩ := h1
    exact ⟨[], ⟨none, 0, rfl, by simp, fun i x hi => by simp at hi⟩, by simp⟩
  · simp [Value.cells] at h1
    obtain ⟨rfl, rfl, rfl⟩ := h1
    have hlm : len0 ≤ m := by rw [hmm]; split <;> omega
    obtain ⟨l, hll, hq⟩ := list_of (Q := fun i x => Q x ∧ w.cells? base (a.add (i * k)) k = some (enc x)) (n := len0) (fun i hi => by
      obtain ⟨cs', h1, h2⟩ := hx i (by omega)
      obtain ⟨x, rfl, hQ⟩ := hel _ _ _ h2
      rw [hc] at h1
      exact ⟨x, hQ, h1⟩)
    refine ⟨l, ⟨some a, cap0, by rw [hll], by omega, fun i x hi => ?_⟩, fun x hx => ?_⟩
    · have h2 := (hq i x hi).2
      obtain ⟨_, _, hcell⟩ := World.cells?_some h2
      have h0 := hcell 0 hk
      obtain ⟨b, o, sp⟩ := a
      have hi0 : 0 < l.length := by have := (List.getElem?_eq_some_iff.1 hi).1; omega
      have hz := (hq 0 l[0] (by simp [hi0])).2
      obtain ⟨_, _, hcell0⟩ := World.cells?_some hz
      have hsp : sp = none := by
        have h00 := hcell0 0 hk
        rw [Nat.zero_mul, add_add] at h00
        have hsome : (w.cell? ⟨b, o, sp⟩).isSome = true := by
          simp only [Addr.add, Nat.add_zero, if_true] at h00
          rw [h00]
          simp [he, hk]
        cases sp with
        | none => rfl
        | some s =>
          exfalso
          unfold World.cell? at hsome
          simp at hsome
          split at hsome <;> simp at hsome
      subst hsp
      refine ⟨b, o, rfl, fun j u hj => ?_⟩
      have hjk : j < k := by have := (List.getElem?_eq_some_iff.1 hj).1; rw [he] at this; exact this
      have := hcell j hjk
      rw [add_add, hj] at this
      by_cases hz : i * k + j = 0
      · rw [hz] at this
        simp only [Addr.add, if_true] at this
        rw [show o + i * k + j = o by omega]
        exact this
      · simp only [Addr.add, hz, if_false] at this
        rw [show o + i * k + j = o + (i * k + j) by omega]
        exact this
    · obtain ⟨i, hi⟩ := List.getElem?_of_mem hx
      exact (hq i x hi).1
/-- a slice's shape, by its cells -/
theorem trod_slice_shape {P : Program} {e' : TypeId × Value → H} {w : World} {base : Nat} {spare : Nat → Bool} {held : Bool} {t e : TypeId} {fuel : Nat} {cs : List Value} {y : DataW H × List MemPlace} (ht : P.underlying t = some (.slice e)) (h : DataW.trod e' P w base spare held fuel t cs = some y) : ∃ a n c, cs = [.slice a n c] ∧ n ≤ c ∧ c ≤ maxLen := by
  rcases open_slice ht h with ⟨h1, _⟩ | ⟨a, len, cap, m, k, D, Pl, h1, _, h2, h3, _, _, _⟩
  · exact ⟨none, 0, 0, h1, Nat.le_refl _, by unfold maxLen; omega⟩
  · exact ⟨some a, len, cap, h1, h2, h3⟩
end
end Go.Reg
namespace Go.Proofs.YthegabgbakckfaaGreatDoor
open Go.ChangeShapes Go.WideShapes Go.ChangeAt Go.RowKit Go.Reg Go.Gr Go.Sx Go.ChangeMaps

theorem own : ownKnob Tryz.prog.godebug = none := by kernel_rfl
theorem laidOut : laidOutB Tryz.prog = true := by kernel_rfl
/-- all that is laid -/
abbrev laidAll : List (String × DataW Unit) := Rows.canonLessRow.laid
abbrev laidThree : List (String × DataW Unit) := [("math/bits.deBruijn32tab", Rows.laid_math_bits_deBruijn32tab), ("math/bits.deBruijn64tab", Rows.laid_math_bits_deBruijn64tab), ("internal/strconv.uint64pow10", Rows.laid_internal_strconv_uint64pow10)]
theorem laid_parts {W : World} (h : laidMetH Tryz.prog laidAll W) : laidMet Tryz.prog laidThree W := h

theorem var_exact {P : Program} {w : World} {name : String} {g : Nat} {cs : Array Value} (h : w.var? P name = some cs) (hg : P.globalNamed name = some g) : ∃ t fr, w.heap[g]? = some (.cells cs t fr) := by
  unfold World.var? at h
  rw [hg, Option.bind_some] at h
  cases hh : w.heap[g]? with
  | none => rw [hh] at h; cases h
  | some o =>
    rw [hh] at h
    cases o with
    | cells cs' t fr => simp only [Option.some.injEq] at h; subst h; exact ⟨t, fr, rfl⟩
    | _ => cases h
theorem grep_of {W : World} {g : Nat} {cs : Array Value} {t : TypeId} {fr : Nat × Nat} {d : Da} (h : W.heap[g]? = some (.cells cs t fr)) (hr : Sx.RepC [] W d cs.toList) (hs : cs.size = Sx.gsz d) : Sx.GRep [] W (g, d) := by
  refine ⟨⟨[_], ?_, rfl⟩, by simp, cs, t, fr, h, hs⟩
  simp only [Sx.RepC]
  refine ⟨g, 0, cs.toList, rfl, by simp, (Array.getElem?_eq_some_iff.1 h).1, hr, fun j u hj => ?_⟩
  rw [Lib.cell_of_heap h, Nat.zero_add]
  simpa using hj
theorem tabV_of_laid {W : World} (h : laidMetH Tryz.prog laidAll W) : ∃ t fr, W.heap[1]? = some (.cells (Lib.pow10Tab.map fun z => Value.int .u64 z).toArray t fr) := by
  have h1 := laidMet.tail (laidMet.tail (laid_parts h))
  have h2 : laidMet Tryz.prog (("internal/strconv.uint64pow10", Lib.tabData .u64 Lib.pow10Tab) :: []) W := h1
  have h3 := Lib.tabIs_of_head (g := 1) (by kernel_rfl) (t := 263) (e := 209) (n := 20) (by kernel_rfl) Tryz.underlying263 Tryz.underlying209 (by kernel_rfl) (by kernel_rfl) h2
  exact var_exact h3 (by kernel_rfl)
theorem ints_rep (O : List Nat) (W : World) (k : IntKind) : ∀ l : List Int, Sx.RepCs O W (l.map (Da.int k)) (l.map fun z => Value.int k z)
  | [] => by simp [Sx.RepCs]
  | x :: l => by
    simp only [List.map_cons, Sx.RepCs, Sx.RepC]
    exact ⟨[_], _, rfl, rfl, ints_rep O W k l⟩
/-- the variables, as the walk knows them -/
theorem globs_of {W : World} (h : laidMetH Tryz.prog laidAll W) : Sx.Glob C3 [] W := by
  obtain ⟨t5, f5, e5⟩ := tabV_of_laid h
  intro g hg
  rcases List.mem_append.1 hg with hg | hg
  · exact absurd hg (by simp [C1])
  · rw [List.mem_singleton.1 hg]
    exact grep_of e5 (by simp only [Sx.RepC]; exact ints_rep _ _ _ _) (by simp [Sx.gsz])

def eI : Sx.Enc Int := ⟨fun n => [.int .i64 n], dI, 1, fun _ => rfl, fun n u hu => by simp at hu; rw [hu]; rfl, fun O w n => by simp [dI, Sx.RepC]⟩
def eE : Sx.Enc Edg := ⟨fun e => [.int .i64 e.a, .int .i64 e.b], dE, 2, fun _ => rfl, fun n u hu => by simp at hu; rcases hu with rfl | rfl <;> rfl, fun O w n => by simp [dE, Sx.RepC, Sx.RepCs]⟩
set_option maxRecDepth 100000 in
theorem int_el {H : Type} {e' : TypeId × Value → H} {w : World} {base : Nat} {spare : Nat → Bool} {held : Bool} (n : Nat) (cs : List Value) (y : DataW H × List MemPlace)
    (h : DataW.trod e' Tryz.prog w base spare held n 3 cs = some y) : ∃ x : Int, cs = eI.enc x ∧ True := by
  obtain ⟨m, h0, _⟩ := DataW.trod_int Tryz.underlying3 h
  exact ⟨m, h0, trivial⟩
set_option maxRecDepth 100000 in
theorem edge_el {H : Type} {e' : TypeId × Value → H} {w : World} {base : Nat} {spare : Nat → Bool} {held : Bool} (n : Nat) (cs : List Value) (y : DataW H × List MemPlace)
    (h : DataW.trod e' Tryz.prog w base spare held n 94 cs = some y) : ∃ x : Edg, cs = eE.enc x ∧ True := by
  obtain ⟨xs, k, _, _, hcl, hxl, hf⟩ := DataW.trod_struct Tryz.underlying94 h
  have cl : cs.length = 2 := hcl.trans (by kernel_rfl)
  match cs, cl with
  | [c0, c1], _ =>
    have hx4 : xs.length = 2 := hxl
    match xs, hx4 with
    | [y0, y1], _ =>
      have k3 : Tryz.prog.cellsOf 3 = 1 := by kernel_rfl
      have g0 := hf 0 _ rfl
      have g1 := hf 1 _ rfl
      simp [k3] at g0 g1
      obtain ⟨n0, h0, _⟩ := DataW.trod_int Tryz.underlying3 g0
      obtain ⟨n1, h1, _⟩ := DataW.trod_int Tryz.underlying3 g1
      simp at h0 h1
      subst h0; subst h1
      exact ⟨⟨n0, n1⟩, rfl, trivial⟩
theorem rep_bool {O : List Nat} {w : World} {v : Value} {b : Bool} (h : Sx.Rep O w (.bool b) v) : v = .bool b := by obtain ⟨cs, r, rfl⟩ := h; simp only [Sx.RepC] at r; subst r; rfl
set_option maxRecDepth 100000 in
/-- a pattern that came in -/
theorem open_pat {H : Type} {e' : TypeId × Value → H} {w : World} {held : Bool} {spare : Nat → Bool} {r : Reach} {b0 : Nat} {v : Value} {d : DataW H} {ps : List MemPlace} (hval : Value.okWide Tryz.prog w r b0 25 v) (h : DataW.Trod e' Tryz.prog w 0 spare held 25 v d ps) : ∃ p : Pt, Sx.Rep [] w (dPt p) v := by
  obtain ⟨cs, rfl, hsz⟩ := okWide_struct Tryz.underlying25 hval
  obtain ⟨fuel, hf⟩ := h
  obtain ⟨xs, k, _, _, hcl, hxl, hfl⟩ := DataW.trod_struct Tryz.underlying25 hf
  have hcs : (Value.agg cs).cells.toList = cs.toList := rfl
  rw [hcs] at hcl hfl
  have cl : cs.toList.length = 2 := hcl.trans (by kernel_rfl)
  match hl : cs.toList, cl with
  | [c0, c1], _ =>
    rw [hl] at hfl
    have hx2 : xs.length = 2 := hxl
    match xs, hx2 with
    | [y0, y1], _ =>
      have k1 : Tryz.prog.cellsOf 22 = 1 := by kernel_rfl
      have k2 : Tryz.prog.cellsOf 23 = 1 := by kernel_rfl
      have g0 := hfl 0 _ rfl
      have g1 := hfl 1 _ rfl
      simp [k1, k2] at g0 g1
      obtain ⟨a0, n0, m0, e0, h00, h01⟩ := trod_slice_shape Tryz.underlying22 g0
      obtain ⟨a1, n1, m1, e1, h10, h11⟩ := trod_slice_shape Tryz.underlying23 g1
      simp only [List.cons.injEq, and_true] at e0 e1
      subst e0 e1
      obtain ⟨l, r0, _⟩ := argSl_shape (enc := eI.enc) (fun _ => True) Tryz.underlying22 (k := 1) (by kernel_rfl) (by decide) (fun _ => rfl) int_el ⟨_, _, _, rfl⟩ (⟨k, g0⟩ : DataW.Trod e' Tryz.prog w 0 spare held 22 (.slice a0 n0 m0) y0.1 y0.2)
      obtain ⟨E, r1, _⟩ := argSl_shape (enc := eE.enc) (fun _ => True) Tryz.underlying23 (k := 2) (by kernel_rfl) (by decide) (fun _ => rfl) edge_el ⟨_, _, _, rfl⟩ (⟨k, g1⟩ : DataW.Trod e' Tryz.prog w 0 spare held 23 (.slice a1 n1 m1) y1.1 y1.2)
      obtain ⟨s0, p0, q0⟩ := eI.rep_arg (by decide) r0 (fun a n c e => by cases e; exact ⟨h00, h01⟩)
      obtain ⟨s1, p1, q1⟩ := eE.rep_arg (by decide) r1 (fun a n c e => by cases e; exact ⟨h10, h11⟩)
      refine ⟨⟨l, E⟩, [.slice a0 n0 m0, .slice a1 n1 m1], ?_, ?_⟩
      · simp only [dPt, Sx.RepC, Sx.RepCs]
        have z0 : s0 = [.slice a0 n0 m0] := by
          have p0' := p0
          simp only [Sx.RepC] at p0'
          obtain ⟨_, _, _, rfl, _⟩ := p0'
          rw [q0]; rfl
        have z1 : s1 = [.slice a1 n1 m1] := by
          have p1' := p1
          simp only [Sx.RepC] at p1'
          obtain ⟨_, _, _, rfl, _⟩ := p1'
          rw [q1]; rfl
        subst z0 z1
        exact ⟨_, _, rfl, p0, _, _, rfl, p1, rfl⟩
      · show Value.agg cs = .agg _
        congr 1
        apply Array.toList_inj.1
        rw [hl]
/-- what a laid table's cells are -/
def valsOf : DataW Unit → Array Value
  | .agg ds => (ds.map fun | .lit (.int k n) => Value.int k n | _ => undef).toArray
  | _ => #[]
def setCells (cs : Array Value) : Obj → Obj
  | .cells _ t frozen => .cells cs t frozen
  | o => o
/-- A WORLD FOR THE WITNESS: the settled one, the variables' cells laid. -/
noncomputable def laidWorld (os : Os) : World :=
  let w0 := World.holding Tryz.prog os ⟨#[], #[], []⟩
  { w0 with heap := ((w0.heap.modify 1 (setCells (valsOf Rows.laid_internal_strconv_uint64pow10))).modify 3 (setCells (valsOf Rows.laid_math_bits_deBruijn32tab))).modify 4 (setCells (valsOf Rows.laid_math_bits_deBruijn64tab)) }
theorem laidWorld_met (os : Os) (args : Array Value) : laidMetH Tryz.prog laidAll ((laidWorld os).forCall (fun _ _ => 0) ⟨#[], args, []⟩).memory :=
  laidMetH_of_parts (laidMet_of_run' 8 (by kernel_rfl) (by kernel_rfl)) (by kernel_rfl)
end Go.Proofs.YthegabgbakckfaaGreatDoor
