/- What the rows give (scripts): the variables, the arguments' elements, a world for the witness. -/
import Derived.Test.YtdbafjjmdgdjgaaDoorScd
import Derived.Test.YtdbafjjmdgdjgaaDoorArg
import Derived.Test.YtdbafjjmdgdjgaaDoorCards
import Derived.Test.YtdbafjjmdgdjgaaDoorTie
import Derived.WalkKit
import Derived.ProofKit
import Derived.OpenShut
import Derived.ChangeMaps5
import Derived.SizedLaws
import Derived.Deep.DeepHandedRow
import Derived.Lib.LaidTab
import Derived.LaidHandle
import Derived.Carry
import Derived.Stop.LaidErr
namespace Go.Reg
open Go Go.Deep
theorem sized_len {H : Type} {P : Program} {enc : TypeId × Value → H} {w : World} {base : Nat} {spare : Nat → Bool} {held : Bool} {t e : TypeId} {d : DataW H} {ps : List MemPlace} {a : Option Addr} {n c : Nat} {ts : List TypeId} {ds : List (DataW H)} (ht : P.underlying t = some (.slice e))
    (h : DataW.Trod enc P w base spare held t (.slice a n c) d ps) (hs : (DataW.weightsEach P ts ds).all (· ≤ reachBytes) = true) {j : Nat} (hj : ts[j]? = some t) (hd : ds[j]? = some d) : n * P.bytesOf e ≤ 140737488351232 := by
  obtain ⟨fuel, hf⟩ := h
  rcases open_slice ht hf with ⟨h1, _⟩ | ⟨a, len, cap, m, k, D, Pl, h1, _, _, _, hm, hx, _⟩
  · simp [Value.cells] at h1
    obtain ⟨_, rfl, _⟩ := h1
    simp
  · simp [Value.cells] at h1
    obtain ⟨_, rfl, _⟩ := h1
    have hx1 := congrArg Prod.fst hx
    simp only at hx1
    rw [hx1] at hd
    have := sized_slice hs hj hd ht
    simp only [List.length_map, List.length_range] at this
    have h2 : n * P.bytesOf e ≤ (n + (m - n)) * P.bytesOf e := Nat.mul_le_mul_right _ (by omega)
    have h3 : reachBytes ≤ 140737488351232 := by decide
    omega
end Go.Reg
namespace Go.Proofs.YtdbafjjmdgdjgaaDoor
open Go.ChangeShapes Go.WideShapes Go.ChangeAt Go.RowKit Go.Reg Go.Gr Go.Sx

theorem own : ownKnob Tryd.prog.godebug = none := by kernel_rfl
theorem laidOut : laidOutB Tryd.prog = true := by kernel_rfl
theorem gEt : Tryd.prog.globalNamed "errors.errorType" = some 0 := by kernel_rfl
theorem gRt : (Tryd.prog.cutTypes.find? (·.1 == "internal/reflectlite.rtype")).map (·.2) = some 97 := by kernel_rfl
theorem oneRow : ((List.range Tryd.prog.types.size).filter fun t => Tryd.prog.rowNamed t [101, 114, 114, 111, 114]) = [25] := by kernel_rfl
/-- all that is laid -/
abbrev laidAll : List (String × DataW Unit) := Rows.scriptParsesRow.laid
abbrev laidFive : List (String × DataW Unit) := [("math/bits.deBruijn32tab", Rows.laid_math_bits_deBruijn32tab), ("math/bits.deBruijn64tab", Rows.laid_math_bits_deBruijn64tab), ("internal/strconv.uint64pow10", Rows.laid_internal_strconv_uint64pow10), ("strconv.ErrRange", Rows.laid_strconv_ErrRange), ("strconv.ErrSyntax", Rows.laid_strconv_ErrSyntax)]
theorem laid_parts {W : World} (h : laidMetH Tryd.prog laidAll W) : laidMet Tryd.prog laidFive W ∧ handlesMet Tryd.prog [("errors.errorType", Rows.laid_errors_errorType)] W := h

theorem var_exact {P : Program} {w : World} {name : String} {g : Nat} {cs : Array Value} (h : w.var? P name = some cs) (hg : P.globalNamed name = some g) : ∃ t fr, w.heap[g]? = some (.cells cs t fr) := by
  unfold World.var? at h
  rw [hg, Option.bind_some] at h
  cases hh : w.heap[g]? with
  | none => rw [hh] at h; cases h
  | some o =>
    rw [hh] at h
    cases o with
    | cells cs' t fr => simp only [Option.some.injEq] at h; subst h; exact ⟨t, fr, rfl⟩
    | _ => cases h
theorem errV_of_laid {W : World} (h : laidMetH Tryd.prog laidAll W) : ∃ t fr, W.heap[0]? = some (.cells #[.iface 97 (.agg #[.pointer (some ⟨7, 25, none⟩)])] t fr) := by
  obtain ⟨name, u, ty, e1, e2, e3, e4, e5⟩ := (laid_parts h).2 _ (List.mem_singleton.2 rfl)
  have en : name = [101, 114, 114, 111, 114] := (Option.some.inj e1).symm
  subst en
  obtain rfl := Option.some.inj (gRt.symm.trans e2)
  have hm : ty ∈ (List.range Tryd.prog.types.size).filter fun t => Tryd.prog.rowNamed t [101, 114, 114, 111, 114] := List.mem_filter.2 ⟨List.mem_range.2 e3, e4⟩
  rw [oneRow] at hm
  obtain rfl := List.mem_singleton.1 hm
  have hh : typeHandle Tryd.prog 25 = .pointer (some ⟨7, 25, none⟩) := by kernel_rfl
  rw [hh] at e5
  exact var_exact e5 gEt
theorem grep_of {W : World} {g : Nat} {cs : Array Value} {t : TypeId} {fr : Nat × Nat} {d : Da} (h : W.heap[g]? = some (.cells cs t fr)) (hr : Sx.RepC [] W d cs.toList) (hs : cs.size = Sx.gsz d) : Sx.GRep [] W (g, d) := by
  refine ⟨⟨[_], ?_, rfl⟩, by simp, cs, t, fr, h, hs⟩
  simp only [Sx.RepC]
  refine ⟨g, 0, cs.toList, rfl, by simp, (Array.getElem?_eq_some_iff.1 h).1, hr, fun j u hj => ?_⟩
  rw [Lib.cell_of_heap h, Nat.zero_add]
  simpa using hj
set_option maxRecDepth 100000 in
theorem max_of_shaped {W : World} (h : W.ShapedOpen Tryd.prog) : ∃ m t fr, W.heap[1]? = some (.cells #[.int .i64 m] t fr) := by
  obtain ⟨cs, h1, h2, h3⟩ := h.1 1 #[.int .i64 0] 3 (of_decide_eq_true (by kernel_rfl)) (by kernel_rfl)
  have h2' : cs.size = 1 := h2
  obtain ⟨ts, g1, _, g2⟩ := h3 (by kernel_rfl)
  have g1' : Tryd.prog.cellTypes Tryd.prog.depth 3 = some [3] := by kernel_rfl
  rw [g1'] at g1
  obtain rfl := Option.some.inj g1
  obtain ⟨u, g3, g4⟩ := g2 0 (cs[0]'(by omega)) (Array.getElem?_eq_getElem (by omega))
  simp at g3
  subst g3
  unfold Cell.ok at g4
  rw [Tryd.underlying3] at g4
  have e : cs = #[cs[0]'(by omega)] := by
    apply Array.ext
    · simp [h2']
    · intro i hi _
      have : i = 0 := by omega
      subst this; rfl
  generalize cs[0]'(by omega) = v at e g4
  cases v <;> simp at g4
  obtain ⟨rfl, _⟩ := g4
  exact ⟨_, _, _, by rw [h1, e]⟩
theorem iface_var {W : World} {name nm : String} {d : DataW Unit} {r : List (String × DataW Unit)} {g : Nat} (hg : Tryd.prog.globalNamed name = some g) (ht : (Tryd.prog.globals[g]?).map (·.type) = some 25) (h : laidMet Tryd.prog ((name, .iface nm d) :: r) W) : ∃ u v t fr, W.heap[g]? = some (.cells #[.iface u v] t fr) := by
  obtain ⟨ps, ⟨g', t, cs, fuel, p, q, h1, h2, h3, h4, _, _⟩, _⟩ := h
  obtain rfl := Option.some.inj (hg.symm.trans h1)
  obtain rfl := Option.some.inj (ht.symm.trans h2)
  obtain ⟨_, u, v, e, _⟩ := iface_of_trod Tryd.underlying25 h4
  have e2 : cs = #[.iface u v] := by apply Array.toList_inj.1; rw [e]
  obtain ⟨t, fr, h5⟩ := var_exact h3 hg
  exact ⟨u, v, t, fr, by rw [h5, e2]⟩
theorem tabV_of_laid {W : World} (h : laidMetH Tryd.prog laidAll W) : ∃ t fr, W.heap[4]? = some (.cells (Lib.pow10Tab.map fun z => Value.int .u64 z).toArray t fr) := by
  have h1 := laidMet.tail (laidMet.tail (laid_parts h).1)
  have h2 : laidMet Tryd.prog (("internal/strconv.uint64pow10", Lib.tabData .u64 Lib.pow10Tab) :: [("strconv.ErrRange", Rows.laid_strconv_ErrRange), ("strconv.ErrSyntax", Rows.laid_strconv_ErrSyntax)]) W := h1
  have h3 := Lib.tabIs_of_head (g := 4) (by kernel_rfl) (t := 126) (e := 111) (n := 20) (by kernel_rfl) Tryd.underlying126 Tryd.underlying111 (by kernel_rfl) (by kernel_rfl) h2
  exact var_exact h3 (by kernel_rfl)
theorem ints_rep (O : List Nat) (W : World) (k : IntKind) : ∀ l : List Int, Sx.RepCs O W (l.map (Da.int k)) (l.map fun z => Value.int k z)
  | [] => by simp [Sx.RepCs]
  | x :: l => by
    simp only [List.map_cons, Sx.RepCs, Sx.RepC]
    exact ⟨[_], _, rfl, rfl, ints_rep O W k l⟩
/-- the variables, as the walk knows them -/
theorem globs_of {W : World} (h : laidMetH Tryd.prog laidAll W) (hsh : W.ShapedOpen Tryd.prog) : ∃ X : LayG, Sx.Glob (C2 X) [] W := by
  obtain ⟨t1, f1, e1⟩ := errV_of_laid h
  obtain ⟨m, t2, f2, e2⟩ := max_of_shaped hsh
  obtain ⟨u3, v3, t3, f3, e3⟩ := iface_var (g := 3) (by kernel_rfl) (by kernel_rfl) (laidMet.tail (laidMet.tail (laidMet.tail (laid_parts h).1)))
  obtain ⟨u4, v4, t4, f4, e4⟩ := iface_var (g := 2) (by kernel_rfl) (by kernel_rfl) (laidMet.tail (laidMet.tail (laidMet.tail (laidMet.tail (laid_parts h).1))))
  obtain ⟨t5, f5, e5⟩ := tabV_of_laid h
  refine ⟨⟨m, .iface u4 v4, .iface u3 v3, .inr ⟨_, _, rfl⟩, .inr ⟨_, _, rfl⟩⟩, fun g hg => ?_⟩
  rcases List.mem_append.1 hg with hg | hg
  · rw [List.mem_singleton.1 hg]
    exact grep_of e1 (by simp only [Sx.RepC]) rfl
  · simp only [List.mem_cons, List.not_mem_nil, or_false] at hg
    rcases hg with rfl | rfl | rfl | rfl
    · exact grep_of e2 (by simp only [Sx.RepC]) rfl
    · exact grep_of e4 (by simp only [Sx.RepC]) rfl
    · exact grep_of e3 (by simp only [Sx.RepC]) rfl
    · exact grep_of e5 (by simp only [Sx.RepC]; exact ints_rep _ _ _ _) (by simp [Sx.gsz])

def eA : Sx.Enc (Int × Int) := ⟨fun p => [.int .i64 p.1, .int .i64 p.2], dA, 2, fun _ => rfl, fun n u hu => by simp at hu; rcases hu with rfl | rfl <;> rfl, fun O w n => by simp [dA, Sx.RepC, Sx.RepCs]⟩
set_option maxRecDepth 100000 in
theorem act_el {H : Type} {e' : TypeId × Value → H} {w : World} {base : Nat} {spare : Nat → Bool} {held : Bool} (n : Nat) (cs : List Value) (y : DataW H × List MemPlace)
    (h : DataW.trod e' Tryd.prog w base spare held n 35 cs = some y) : ∃ x : Int × Int, cs = eA.enc x ∧ True := by
  obtain ⟨xs, k, _, _, hcl, hxl, hf⟩ := DataW.trod_struct Tryd.underlying35 h
  have cl : cs.length = 2 := hcl.trans (by kernel_rfl)
  match cs, cl with
  | [c0, c1], _ =>
    have hx4 : xs.length = 2 := hxl
    match xs, hx4 with
    | [y0, y1], _ =>
      have k3 : Tryd.prog.cellsOf 3 = 1 := by kernel_rfl
      have g0 := hf 0 _ rfl
      have g1 := hf 1 _ rfl
      simp [k3] at g0 g1
      obtain ⟨n0, h0, _⟩ := DataW.trod_int Tryd.underlying3 g0
      obtain ⟨n1, h1, _⟩ := DataW.trod_int Tryd.underlying3 g1
      simp at h0 h1
      subst h0; subst h1
      exact ⟨(n0, n1), rfl, trivial⟩
theorem rep_bool {O : List Nat} {w : World} {v : Value} {b : Bool} (h : Sx.Rep O w (.bool b) v) : v = .bool b := by obtain ⟨cs, r, rfl⟩ := h; simp only [Sx.RepC] at r; subst r; rfl
theorem rep_of_str (O : List Nat) (w : World) (s : ByteArray) : Sx.Rep O w (.str (bs s.data.toList)) (.string s) := ⟨[_], by simp only [Sx.RepC]; rw [← bs_of], rfl⟩
/-- what a laid table's cells are -/
def valsOf : DataW Unit → Array Value
  | .agg ds => (ds.map fun | .lit (.int k n) => Value.int k n | _ => undef).toArray
  | _ => #[]
def textOf : DataW Unit → ByteArray
  | .iface _ (.ptr (.agg [.lit (.string l)])) => ⟨l.toArray⟩
  | _ => ⟨#[]⟩
noncomputable def low : Nat := (World.holding Tryd.prog default ⟨#[], #[], []⟩).heap.size
def setCells (cs : Array Value) : Obj → Obj
  | .cells _ t frozen => .cells cs t frozen
  | o => o
/-- A WORLD FOR THE WITNESS: the settled one, the variables' cells laid. -/
noncomputable def laidWorld (os : Os) : World :=
  let w0 := World.holding Tryd.prog os ⟨#[.cells #[.string (textOf Rows.laid_strconv_ErrSyntax)] 132, .cells #[.string (textOf Rows.laid_strconv_ErrRange)] 132], #[], []⟩
  { w0 with heap := (((((w0.heap.modify 0 (setCells #[.iface 97 (.agg #[.pointer (some ⟨7, 25, none⟩)])])).modify 2 (setCells #[.iface 130 (.pointer (some ⟨low, 0, none⟩))])).modify 3 (setCells #[.iface 130 (.pointer (some ⟨low + 1, 0, none⟩))])).modify 4 (setCells (valsOf Rows.laid_internal_strconv_uint64pow10))).modify 5 (setCells (valsOf Rows.laid_math_bits_deBruijn32tab))).modify 6 (setCells (valsOf Rows.laid_math_bits_deBruijn64tab)) }
theorem laidWorld_met (os : Os) (args : Array Value) : laidMetH Tryd.prog laidAll ((laidWorld os).forCall (fun _ _ => 0) ⟨#[], args, []⟩).memory :=
  laidMetH_of_parts (laidMet_of_run' 8 (by kernel_rfl) (by kernel_rfl)) (by kernel_rfl)
end Go.Proofs.YtdbafjjmdgdjgaaDoor
