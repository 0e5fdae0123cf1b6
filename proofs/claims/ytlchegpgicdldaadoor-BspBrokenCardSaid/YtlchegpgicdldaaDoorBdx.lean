/- What the rows give (bsp: one variable is laid): the variable, the arguments' elements, a world for the witness. -/
import Derived.Test.YtlchegpgicdldaaDoorBal
import Derived.Test.YtlchegpgicdldaaDoorArg
import Derived.Test.YtlchegpgicdldaaDoorCards
import Derived.Test.YtlchegpgicdldaaDoorTie
import Derived.WalkKit
import Derived.ProofKit
import Derived.OpenShut
import Derived.ChangeMaps5
import Derived.ChangeSame
import Derived.SizedLaws
import Derived.Deep.DeepHandedRow
import Derived.Lib.LaidTab
import Derived.LaidHandle
import Derived.Carry
import Derived.Stop.LaidErr
namespace Go.Reg
open Go Go.RowKit Go.Deep Go.WideShapes
section
variable {α H : Type}
theorem argSl_shape {P : Program} {k : Nat} {enc : α → List Value} {e' : TypeId × Value → H} {w : World} {base : Nat} {spare : Nat → Bool} {held : Bool} {t e : TypeId} {v : Value} {d : DataW H} {ps : List MemPlace} (Q : α → Prop)
    (ht : P.underlying t = some (.slice e)) (hc : P.cellsOf e = k) (hk : 0 < k) (he : ∀ x, (enc x).length = k)
    (hel : ∀ n cs y, DataW.trod e' P w base spare held n e cs = some y → ∃ x, cs = enc x ∧ Q x)
    (hsh : ∃ a n c, v = .slice a n c) (h : DataW.Trod e' P w base spare held t v d ps) : ∃ l, ArgSl k enc w v l ∧ ∀ x ∈ l, Q x := by
  obtain ⟨a0, len0, cap0, rfl⟩ := hsh
  obtain ⟨fuel, hf⟩ := h
  rcases open_slice ht hf with ⟨h1, _⟩ | ⟨a, len, cap, m, n, D, Pl, h1, hb, hl, hm, hmm, _, hx⟩
  · simp [Value.cells] at h1
    obtain ⟨rfl, rfl, rfl⟩ := h1
    exact ⟨[], ⟨none, 0, rfl, by simp, fun i x hi => by simp at hi⟩, by simp⟩
  · simp [Value.cells] at h1
    obtain ⟨rfl, rfl, rfl⟩ := h1
    have hlm : len0 ≤ m := by rw [hmm]; split <;> omega
    obtain ⟨l, hll, hq⟩ := list_of (Q := fun i x => Q x ∧ w.cells? base (a.add (i * k)) k = some (enc x)) (n := len0) (fun i hi => by
      obtain ⟨cs', h1, h2⟩ := hx i (by omega)
      obtain ⟨x, rfl, hQ⟩ := hel _ _ _ h2
      rw [hc] at h1
      exact ⟨x, hQ, h1⟩)
    refine ⟨l, ⟨some a, cap0, by rw [hll], by omega, fun i x hi => ?_⟩, fun x hx => ?_⟩
    · have h2 := (hq i x hi).2
      obtain ⟨_, _, hcell⟩ := World.cells?_some h2
      have h0 := hcell 0 hk
      obtain ⟨b, o, sp⟩ := a
      have hi0 : 0 < l.length := by have := (List.getElem?_eq_some_iff.1 hi).1; omega
      have hz := (hq 0 l[0] (by simp [hi0])).2
      obtain ⟨_, _, hcell0⟩ := World.cells?_some hz
      have hsp : sp = none := by
        have h00 := hcell0 0 hk
        rw [Nat.zero_mul, add_add] at h00
        have hsome : (w.cell? ⟨b, o, sp⟩).isSome = true := by
          simp only [Addr.add, Nat.add_zero, if_true] at h00
          rw [h00]
          simp [he, hk]
        cases sp with
        | none => rfl
        | some s =>
          exfalso
          unfold World.cell? at hsome
          simp at hsome
          split at hsome <;> simp at hsome
      subst hsp
      refine ⟨b, o, rfl, fun j u hj => ?_⟩
      have hjk : j < k := by have := (List.getElem?_eq_some_iff.1 hj).1; rw [he] at this; exact this
      have := hcell j hjk
      rw [add_add, hj] at this
      by_cases hz : i * k + j = 0
      · rw [hz] at this
        simp only [Addr.add, if_true] at this
        rw [show o + i * k + j = o by omega]
        exact this
      · simp only [Addr.add, hz, if_false] at this
        rw [show o + i * k + j = o + (i * k + j) by omega]
        exact this
    · obtain ⟨i, hi⟩ := List.getElem?_of_mem hx
      exact (hq i x hi).1
/-- a slice's shape, by its cells -/
theorem trod_slice_shape {P : Program} {e' : TypeId × Value → H} {w : World} {base : Nat} {spare : Nat → Bool} {held : Bool} {t e : TypeId} {fuel : Nat} {cs : List Value} {y : DataW H × List MemPlace} (ht : P.underlying t = some (.slice e)) (h : DataW.trod e' P w base spare held fuel t cs = some y) : ∃ a n c, cs = [.slice a n c] ∧ n ≤ c ∧ c ≤ maxLen := by
  rcases open_slice ht h with ⟨h1, _⟩ | ⟨a, len, cap, m, k, D, Pl, h1, _, h2, h3, _, _, _⟩
  · exact ⟨none, 0, 0, h1, Nat.le_refl _, by unfold maxLen; omega⟩
  · exact ⟨some a, len, cap, h1, h2, h3⟩
end
end Go.Reg
namespace Go.Proofs.YtlchegpgicdldaaDoor
open Go.ChangeShapes Go.WideShapes Go.ChangeAt Go.RowKit Go.Reg Go.Sx Go.ChangeMaps

theorem own : ownKnob Tryd.prog.godebug = none := by kernel_rfl
theorem laidOut : laidOutB Tryd.prog = true := by kernel_rfl
theorem gEt : Tryd.prog.globalNamed "errors.errorType" = some 0 := by kernel_rfl
theorem gRt : (Tryd.prog.cutTypes.find? (·.1 == "internal/reflectlite.rtype")).map (·.2) = some 127 := by kernel_rfl
theorem oneRow : ((List.range Tryd.prog.types.size).filter fun t => Tryd.prog.rowNamed t [101, 114, 114, 111, 114]) = [26] := by kernel_rfl
/-- all that is laid -/
abbrev laidAll : List (String × DataW Unit) := Rows.bspInboxesRow.laid
theorem laid_parts {W : World} (h : laidMetH Tryd.prog laidAll W) : laidMet Tryd.prog [] W ∧ handlesMet Tryd.prog [("errors.errorType", Rows.laid_errors_errorType)] W := h

theorem var_exact {P : Program} {w : World} {name : String} {g : Nat} {cs : Array Value} (h : w.var? P name = some cs) (hg : P.globalNamed name = some g) : ∃ t fr, w.heap[g]? = some (.cells cs t fr) := by
  unfold World.var? at h
  rw [hg, Option.bind_some] at h
  cases hh : w.heap[g]? with
  | none => rw [hh] at h; cases h
  | some o =>
    rw [hh] at h
    cases o with
    | cells cs' t fr => simp only [Option.some.injEq] at h; subst h; exact ⟨t, fr, rfl⟩
    | _ => cases h
theorem errV_of_laid {W : World} (h : laidMetH Tryd.prog laidAll W) : ∃ t fr, W.heap[0]? = some (.cells #[.iface 127 (.agg #[.pointer (some ⟨1, 26, none⟩)])] t fr) := by
  obtain ⟨name, u, ty, e1, e2, e3, e4, e5⟩ := (laid_parts h).2 _ (List.mem_singleton.2 rfl)
  have en : name = [101, 114, 114, 111, 114] := (Option.some.inj e1).symm
  subst en
  obtain rfl := Option.some.inj (gRt.symm.trans e2)
  have hm : ty ∈ (List.range Tryd.prog.types.size).filter fun t => Tryd.prog.rowNamed t [101, 114, 114, 111, 114] := List.mem_filter.2 ⟨List.mem_range.2 e3, e4⟩
  rw [oneRow] at hm
  obtain rfl := List.mem_singleton.1 hm
  have hh : typeHandle Tryd.prog 26 = .pointer (some ⟨1, 26, none⟩) := by kernel_rfl
  rw [hh] at e5
  exact var_exact e5 gEt
theorem grep_of {W : World} {g : Nat} {cs : Array Value} {t : TypeId} {fr : Nat × Nat} {d : Da} (h : W.heap[g]? = some (.cells cs t fr)) (hr : Sx.RepC [] W d cs.toList) (hs : cs.size = Sx.gsz d) : Sx.GRep [] W (g, d) := by
  refine ⟨⟨[_], ?_, rfl⟩, by simp, cs, t, fr, h, hs⟩
  simp only [Sx.RepC]
  refine ⟨g, 0, cs.toList, rfl, by simp, (Array.getElem?_eq_some_iff.1 h).1, hr, fun j u hj => ?_⟩
  rw [Lib.cell_of_heap h, Nat.zero_add]
  simpa using hj
/-- the variables, as the walk knows them -/
theorem globs_of {W : World} (h : laidMetH Tryd.prog laidAll W) : Sx.Glob C1 [] W := by
  obtain ⟨t1, f1, e1⟩ := errV_of_laid h
  intro g hg
  rw [List.mem_singleton.1 hg]
  exact grep_of e1 (by simp only [Sx.RepC]) rfl

def eI : Sx.Enc Int := ⟨fun n => [.int .i64 n], dIB, 1, fun _ => rfl, fun n u hu => by simp at hu; rw [hu]; rfl, fun O w n => by simp [dIB, Sx.RepC]⟩
def dU8 (n : Int) : Da := .int .u8 n
def eB8 : Sx.Enc Int := ⟨fun n => [.int .u8 n], dU8, 1, fun _ => rfl, fun n u hu => by simp at hu; rw [hu]; rfl, fun O w n => by simp [dU8, Sx.RepC]⟩
def eTx : Sx.Enc ByteArray := ⟨fun s => [.string s], dTx, 1, fun _ => rfl, fun n u hu => by simp at hu; rw [hu]; rfl, fun O w n => by simp [dTx, Sx.RepC]⟩
structure ActB where
  kind : Int
  n : Int
def dAB (x : ActB) : Da := .agg [.int .i64 x.kind, .int .i64 x.n]
def eAB : Sx.Enc ActB := ⟨fun e => [.int .i64 e.kind, .int .i64 e.n], dAB, 2, fun _ => rfl, fun n u hu => by simp at hu; rcases hu with rfl | rfl <;> rfl, fun O w n => by simp [dAB, Sx.RepC, Sx.RepCs]⟩
set_option maxRecDepth 100000 in
theorem int_el {H : Type} {e' : TypeId × Value → H} {w : World} {base : Nat} {spare : Nat → Bool} {held : Bool} (n : Nat) (cs : List Value) (y : DataW H × List MemPlace)
    (h : DataW.trod e' Tryd.prog w base spare held n 3 cs = some y) : ∃ x : Int, cs = eI.enc x ∧ True := by
  obtain ⟨m, h0, _⟩ := DataW.trod_int Tryd.underlying3 h
  exact ⟨m, h0, trivial⟩
set_option maxRecDepth 100000 in
theorem u8_el {H : Type} {e' : TypeId × Value → H} {w : World} {base : Nat} {spare : Nat → Bool} {held : Bool} (n : Nat) (cs : List Value) (y : DataW H × List MemPlace)
    (h : DataW.trod e' Tryd.prog w base spare held n 5 cs = some y) : ∃ x : Int, cs = eB8.enc x ∧ (0 ≤ x ∧ x ≤ 255) := by
  obtain ⟨m, h0, _, h2⟩ := DataW.trod_int Tryd.underlying5 h
  have e1 : IntKind.u8.min = 0 := by decide
  have e2 : IntKind.u8.max = 255 := by decide
  refine ⟨m, h0, ?_⟩
  simp [Lit.wf, e1, e2] at h2; omega
set_option maxRecDepth 100000 in
theorem str_el {H : Type} {e' : TypeId × Value → H} {w : World} {base : Nat} {spare : Nat → Bool} {held : Bool} (n : Nat) (cs : List Value) (y : DataW H × List MemPlace)
    (h : DataW.trod e' Tryd.prog w base spare held n 9 cs = some y) : ∃ x : ByteArray, cs = eTx.enc x ∧ True := by
  obtain ⟨s, h0, _⟩ := DataW.trod_string Tryd.underlying9 h
  exact ⟨s, h0, trivial⟩
set_option maxRecDepth 100000 in
theorem act_el {H : Type} {e' : TypeId × Value → H} {w : World} {base : Nat} {spare : Nat → Bool} {held : Bool} (n : Nat) (cs : List Value) (y : DataW H × List MemPlace)
    (h : DataW.trod e' Tryd.prog w base spare held n 48 cs = some y) : ∃ x : ActB, cs = eAB.enc x ∧ True := by
  obtain ⟨xs, k, _, _, hcl, hxl, hf⟩ := DataW.trod_struct Tryd.underlying48 h
  have cl : cs.length = 2 := hcl.trans (by kernel_rfl)
  match cs, cl with
  | [c0, c1], _ =>
    have hx4 : xs.length = 2 := hxl
    match xs, hx4 with
    | [y0, y1], _ =>
      have k3 : Tryd.prog.cellsOf 3 = 1 := by kernel_rfl
      have g0 := hf 0 _ rfl
      have g1 := hf 1 _ rfl
      simp [k3] at g0 g1
      obtain ⟨n0, h0, _⟩ := DataW.trod_int Tryd.underlying3 g0
      obtain ⟨n1, h1, _⟩ := DataW.trod_int Tryd.underlying3 g1
      simp at h0 h1
      subst h0; subst h1
      exact ⟨⟨n0, n1⟩, rfl, trivial⟩
theorem rep_bool {O : List Nat} {w : World} {v : Value} {b : Bool} (h : Sx.Rep O w (.bool b) v) : v = .bool b := by obtain ⟨cs, r, rfl⟩ := h; simp only [Sx.RepC] at r; subst r; rfl
theorem repss_mapW {α : Type} {D : α → Da} {enc : α → List Value} {w : World} : ∀ {l : List α}, (∀ x ∈ l, RepC [] w (D x) (enc x)) → RepCss [] w (l.map D) (l.map enc)
  | [], _ => by simp [RepCss]
  | x :: l, h => by
    simp only [List.map_cons, RepCss]
    exact ⟨_, _, rfl, h x (by simp), repss_mapW fun y hy => h y (by simp [hy])⟩
/-- a slice that came in, of one-celled things that this world shows -/
theorem rep_argW {α : Type} {D : α → Da} {enc : α → Value} {w : World} {v : Value} {l : List α} (hone : ∀ x ∈ l, (enc x).oneCell' = true) (hrep : ∀ x ∈ l, RepC [] w (D x) [enc x]) (h : ArgSl 1 (fun x => [enc x]) w v l) (hcap : ∀ a n c, v = .slice a n c → n ≤ c ∧ c ≤ maxLen) : Rep [] w (.list 1 (l.map D)) v := by
  obtain ⟨a, c, rfl, hm, hc⟩ := h
  obtain ⟨c1, c2⟩ := hcap _ _ _ rfl
  refine ⟨[_], ?_, rfl⟩
  simp only [RepC]
  refine ⟨a, c, l.map fun x => [enc x], by simp, by simpa using c1, c2, repss_mapW hrep, fun x hx => ?_, ?_⟩
  · obtain ⟨y, hy, rfl⟩ := List.mem_map.1 hx
    exact ⟨rfl, fun u hu => by rw [List.mem_singleton.1 hu]; exact hone y hy⟩
  cases l with
  | nil => exact .inl rfl
  | cons x l =>
    right
    obtain ⟨b, o, rfl, h0⟩ := hc 0 x rfl
    have hfl : ((x :: l).map fun x => [enc x]).flatten = (x :: l).map enc := by
      generalize x :: l = m
      induction m with
      | nil => rfl
      | cons y m ih => rw [List.map_cons, List.flatten_cons, ih]; rfl
    have hcell : Cells w b o ((x :: l).map fun x => [enc x]).flatten := by
      intro j u hj
      rw [hfl, List.getElem?_map] at hj
      obtain ⟨y, hy, e⟩ := Option.map_eq_some_iff.1 hj
      obtain ⟨b', o', he, h2⟩ := hc j y hy
      cases he
      have := h2 0 u (by rw [← e]; rfl)
      simpa using this
    refine ⟨b, o, rfl, by simp, ?_, hcell⟩
    have := h0 0 _ rfl
    unfold World.cell? at this
    rcases Nat.lt_or_ge b w.heap.size with hl | hl
    · exact hl
    · rw [Array.getElem?_eq_none (by omega)] at this; cases this
set_option maxRecDepth 100000 in
/-- lists of ints that came in -/
theorem open_intss {H : Type} {e' : TypeId × Value → H} {w : World} {held : Bool} {spare : Nat → Bool} {r : Reach} {b0 : Nat} {v : Value} {d : DataW H} {ps : List MemPlace} (hval : Value.okWide Tryd.prog w r b0 29 v) (h : DataW.Trod e' Tryd.prog w 0 spare held 29 v d ps) : ∃ l : List (List Int), Sx.Rep [] w (.list 1 (l.map dTB)) v := by
  have hc := Sx.cap_of Tryd.underlying29 hval h
  obtain ⟨l, a, hl⟩ := argSl_of (α := List Int × Value) (enc := fun x => [x.2]) (fun x => Sx.Rep [] w (dTB x.1) x.2 ∧ ∃ a n c, x.2 = .slice a n c) Tryd.underlying29 (k := 1) (by kernel_rfl) (by decide) (fun _ => rfl) (fun n cs y hy => by
    obtain ⟨a0, n0, m0, rfl, h00, h01⟩ := trod_slice_shape Tryd.underlying43 hy
    obtain ⟨l, r0, _⟩ := argSl_shape (enc := eI.enc) (fun _ => True) Tryd.underlying43 (k := 1) (by kernel_rfl) (by decide) (fun _ => rfl) int_el ⟨_, _, _, rfl⟩ (⟨n, hy⟩ : DataW.Trod e' Tryd.prog w 0 spare held 43 (.slice a0 n0 m0) y.1 y.2)
    exact ⟨(l, .slice a0 n0 m0), rfl, eI.rep_arg (by decide) r0 (fun a n c e => by cases e; exact ⟨h00, h01⟩), a0, n0, m0, rfl⟩) hval h
  refine ⟨l.map (·.1), ?_⟩
  rw [List.map_map]
  refine rep_argW (enc := fun x : List Int × Value => x.2) (D := fun x : List Int × Value => dTB x.1) (fun x hx => ?_) (fun x hx => ?_) a hc
  · obtain ⟨_, a0, n0, m0, e⟩ := hl x hx
    rw [e]; rfl
  · obtain ⟨⟨cs, h1, h2⟩, a0, n0, m0, e⟩ := hl x hx
    have h3 : cs = [x.2] := by
      have h1' := h1
      rw [show dTB x.1 = Da.list 1 (x.1.map dIB) from rfl] at h1'
      simp only [RepC] at h1'
      obtain ⟨_, _, _, rfl, _⟩ := h1'
      rw [h2]; rfl
    rw [← h3]; exact h1
/-- A WORLD FOR THE WITNESS: the settled one, the variable's cell laid. -/
noncomputable def laidWorld (os : Os) : World :=
  let w0 := World.holding Tryd.prog os ⟨#[], #[], []⟩
  { w0 with heap := w0.heap.modify 0 fun
      | .cells _ t frozen => .cells #[.iface 127 (.agg #[.pointer (some ⟨1, 26, none⟩)])] t frozen
      | o => o }
theorem laidWorld_met (os : Os) (args : Array Value) : laidMetH Tryd.prog laidAll ((laidWorld os).forCall (fun _ _ => 0) ⟨#[], args, []⟩).memory :=
  laidMetH_of_parts (laidMet_nil _ _) (by kernel_rfl)
end Go.Proofs.YtlchegpgicdldaaDoor
