/- fretworklaw15.MiniTakes returns true and leaves its input as it was, whatever the input. Provided that the listed variables hold what the text lays in them (the row lists them). The walk: mtakes_pure. -/
import Derived.Test.YteigfapjiekdnaaGreatDoorKtaa
import Derived.Test.YteigfapjiekdnaaGreatDoorKtbc
import Derived.Test.YteigfapjiekdnaaGreatDoorKtae
import Derived.Test.YteigfapjiekdnaaGreatDoorArg
import Derived.Test.YteigfapjiekdnaaGreatDoorCards
import Derived.Test.YteigfapjiekdnaaGreatDoorTie
import Derived.WalkKit
import Derived.ProofKit
import Derived.OpenShut
import Derived.ChangeMaps5
import Derived.ChangeSame
import Derived.SizedLaws
import Derived.Deep.DeepHandedRow
import Derived.Lib.LaidTab
import Derived.LaidHandle
import Derived.Carry
import Derived.Stop.LaidErr
import Derived.Test.YteigfapjiekdnaaGreatDoorKtbe
section
/- What the rows give (mini: one variable is laid): the variable, the arguments' elements, a world for the witness. -/
namespace Go.Reg
open Go Go.RowKit Go.Deep Go.WideShapes
section
variable {α H : Type}
theorem argSl_shape {P : Program} {k : Nat} {enc : α → List Value} {e' : TypeId × Value → H} {w : World} {base : Nat} {spare : Nat → Bool} {held : Bool} {t e : TypeId} {v : Value} {d : DataW H} {ps : List MemPlace} (Q : α → Prop)
    (ht : P.underlying t = some (.slice e)) (hc : P.cellsOf e = k) (hk : 0 < k) (he : ∀ x, (enc x).length = k)
    (hel : ∀ n cs y, DataW.trod e' P w base spare held n e cs = some y → ∃ x, cs = enc x ∧ Q x)
    (hsh : ∃ a n c, v = .slice a n c) (h : DataW.Trod e' P w base spare held t v d ps) : ∃ l, ArgSl k enc w v l ∧ ∀ x ∈ l, Q x := by
  obtain ⟨a0, len0, cap0, rfl⟩ := hsh
  obtain ⟨fuel, hf⟩ := h
  rcases open_slice ht hf with ⟨h1, _⟩ | ⟨a, len, cap, m, n, D, Pl, h1, hb, hl, hm, hmm, _, hx⟩
  · simp [Value.cells] at h1
    obtain ⟨rfl, rfl, rfl⟩ := h1
    exact ⟨[], ⟨none, 0, rfl, by simp, fun i x hi => by simp at hi⟩, by simp⟩
  · simp [Value.cells] at h1
    obtain ⟨rfl, rfl, rfl⟩ := h1
    have hlm : len0 ≤ m := by rw [hmm]; split <;> omega
    obtain ⟨l, hll, hq⟩ := list_of (Q := fun i x => Q x ∧ w.cells? base (a.add (i * k)) k = some (enc x)) (n := len0) (fun i hi => by
      obtain ⟨cs', h1, h2⟩ := hx i (by omega)
      obtain ⟨x, rfl, hQ⟩ := hel _ _ _ h2
      rw [hc] at h1
      exact ⟨x, hQ, h1⟩)
    refine ⟨l, ⟨some a, cap0, by rw [hll], by omega, fun i x hi => ?_⟩, fun x hx => ?_⟩
    · have h2 := (hq i x hi).2
      obtain ⟨_, _, hcell⟩ := World.cells?_some h2
      have h0 := hcell 0 hk
      obtain ⟨b, o, sp⟩ := a
      have hi0 : 0 < l.length := by have := (List.getElem?_eq_some_iff.1 hi).1; omega
      have hz := (hq 0 l[0] (by simp [hi0])).2
      obtain ⟨_, _, hcell0⟩ := World.cells?_some hz
      have hsp : sp = none := by
        have h00 := hcell0 0 hk
        rw [Nat.zero_mul, add_add] at h00
        have hsome : (w.cell? ⟨b, o, sp⟩).isSome = true := by
          simp only [Addr.add, Nat.add_zero, if_true] at h00
          rw [h00]
          simp [he, hk]
        cases sp with
        | none => rfl
        | some s =>
          exfalso
          unfold World.cell? at hsome
          simp at hsome
          split at hsome <;> simp at hsome
      subst hsp
      refine ⟨b, o, rfl, fun j u hj => ?_⟩
      have hjk : j < k := by have := (List.getElem?_eq_some_iff.1 hj).1; rw [he] at this; exact this
      have := hcell j hjk
      rw [add_add, hj] at this
      by_cases hz : i * k + j = 0
      · rw [hz] at this
        simp only [Addr.add, if_true] at this
        rw [show o + i * k + j = o by omega]
        exact this
      · simp only [Addr.add, hz, if_false] at this
        rw [show o + i * k + j = o + (i * k + j) by omega]
        exact this
    · obtain ⟨i, hi⟩ := List.getElem?_of_mem hx
      exact (hq i x hi).1
/-- a slice's shape, by its cells -/
theorem trod_slice_shape {P : Program} {e' : TypeId × Value → H} {w : World} {base : Nat} {spare : Nat → Bool} {held : Bool} {t e : TypeId} {fuel : Nat} {cs : List Value} {y : DataW H × List MemPlace} (ht : P.underlying t = some (.slice e)) (h : DataW.trod e' P w base spare held fuel t cs = some y) : ∃ a n c, cs = [.slice a n c] ∧ n ≤ c ∧ c ≤ maxLen := by
  rcases open_slice ht h with ⟨h1, _⟩ | ⟨a, len, cap, m, k, D, Pl, h1, _, h2, h3, _, _, _⟩
  · exact ⟨none, 0, 0, h1, Nat.le_refl _, by unfold maxLen; omega⟩
  · exact ⟨some a, len, cap, h1, h2, h3⟩
end
end Go.Reg
namespace Go.Proofs.YteigfapjiekdnaaGreatDoor
open Go.ChangeShapes Go.WideShapes Go.ChangeAt Go.RowKit Go.Reg Go.Gr Go.Sx Go.ChangeMaps

theorem own : ownKnob Tryz.prog.godebug = none := by kernel_rfl
theorem laidOut : laidOutB Tryz.prog = true := by kernel_rfl
theorem gEt : Tryz.prog.globalNamed "errors.errorType" = some 0 := by kernel_rfl
theorem gRt : (Tryz.prog.cutTypes.find? (·.1 == "internal/reflectlite.rtype")).map (·.2) = some 234 := by kernel_rfl
theorem oneRow : ((List.range Tryz.prog.types.size).filter fun t => Tryz.prog.rowNamed t [101, 114, 114, 111, 114]) = [33] := by kernel_rfl
/-- all that is laid -/
abbrev laidAll : List (String × DataW Unit) := Rows.miniLabelsRow.laid
theorem laid_parts {W : World} (h : laidMetH Tryz.prog laidAll W) : laidMet Tryz.prog [] W ∧ handlesMet Tryz.prog [("errors.errorType", Rows.laid_errors_errorType)] W := h

theorem var_exact {P : Program} {w : World} {name : String} {g : Nat} {cs : Array Value} (h : w.var? P name = some cs) (hg : P.globalNamed name = some g) : ∃ t fr, w.heap[g]? = some (.cells cs t fr) := by
  unfold World.var? at h
  rw [hg, Option.bind_some] at h
  cases hh : w.heap[g]? with
  | none => rw [hh] at h; cases h
  | some o =>
    rw [hh] at h
    cases o with
    | cells cs' t fr => simp only [Option.some.injEq] at h; subst h; exact ⟨t, fr, rfl⟩
    | _ => cases h
theorem errV_of_laid {W : World} (h : laidMetH Tryz.prog laidAll W) : ∃ t fr, W.heap[0]? = some (.cells #[.iface 234 (.agg #[.pointer (some ⟨5, 33, none⟩)])] t fr) := by
  obtain ⟨name, u, ty, e1, e2, e3, e4, e5⟩ := (laid_parts h).2 _ (List.mem_singleton.2 rfl)
  have en : name = [101, 114, 114, 111, 114] := (Option.some.inj e1).symm
  subst en
  obtain rfl := Option.some.inj (gRt.symm.trans e2)
  have hm : ty ∈ (List.range Tryz.prog.types.size).filter fun t => Tryz.prog.rowNamed t [101, 114, 114, 111, 114] := List.mem_filter.2 ⟨List.mem_range.2 e3, e4⟩
  rw [oneRow] at hm
  obtain rfl := List.mem_singleton.1 hm
  have hh : typeHandle Tryz.prog 33 = .pointer (some ⟨5, 33, none⟩) := by kernel_rfl
  rw [hh] at e5
  exact var_exact e5 gEt
theorem grep_of {W : World} {g : Nat} {cs : Array Value} {t : TypeId} {fr : Nat × Nat} {d : Da} (h : W.heap[g]? = some (.cells cs t fr)) (hr : Sx.RepC [] W d cs.toList) (hs : cs.size = Sx.gsz d) : Sx.GRep [] W (g, d) := by
  refine ⟨⟨[_], ?_, rfl⟩, by simp, cs, t, fr, h, hs⟩
  simp only [Sx.RepC]
  refine ⟨g, 0, cs.toList, rfl, by simp, (Array.getElem?_eq_some_iff.1 h).1, hr, fun j u hj => ?_⟩
  rw [Lib.cell_of_heap h, Nat.zero_add]
  simpa using hj
/-- the variables, as the walk knows them -/
theorem globs_of {W : World} (h : laidMetH Tryz.prog laidAll W) : Sx.Glob C1 [] W := by
  obtain ⟨t1, f1, e1⟩ := errV_of_laid h
  intro g hg
  rw [List.mem_singleton.1 hg]
  exact grep_of e1 (by simp only [Sx.RepC]) rfl

def eI : Sx.Enc Int := ⟨fun n => [.int .i64 n], dI, 1, fun _ => rfl, fun n u hu => by simp at hu; rw [hu]; rfl, fun O w n => by simp [dI, Sx.RepC]⟩
def eE : Sx.Enc Edg := ⟨fun e => [.int .i64 e.a, .int .i64 e.b], dE, 2, fun _ => rfl, fun n u hu => by simp at hu; rcases hu with rfl | rfl <;> rfl, fun O w n => by simp [dE, Sx.RepC, Sx.RepCs]⟩
set_option maxRecDepth 100000 in
theorem int_el {H : Type} {e' : TypeId × Value → H} {w : World} {base : Nat} {spare : Nat → Bool} {held : Bool} (n : Nat) (cs : List Value) (y : DataW H × List MemPlace)
    (h : DataW.trod e' Tryz.prog w base spare held n 3 cs = some y) : ∃ x : Int, cs = eI.enc x ∧ True := by
  obtain ⟨m, h0, _⟩ := DataW.trod_int Tryz.underlying3 h
  exact ⟨m, h0, trivial⟩
set_option maxRecDepth 100000 in
theorem edge_el {H : Type} {e' : TypeId × Value → H} {w : World} {base : Nat} {spare : Nat → Bool} {held : Bool} (n : Nat) (cs : List Value) (y : DataW H × List MemPlace)
    (h : DataW.trod e' Tryz.prog w base spare held n 86 cs = some y) : ∃ x : Edg, cs = eE.enc x ∧ True := by
  obtain ⟨xs, k, _, _, hcl, hxl, hf⟩ := DataW.trod_struct Tryz.underlying86 h
  have cl : cs.length = 2 := hcl.trans (by kernel_rfl)
  match cs, cl with
  | [c0, c1], _ =>
    have hx4 : xs.length = 2 := hxl
    match xs, hx4 with
    | [y0, y1], _ =>
      have k3 : Tryz.prog.cellsOf 3 = 1 := by kernel_rfl
      have g0 := hf 0 _ rfl
      have g1 := hf 1 _ rfl
      simp [k3] at g0 g1
      obtain ⟨n0, h0, _⟩ := DataW.trod_int Tryz.underlying3 g0
      obtain ⟨n1, h1, _⟩ := DataW.trod_int Tryz.underlying3 g1
      simp at h0 h1
      subst h0; subst h1
      exact ⟨⟨n0, n1⟩, rfl, trivial⟩
theorem rep_bool {O : List Nat} {w : World} {v : Value} {b : Bool} (h : Sx.Rep O w (.bool b) v) : v = .bool b := by obtain ⟨cs, r, rfl⟩ := h; simp only [Sx.RepC] at r; subst r; rfl
/-- A WORLD FOR THE WITNESS: the settled one, the variable's cell laid. -/
noncomputable def laidWorld (os : Os) : World :=
  let w0 := World.holding Tryz.prog os ⟨#[], #[], []⟩
  { w0 with heap := w0.heap.modify 0 fun
      | .cells _ t frozen => .cells #[.iface 234 (.agg #[.pointer (some ⟨5, 33, none⟩)])] t frozen
      | o => o }
theorem laidWorld_met (os : Os) (args : Array Value) : laidMetH Tryz.prog laidAll ((laidWorld os).forCall (fun _ _ => 0) ⟨#[], args, []⟩).memory :=
  laidMetH_of_parts (laidMet_nil _ _) (by kernel_rfl)
end Go.Proofs.YteigfapjiekdnaaGreatDoor
end

section
/- How long a pattern that came in can be; lists of lists that came in. -/
namespace Go.Reg
open Go Go.Deep
theorem sized_len {H : Type} {P : Program} {enc : TypeId × Value → H} {w : World} {base : Nat} {spare : Nat → Bool} {held : Bool} {t e : TypeId} {d : DataW H} {ps : List MemPlace} {a : Option Addr} {n c : Nat} {ts : List TypeId} {ds : List (DataW H)} (ht : P.underlying t = some (.slice e))
    (h : DataW.Trod enc P w base spare held t (.slice a n c) d ps) (hs : (DataW.weightsEach P ts ds).all (· ≤ reachBytes) = true) {j : Nat} (hj : ts[j]? = some t) (hd : ds[j]? = some d) : n * P.bytesOf e ≤ 140737488351232 := by
  obtain ⟨fuel, hf⟩ := h
  rcases open_slice ht hf with ⟨h1, _⟩ | ⟨a, len, cap, m, k, D, Pl, h1, _, _, _, hm, hx, _⟩
  · simp [Value.cells] at h1
    obtain ⟨_, rfl, _⟩ := h1
    simp
  · simp [Value.cells] at h1
    obtain ⟨_, rfl, _⟩ := h1
    have hx1 := congrArg Prod.fst hx
    simp only at hx1
    rw [hx1] at hd
    have := sized_slice hs hj hd ht
    simp only [List.length_map, List.length_range] at this
    have h2 : n * P.bytesOf e ≤ (n + (m - n)) * P.bytesOf e := Nat.mul_le_mul_right _ (by omega)
    have h3 : reachBytes ≤ 140737488351232 := by decide
    omega
end Go.Reg
namespace Go.Proofs.YteigfapjiekdnaaGreatDoor
open Go.ChangeShapes Go.WideShapes Go.ChangeAt Go.RowKit Go.Reg Go.Gr Go.Sx Go.ChangeMaps

set_option maxRecDepth 100000 in
/-- a pattern that came in, and how long it can be -/
theorem open_patL {H : Type} {e' : TypeId × Value → H} {w : World} {held : Bool} {spare : Nat → Bool} {r : Reach} {b0 : Nat} {v : Value} {d : DataW H} {ps : List MemPlace} (hval : Value.okWide Tryz.prog w r b0 47 v) (h : DataW.Trod e' Tryz.prog w 0 spare held 47 v d ps) {ts : List TypeId} {ds : List (DataW H)} (hs : (DataW.weightsEach Tryz.prog ts ds).all (· ≤ reachBytes) = true) {j : Nat} (hj : ts[j]? = some 47) (hd : ds[j]? = some d) : ∃ p : Pt, Sx.Rep [] w (dPt p) v ∧ p.edges.length ≤ 8796093022207 := by
  obtain ⟨cs, rfl, hsz⟩ := okWide_struct Tryz.underlying47 hval
  obtain ⟨fuel, hf⟩ := h
  obtain ⟨xs, k, _, hx, hcl, hxl, hfl⟩ := DataW.trod_struct Tryz.underlying47 hf
  have hcs : (Value.agg cs).cells.toList = cs.toList := rfl
  rw [hcs] at hcl hfl
  have cl : cs.toList.length = 2 := hcl.trans (by kernel_rfl)
  match hl : cs.toList, cl with
  | [c0, c1], _ =>
    rw [hl] at hfl
    have hx2 : xs.length = 2 := hxl
    match xs, hx2 with
    | [y0, y1], _ =>
      have k1 : Tryz.prog.cellsOf 22 = 1 := by kernel_rfl
      have k2 : Tryz.prog.cellsOf 23 = 1 := by kernel_rfl
      have g0 := hfl 0 _ rfl
      have g1 := hfl 1 _ rfl
      simp [k1, k2] at g0 g1
      obtain ⟨a0, n0, m0, e0, h00, h01⟩ := trod_slice_shape Tryz.underlying22 g0
      obtain ⟨a1, n1, m1, e1, h10, h11⟩ := trod_slice_shape Tryz.underlying23 g1
      simp only [List.cons.injEq, and_true] at e0 e1
      subst e0 e1
      obtain ⟨l, r0, _⟩ := argSl_shape (enc := eI.enc) (fun _ => True) Tryz.underlying22 (k := 1) (by kernel_rfl) (by decide) (fun _ => rfl) int_el ⟨_, _, _, rfl⟩ (⟨k, g0⟩ : DataW.Trod e' Tryz.prog w 0 spare held 22 (.slice a0 n0 m0) y0.1 y0.2)
      obtain ⟨E, r1, _⟩ := argSl_shape (enc := eE.enc) (fun _ => True) Tryz.underlying23 (k := 2) (by kernel_rfl) (by decide) (fun _ => rfl) edge_el ⟨_, _, _, rfl⟩ (⟨k, g1⟩ : DataW.Trod e' Tryz.prog w 0 spare held 23 (.slice a1 n1 m1) y1.1 y1.2)
      obtain ⟨s0, p0, q0⟩ := eI.rep_arg (by decide) r0 (fun a n c e => by cases e; exact ⟨h00, h01⟩)
      obtain ⟨s1, p1, q1⟩ := eE.rep_arg (by decide) r1 (fun a n c e => by cases e; exact ⟨h10, h11⟩)
      have hdx : d = .agg [y0.1, y1.1] := by have := congrArg Prod.fst hx; simpa using this
      have hw : ∀ n ∈ y1.1.weights Tryz.prog 23, n ≤ reachBytes := by
        intro n hn
        have hm := DataW.weights_mem_each hj hd n (by
          rw [hdx]
          unfold DataW.weights
          rw [Tryz.underlying47]
          simp [DataW.weightsEach, hn])
        simpa using List.all_eq_true.1 hs n hm
      have hb := sized_len (ts := [23]) (ds := [y1.1]) Tryz.underlying23 (⟨k, g1⟩ : DataW.Trod e' Tryz.prog w 0 spare held 23 (.slice a1 n1 m1) y1.1 y1.2) (by
        rw [List.all_eq_true]
        intro n hn
        simp only [DataW.weightsEach, List.append_nil] at hn
        exact decide_eq_true (hw n hn)) (j := 0) rfl rfl
      rw [show Tryz.prog.bytesOf 86 = 16 by kernel_rfl] at hb
      have hel : E.length = n1 := by
        obtain ⟨aa, cc, e3, _, _⟩ := r1
        simp only [Value.slice.injEq] at e3
        exact e3.2.1.symm
      refine ⟨⟨l, E⟩, ⟨[.slice a0 n0 m0, .slice a1 n1 m1], ?_, ?_⟩, ?_⟩
      · simp only [dPt, Sx.RepC, Sx.RepCs]
        have z0 : s0 = [.slice a0 n0 m0] := by
          have p0' := p0
          simp only [Sx.RepC] at p0'
          obtain ⟨_, _, _, rfl, _⟩ := p0'
          rw [q0]; rfl
        have z1 : s1 = [.slice a1 n1 m1] := by
          have p1' := p1
          simp only [Sx.RepC] at p1'
          obtain ⟨_, _, _, rfl, _⟩ := p1'
          rw [q1]; rfl
        subst z0 z1
        exact ⟨_, _, rfl, p0, _, _, rfl, p1, rfl⟩
      · show Value.agg cs = .agg _
        congr 1
        apply Array.toList_inj.1
        rw [hl]
      · show E.length ≤ _
        omega
theorem repss_mapW {α : Type} {D : α → Da} {enc : α → List Value} {w : World} : ∀ {l : List α}, (∀ x ∈ l, RepC [] w (D x) (enc x)) → RepCss [] w (l.map D) (l.map enc)
  | [], _ => by simp [RepCss]
  | x :: l, h => by
    simp only [List.map_cons, RepCss]
    exact ⟨_, _, rfl, h x (by simp), repss_mapW fun y hy => h y (by simp [hy])⟩
/-- a slice that came in, of one-celled things that this world shows -/
theorem rep_argW {α : Type} {D : α → Da} {enc : α → Value} {w : World} {v : Value} {l : List α} (hone : ∀ x ∈ l, (enc x).oneCell' = true) (hrep : ∀ x ∈ l, RepC [] w (D x) [enc x]) (h : ArgSl 1 (fun x => [enc x]) w v l) (hcap : ∀ a n c, v = .slice a n c → n ≤ c ∧ c ≤ maxLen) : Rep [] w (.list 1 (l.map D)) v := by
  obtain ⟨a, c, rfl, hm, hc⟩ := h
  obtain ⟨c1, c2⟩ := hcap _ _ _ rfl
  refine ⟨[_], ?_, rfl⟩
  simp only [RepC]
  refine ⟨a, c, l.map fun x => [enc x], by simp, by simpa using c1, c2, repss_mapW hrep, fun x hx => ?_, ?_⟩
  · obtain ⟨y, hy, rfl⟩ := List.mem_map.1 hx
    exact ⟨rfl, fun u hu => by rw [List.mem_singleton.1 hu]; exact hone y hy⟩
  cases l with
  | nil => exact .inl rfl
  | cons x l =>
    right
    obtain ⟨b, o, rfl, h0⟩ := hc 0 x rfl
    have hfl : ((x :: l).map fun x => [enc x]).flatten = (x :: l).map enc := by
      generalize x :: l = m
      induction m with
      | nil => rfl
      | cons y m ih => rw [List.map_cons, List.flatten_cons, ih]; rfl
    have hcell : Cells w b o ((x :: l).map fun x => [enc x]).flatten := by
      intro j u hj
      rw [hfl, List.getElem?_map] at hj
      obtain ⟨y, hy, e⟩ := Option.map_eq_some_iff.1 hj
      obtain ⟨b', o', he, h2⟩ := hc j y hy
      cases he
      have := h2 0 u (by rw [← e]; rfl)
      simpa using this
    refine ⟨b, o, rfl, by simp, ?_, hcell⟩
    have := h0 0 _ rfl
    unfold World.cell? at this
    rcases Nat.lt_or_ge b w.heap.size with hl | hl
    · exact hl
    · rw [Array.getElem?_eq_none (by omega)] at this; cases this
set_option maxRecDepth 100000 in
/-- lists of ints that came in -/
theorem open_intss {H : Type} {e' : TypeId × Value → H} {w : World} {held : Bool} {spare : Nat → Bool} {r : Reach} {b0 : Nat} {v : Value} {d : DataW H} {ps : List MemPlace} (hval : Value.okWide Tryz.prog w r b0 41 v) (h : DataW.Trod e' Tryz.prog w 0 spare held 41 v d ps) : ∃ l : List (List Int), Sx.Rep [] w (.list 1 (l.map dIs)) v := by
  have hc := Sx.cap_of Tryz.underlying41 hval h
  obtain ⟨l, a, hl⟩ := argSl_of (α := List Int × Value) (enc := fun x => [x.2]) (fun x => Sx.Rep [] w (dIs x.1) x.2 ∧ ∃ a n c, x.2 = .slice a n c) Tryz.underlying41 (k := 1) (by kernel_rfl) (by decide) (fun _ => rfl) (fun n cs y hy => by
    obtain ⟨a0, n0, m0, rfl, h00, h01⟩ := trod_slice_shape Tryz.underlying22 hy
    obtain ⟨l, r0, _⟩ := argSl_shape (enc := eI.enc) (fun _ => True) Tryz.underlying22 (k := 1) (by kernel_rfl) (by decide) (fun _ => rfl) int_el ⟨_, _, _, rfl⟩ (⟨n, hy⟩ : DataW.Trod e' Tryz.prog w 0 spare held 22 (.slice a0 n0 m0) y.1 y.2)
    exact ⟨(l, .slice a0 n0 m0), rfl, eI.rep_arg (by decide) r0 (fun a n c e => by cases e; exact ⟨h00, h01⟩), a0, n0, m0, rfl⟩) hval h
  refine ⟨l.map (·.1), ?_⟩
  rw [List.map_map]
  refine rep_argW (enc := fun x : List Int × Value => x.2) (D := fun x : List Int × Value => dIs x.1) (fun x hx => ?_) (fun x hx => ?_) a hc
  · obtain ⟨_, a0, n0, m0, e⟩ := hl x hx
    rw [e]; rfl
  · obtain ⟨⟨cs, h1, h2⟩, a0, n0, m0, e⟩ := hl x hx
    have h3 : cs = [x.2] := by
      have h1' := h1
      rw [show dIs x.1 = Da.list 1 (x.1.map dI) from rfl] at h1'
      simp only [RepC] at h1'
      obtain ⟨_, _, _, rfl, _⟩ := h1'
      rw [h2]; rfl
    rw [← h3]; exact h1
end Go.Proofs.YteigfapjiekdnaaGreatDoor
end

section

namespace Go.Proofs.YteigfapjiekdnaaGreatDoor
open Go.ChangeShapes Go.WideShapes Go.ChangeAt Go.RowKit Go.Reg Go.Gr Go.ChangeMaps

set_option maxRecDepth 100000 in
theorem contractMiniTakes (H : Type) (enc : TypeId × Value → H) (W : World) (base : Nat) (args : Array Value) (ds gs : List (DataW H)) (before : List MemPlace)
    (hval : ∀ (j : Nat) t v, Tryz.f6.params[j]? = some t → args[j]? = some v → Value.okWide Tryz.prog W .any base t v)
    (hW : DataW.Whole enc Tryz.prog Tryz.f6.params.toList Rows.miniTakesSpec.vars false W args.toList ds gs before) (hsz0 : (DataW.weightsEach Tryz.prog (Tryz.f6.params.toList ++ (OpenSpec.ofChange Rows.miniTakesSpec).bare.plain.varTypes Tryz.prog) (ds ++ gs)).all (· ≤ reachBytes) = true) (hL : laidMetH Tryz.prog Rows.miniTakesRow.laid W) (_hsh : W.ShapedOpen Tryz.prog) :
    Calls Tryz.prog 6 args W fun e W' => ∃ v, e = .returned v ∧ Rows.miniTakesSpec.post enc Tryz.prog Tryz.f6 false true false false W args v W' := by
  have hsz := hsz0
  clear hsz0
  have hW' := hW
  obtain ⟨p, q, hA0, hV, rfl, hfz, hnd⟩ := hW
  have hA : DataW.TrodAll enc Tryz.prog W 0 (fun _ => true) true Tryz.f6.params.toList args.toList ds p := hA0
  rw [Tryz.params6] at hA hval hsz
  obtain ⟨v0, v1, d0, d1, p0, p1, rfl, rfl, rfl, h0, h1⟩ := trodAll_two hA
  obtain ⟨rfl, rfl⟩ := trodVars_none hV
  obtain ⟨x0, r0, b0⟩ := open_patL (hval 0 _ _ rfl rfl) h0 hsz (j := 0) rfl rfl
  obtain ⟨x1, r1⟩ := open_intss (hval 1 _ _ rfl rfl) h1
  have hg := globs_of (show laidMetH Tryz.prog laidAll W from hL)
  have l0 : ∀ x ∈ p0, x.block < W.heap.size := fun x hx => by have := hW'.lt x (by simp [hx]); simpa using this
  have l1 : ∀ x ∈ p1, x.block < W.heap.size := fun x hx => by have := hW'.lt x (by simp [hx]); simpa using this
  refine ((mtakes_pure x0 x1 b0).calls hg (Sx.reps_cons r0 (Sx.reps_cons r1 Sx.reps_nil))).mono fun e W' ⟨u, y, he, hy, hr, ht⟩ => ?_
  subst hy
  obtain rfl := rep_bool hr
  subst he
  refine ⟨_, rfl, _, _, _, [], p0 ++ p1, [], hW', ?_, ?_, ?_, ?_, fun h => by cases h⟩
  · exact trodAll_mk1 (shut_bool Tryz.underlying4 true)
  · exact trodAll_mk2 (Below.trod laidOut (by kernel_rfl) (of_decide_eq_true (by kernel_rfl)) h0 ht.below l0) (Below.trod laidOut (by kernel_rfl) (of_decide_eq_true (by kernel_rfl)) h1 ht.below l1)
  · rfl
  · refine ⟨ht.os, ht.output, fun i hi => ?_⟩
    rw [ht.blk i hi (by simp)]
    have hsome : ∃ o, W.heap[i]? = some o := ⟨_, Array.getElem?_eq_getElem hi⟩
    obtain ⟨o, ho⟩ := hsome
    rw [ho]
    cases o <;> simp

theorem readsMiniTakes (os : Os) {H : Type} (enc : TypeId × Value → H) : ∃ places, DataW.whole enc Tryz.prog ((laidWorld os).forCall (fun _ _ => 0) ⟨#[], #[.agg #[.slice none 0 0, .slice none 0 0], .slice none 0 0], []⟩).memory Tryz.f6.params.toList Rows.miniTakesSpec.vars false #[.agg #[.slice none 0 0, .slice none 0 0], .slice none 0 0].toList 8 = some ([.agg [.nil, .nil], .nil], [], places) :=
  ⟨[], by kernel_rfl⟩

set_option maxRecDepth 100000 in
theorem liftedMiniTakes (os : Os) (started : os.Started) (H : Type) (enc : TypeId × Value → H) (F : Stop.Interp) :
    ReturnsInHanded {} Tryz.checked os 6 .any ((OpenSpec.ofChange Rows.miniTakesSpec).preRow enc Tryz.prog Tryz.f6 Rows.miniTakesRow.domain false Rows.miniTakesRow.laid) (((OpenSpec.ofChange Rows.miniTakesSpec).at F).post enc Tryz.prog Tryz.f6 false true false false) := by
  obtain ⟨places, hx⟩ := readsMiniTakes os enc
  refine returnsInHanded_of_row (C := Tryz.checked) (s := OpenSpec.ofChange Rows.miniTakesSpec) own started (by kernel_rfl) Tryz.func6
    (witness_row_at (enc := enc) (C := Tryz.checked) false (laidWorld os) #[.agg #[.slice none 0 0, .slice none 0 0], .slice none 0 0] rfl (by kernel_rfl) (by kernel_rfl) (by kernel_rfl)
      (OpenSpec.preRow_of_cond 8 hx (by kernel_rfl) (fun k hk => by cases hk) (by kernel_rfl) (laidWorld_met os _))) ?_
  intro W base args ds gs before hval hW _ _ hsz hL hsh _
  exact contractMiniTakes H enc W base args ds gs before hval hW hsz hL hsh

theorem saidMiniTakes : Rows.MiniTakesSaid :=
  OpenClaim.holds_of_cond 6 Tryz.f6 rfl rfl rfl rfl rfl rfl rfl ⟨rfl, rfl, rfl, rfl, rfl⟩ rfl rfl rfl rfl rfl (by kernel_rfl) Tryz.func6 (by kernel_rfl)
    (of_decide_eq_true (by kernel_rfl)) (by unfold Func.isWrapper; first | (rw [if_pos (by decide +kernel)]; kernel_rfl) | (rw [if_neg (by decide +kernel)]; exact ⟨rfl, rfl⟩))
    (fun os started H enc _ F => by rw [OpenClaim.pre_eq_preRow]; exact liftedMiniTakes os started H enc F)

theorem plainMiniTakes (f : FuncId) (fn : Func) (hf : Tryz.pinned.checked.prog.funcNamed "fretwork/fretworklaw15.MiniTakes" = some f) (hfn : Tryz.pinned.checked.prog.funcs[f]? = some fn) :
    true = Tryz.pinned.checked.prog.looks [] ∧ ∀ (j : Nat) t, fn.params[j]? = some t → Tryz.pinned.checked.prog.wantsStandIn t = false := by
  obtain rfl : f = 6 := Option.some.inj ((show Tryz.prog.funcNamed "fretwork/fretworklaw15.MiniTakes" = some 6 by kernel_rfl).symm.trans hf) |>.symm
  obtain rfl : fn = Tryz.f6 := (Option.some.inj (Tryz.func6.symm.trans hfn)).symm
  refine ⟨by kernel_rfl, fun j t ht => ?_⟩
  rw [Tryz.params6] at ht
  have hm := Array.mem_of_getElem? ht
  simp at hm
  rcases hm with rfl | rfl
  · exact (show Tryz.prog.wantsStandIn 47 = false by kernel_rfl)
  · exact (show Tryz.prog.wantsStandIn 41 = false by kernel_rfl)

theorem cardMiniTakes : Rows.MiniTakesCardSaid :=
  Claim7.holds_tied_plain_at .later [] _ _ _ _ saidMiniTakes (fun _ h => by cases h) (by kernel_rfl) (fun _ h => by cases h) miniTakes_row_tie rfl ⟨rfl, rfl⟩ (by kernel_rfl) rfl plainMiniTakes (by kernel_rfl)
#print axioms cardMiniTakes
end Go.Proofs.YteigfapjiekdnaaGreatDoor
end
