/- Merged: Pgl Pdg Pgw. -/
import Derived.Test.YtaadeobcnamgdaaGreatDoorZbah
import Derived.Test.YtaadeobcnamgdaaGreatDoorZbau
import Derived.Test.YtaadeobcnamgdaaGreatDoorZbag
section
/- prog: plain laws: what a test tells, the program's way and the document's. -/
namespace Go.Gr
open Go.Proofs.YtaadeobcnamgdaaGreatDoor
/-- a test -/
structure Opp where
  kind : Int
  n : Int
def takesO (k : Int) : Bool := !(decide (k = 1) || decide (k = 6) || decide (k = 8))
def codeO (o : Opp) : Int := if o.kind < 1 ∨ 8 < o.kind then 1 else if o.n < 0 ∨ 255 < o.n ∨ 0 < o.n ∧ takesO o.kind = false then 3 else 0
def hasE (E : List Edg) (a b : Int) : Bool := decide (turn ⟨a, b⟩ ∈ E)
def triE (p : Pt) : Bool := p.edges.any fun e => (List.range p.labels.length).any fun v => hasE p.edges e.a v && hasE p.edges e.b v
def degP (p : Pt) (n : Int) : Bool := (List.range p.labels.length).all fun v => decide ((degE p.edges v : Int) ≤ n)
/-- by the program -/
def holdsO (o : Opp) (p : Pt) : Bool :=
  if o.kind = 1 then decide (p.edges.length = p.labels.length * (p.labels.length - 1) / 2)
  else if o.kind = 2 then !p.labels.any fun l => decide (o.n < l)
  else if o.kind = 3 then degP p o.n
  else if o.kind = 4 then decide ((p.labels.length : Int) ≤ o.n)
  else if o.kind = 5 then decide ((p.edges.length : Int) ≤ o.n)
  else if o.kind = 6 then decide ((setOf p.labels).length = p.labels.length)
  else if o.kind = 7 then !p.labels.any fun l => decide (l ≠ o.n)
  else !triE p
/-- all pairs -/
def prs : Nat → List Edg
  | 0 => []
  | n + 1 => prs n ++ (List.range n).map fun a => ⟨(a : Int), (n : Int)⟩
theorem mem_prs : ∀ {n : Nat} {e : Edg}, e ∈ prs n ↔ 0 ≤ e.a ∧ e.a < e.b ∧ e.b < (n : Int)
  | 0, e => by simp [prs]; omega
  | n + 1, e => by
    unfold prs
    rw [List.mem_append, mem_prs, List.mem_map]
    constructor
    · rintro (h | ⟨a, ha, rfl⟩)
      · omega
      · have := List.mem_range.1 ha; simp only; omega
    · rintro ⟨h1, h2, h3⟩
      by_cases h : e.b < (n : Int)
      · exact .inl ⟨h1, h2, h⟩
      · obtain ⟨a, b⟩ := e
        simp only at h1 h2 h3 h
        refine .inr ⟨a.toNat, List.mem_range.2 (by omega), ?_⟩
        rw [Int.toNat_of_nonneg h1, show b = (n : Int) by omega]
theorem prs_len : ∀ n, (prs n).length = n * (n - 1) / 2
  | 0 => rfl
  | n + 1 => by
    unfold prs
    rw [List.length_append, prs_len n, List.length_map, List.length_range, Nat.add_sub_cancel]
    have h : (n + 1) * n = n * (n - 1) + n * 2 := by
      cases n with
      | zero => rfl
      | succ n => rw [Nat.add_sub_cancel, ← Nat.mul_add, Nat.mul_comm]
    rw [h, Nat.add_mul_div_right _ _ (by decide)]
end Go.Gr
end

section
/- pat.Degree. -/
namespace Go.Gr
theorem degE_snoc {E : List Edg} {v : Int} {i : Nat} {x : Edg} (h : E[i]? = some x) : degE (E.take (i + 1)) v = degE (E.take i) v + if x.a = v ∨ x.b = v then 1 else 0 := by
  unfold degE
  rw [List.take_add_one, h, Option.toList_some, List.countP_append]
  congr 1
  by_cases hc : x.a = v ∨ x.b = v <;> simp [hc]
theorem degE_le (E : List Edg) (v : Int) (i : Nat) : degE (E.take i) v ≤ i := by
  unfold degE
  exact Nat.le_trans List.countP_le_length (by rw [List.length_take]; omega)
end Go.Gr
namespace Go.Proofs.YtaadeobcnamgdaaGreatDoor
open Go.Sx Go.RowKit Go.Reg Go.Gr

set_option maxRecDepth 100000
def pl_pdg : List (Nat × Plan) := []
def G_pdg : List FuncId := []
theorem cok_pdg : codeOk Tryz.prog G_pdg pl_pdg (Tryz.f278.body.getD .skip) = true := by kernel_rfl
theorem run_pdg (vs : Array Value) (w : World) : (callFunc 278 vs).run C1.P w = .ok (.enter 278 vs) w := by kernel_rfl
theorem pdegree_pure (p : Pt) (v : Int) (hme : p.edges.length ≤ 4294967296) : Pure C1 278 [dPt p, .int .i64 v] (fun y => y = .int .i64 (degE p.edges v : Nat)) := by
  have hde : (p.edges.map dE).length = p.edges.length := List.length_map _
  refine pure_of c1_ok (pl := pl_pdg) (G := G_pdg) Tryz.func278 rfl Tryz.ntmps278 run_pdg cok_pdg (by simp) ?_
  ((conv => whnf); repeat' ((first | refine odw ?_ | refine ify ?_ | refine ifn ?_ | refine i6 ?_ | refine ati ?_ | refine mst ?_ | refine rmd ?_ | refine ibo (fun _ => ?_) (fun _ => ?_)) <;> conv => whnf))
  refine loop_lo (ι := Nat) (fun i => i ≤ p.edges.length) (fun i => [(11, .d (.int .i64 i)), (10, .d (.int .i64 (p.edges.map dE).length)), (9, .d (dEs p.edges)), (5, .d (.int .i64 (degE (p.edges.take i) v : Nat))), (1, .d (.int .i64 v))]) (fun _ => []) (fun i => p.edges.length - i) 0 (fun _ => rfl) (Nat.zero_le _) (.refl _ _) ⟨rfl, rfl, rfl, rfl, rfl, trivial⟩ trivial ?_
  intro i hi
  refine sxCode_sound c1_ok (G := G_pdg) (pl := pl_pdg) _ _ _ _ (by kernel_rfl) ?_
  by_cases hil : i < p.edges.length
  · have hx := List.getElem?_eq_getElem hil
    generalize p.edges[i] = x at hx
    have hxd : (p.edges.map dE)[i]? = some (.agg [.int .i64 x.a, .int .i64 x.b]) := by rw [List.getElem?_map, hx]; rfl
    have hst := degE_snoc (v := v) hx
    have hle := degE_le p.edges v i
    by_cases h1 : x.a = v
    · rw [if_pos (.inl h1)] at hst
      (conv => whnf)
      (repeat' ((first | refine ord_ok (by (conv => whnf); (repeat' ((first | refine at_da hxd rfl ?_ | refine ify ?_ | refine ifn ?_ | refine i6 ?_ | refine ati ?_ | refine mst ?_ | refine rmd ?_ | refine ibo (fun _ => ?_) (fun _ => ?_)) <;> conv => whnf)); (all_goals (repeat' (first | exact trivial | exact rfl | refine And.intro ?_ ?_)))) ?_ | refine at_da hxd rfl ?_ | refine ify ?_ | refine ifn ?_ | refine i6 ?_ | refine ati ?_ | refine mst ?_ | refine rmd ?_ | refine ibo (fun _ => ?_) (fun _ => ?_)) <;> conv => whnf))
      exact ⟨i + 1, _, _, hil, .refl _ _, ⟨rfl, rfl, rfl, int_is (by omega), rfl, trivial⟩, trivial, by omega⟩
    · by_cases h2 : x.b = v
      · rw [if_pos (.inr h2)] at hst
        (conv => whnf)
        (repeat' ((first | refine ord_ok (by (conv => whnf); (repeat' ((first | refine at_da hxd rfl ?_ | refine ify ?_ | refine ifn ?_ | refine i6 ?_ | refine ati ?_ | refine mst ?_ | refine rmd ?_ | refine ibo (fun _ => ?_) (fun _ => ?_)) <;> conv => whnf)); (all_goals (repeat' (first | exact trivial | exact rfl | refine And.intro ?_ ?_)))) ?_ | refine at_da hxd rfl ?_ | refine ify ?_ | refine ifn ?_ | refine i6 ?_ | refine ati ?_ | refine mst ?_ | refine rmd ?_ | refine ibo (fun _ => ?_) (fun _ => ?_)) <;> conv => whnf))
        exact ⟨i + 1, _, _, hil, .refl _ _, ⟨rfl, rfl, rfl, int_is (by omega), rfl, trivial⟩, trivial, by omega⟩
      · rw [if_neg (by omega)] at hst
        (conv => whnf)
        (repeat' ((first | refine ord_ok (by (conv => whnf); (repeat' ((first | refine at_da hxd rfl ?_ | refine ify ?_ | refine ifn ?_ | refine i6 ?_ | refine ati ?_ | refine mst ?_ | refine rmd ?_ | refine ibo (fun _ => ?_) (fun _ => ?_)) <;> conv => whnf)); (all_goals (repeat' (first | exact trivial | exact rfl | refine And.intro ?_ ?_)))) ?_ | refine at_da hxd rfl ?_ | refine ify ?_ | refine ifn ?_ | refine i6 ?_ | refine ati ?_ | refine mst ?_ | refine rmd ?_ | refine ibo (fun _ => ?_) (fun _ => ?_)) <;> conv => whnf))
        exact ⟨i + 1, _, _, hil, .refl _ _, ⟨rfl, rfl, rfl, int_is (by omega), rfl, trivial⟩, trivial, by omega⟩
  · have e : p.edges.take i = p.edges := List.take_of_length_le (by omega)
    rw [e]
    ((conv => whnf); repeat' ((first | refine odw ?_ | refine ify ?_ | refine ifn ?_ | refine i6 ?_ | refine ati ?_ | refine mst ?_ | refine rmd ?_ | refine ibo (fun _ => ?_) (fun _ => ?_)) <;> conv => whnf))
    exact rfl
end Go.Proofs.YtaadeobcnamgdaaGreatDoor
end

section
/- prog: the walk: Name, right, Right, Test, First, Keeps; ref17.Right; law17.Of. -/
namespace Go.Gr
theorem idxG_at {α : Type} {l : List α} {p : α → Bool} {i : Nat} {x : α} (h : l[i]? = some x) (hx : p x = true) (hn : ∀ y ∈ l.take i, p y = false) : l.findIdx? p = some i := by
  have hil : i < l.length := by
    rcases Nat.lt_or_ge i l.length with g | g
    · exact g
    · rw [List.getElem?_eq_none g] at h; cases h
  rw [List.findIdx?_eq_some_iff_getElem]
  rw [List.getElem?_eq_getElem hil, Option.some.injEq] at h
  refine ⟨hil, by rw [h]; exact hx, fun j hj => ?_⟩
  have := hn (l[j]'(by omega)) (List.mem_take_iff_getElem.2 ⟨j, by omega, rfl⟩)
  simp [this]
theorem idxG_none {α : Type} {l : List α} {p : α → Bool} (h : ∀ y ∈ l, p y = false) : l.findIdx? p = none := by
  rw [List.findIdx?_eq_none_iff]; exact h
end Go.Gr
namespace Go.Proofs.YtaadeobcnamgdaaGreatDoor
open Go.Sx Go.RowKit Go.Reg Go.Gr

set_option maxRecDepth 100000
def dO (o : Opp) : Da := .agg [.int .i64 o.kind, .int .i64 o.n]
def dOs (l : List Opp) : Da := .list 2 (l.map dO)
def kindS : ByteArray := ⟨#[107, 105, 110, 100]⟩
def numS : ByteArray := ⟨#[110, 117, 109, 98, 101, 114]⟩
def nameO (k : Int) : List UInt8 := if k = 1 then [99, 108, 105, 113, 117, 101] else if k = 2 then [108, 97, 98, 101, 108, 115] else if k = 3 then [100, 101, 103, 114, 101, 101] else if k = 4 then [115, 105, 122, 101] else if k = 5 then [101, 100, 103, 101, 115] else if k = 6 then [117, 110, 108, 105, 107, 101] else if k = 7 then [111, 110, 108, 121] else if k = 8 then [102, 114, 101, 101] else []
def namesO : List Da := (List.range 8).map fun k : Nat => .str ⟨(nameO ((k : Int) + 1)).toArray⟩
theorem namesO_at {i : Nat} (h : i < 8) : namesO[i]? = some (.str ⟨(nameO ((i : Int) + 1)).toArray⟩) := by
  unfold namesO
  rw [List.getElem?_map, List.getElem?_range h]; rfl
def pl_pgnm : List (Nat × Plan) := []
def G_pgnm : List FuncId := []
theorem cok_pgnm : codeOk Tryz.prog G_pgnm pl_pgnm (Tryz.f245.body.getD .skip) = true := by kernel_rfl
theorem run_pgnm (vs : Array Value) (w : World) : (callFunc 245 vs).run C1.P w = .ok (.enter 245 vs) w := by kernel_rfl
theorem pnames_pure : Pure C1 245 [] (fun y => y = .list 1 namesO) := by
  refine pure_of c1_ok (pl := pl_pgnm) (G := G_pgnm) Tryz.func245 rfl Tryz.ntmps245 run_pgnm cok_pgnm (by simp) ?_
  ((conv => whnf); repeat' ((first | refine odw ?_ | refine ify ?_ | refine ifn ?_ | refine i6 ?_ | refine ati ?_ | refine mst ?_ | refine rmd ?_ | refine ibo (fun _ => ?_) (fun _ => ?_)) <;> conv => whnf))
  exact rfl
def pl_pgna : List (Nat × Plan) := []
def G_pgna : List FuncId := [245]
theorem cok_pgna : codeOk Tryz.prog G_pgna pl_pgna (Tryz.f214.body.getD .skip) = true := by kernel_rfl
theorem run_pgna (vs : Array Value) (w : World) : (callFunc 214 vs).run C1.P w = .ok (.enter 214 vs) w := by kernel_rfl
theorem pname_pure (k : Int) : Pure C1 214 [.int .i64 k] (fun y => y = .str ⟨(nameO k).toArray⟩) := by
  have hn := pnames_pure
  have hl : namesO.length = 8 := rfl
  refine pure_of c1_ok (pl := pl_pgna) (G := G_pgna) Tryz.func214 rfl Tryz.ntmps214 run_pgna cok_pgna (by simp) ?_
  by_cases hk : 1 ≤ k ∧ k ≤ 8
  · have hx := namesO_at (i := (k - 1).toNat) (by omega)
    rw [show (((k - 1).toNat : Nat) : Int) + 1 = k by omega] at hx
    (conv => whnf)
    (repeat' ((first | refine ord_ok (by (conv => whnf); (repeat' ((first | refine call_eq rfl hn ?_ | refine at_da hx (by omega) ?_ | refine ify ?_ | refine ifn ?_ | refine i6 ?_ | refine ati ?_ | refine mst ?_ | refine rmd ?_ | refine ibo (fun _ => ?_) (fun _ => ?_)) <;> conv => whnf)); (all_goals (repeat' (first | exact trivial | exact rfl | refine And.intro ?_ ?_)))) ?_ | refine call_eq rfl hn ?_ | refine at_da hx (by omega) ?_ | refine ify ?_ | refine ifn ?_ | refine i6 ?_ | refine ati ?_ | refine mst ?_ | refine rmd ?_ | refine ibo (fun _ => ?_) (fun _ => ?_)) <;> conv => whnf))
    exact rfl
  · have e : nameO k = [] := by unfold nameO; repeat rw [if_neg (by omega)]
    rw [e]
    (conv => whnf)
    (repeat' ((first | refine ord_ok (by (conv => whnf); (repeat' ((first | refine call_eq rfl hn ?_ | refine ify ?_ | refine ifn ?_ | refine i6 ?_ | refine ati ?_ | refine mst ?_ | refine rmd ?_ | refine ibo (fun _ => ?_) (fun _ => ?_)) <;> conv => whnf)); (all_goals (repeat' (first | exact trivial | exact rfl | refine And.intro ?_ ?_)))) ?_ | refine call_eq rfl hn ?_ | refine ify ?_ | refine ifn ?_ | refine i6 ?_ | refine ati ?_ | refine mst ?_ | refine rmd ?_ | refine ibo (fun _ => ?_) (fun _ => ?_)) <;> conv => whnf))
    all_goals exact rfl
def pl_pgtk : List (Nat × Plan) := []
def G_pgtk : List FuncId := []
theorem cok_pgtk : codeOk Tryz.prog G_pgtk pl_pgtk (Tryz.f215.body.getD .skip) = true := by kernel_rfl
theorem run_pgtk (vs : Array Value) (w : World) : (callFunc 215 vs).run C1.P w = .ok (.enter 215 vs) w := by kernel_rfl
theorem ptakes_pure (k : Int) : Pure C1 215 [.int .i64 k] (fun y => y = .bool (takesO k)) := by
  refine pure_of c1_ok (pl := pl_pgtk) (G := G_pgtk) Tryz.func215 rfl Tryz.ntmps215 run_pgtk cok_pgtk (by simp) ?_
  by_cases h1 : k = 1
  · subst h1; ((conv => whnf); repeat' ((first | refine odw ?_ | refine ify ?_ | refine ifn ?_ | refine i6 ?_ | refine ati ?_ | refine mst ?_ | refine rmd ?_ | refine ibo (fun _ => ?_) (fun _ => ?_)) <;> conv => whnf)); exact rfl
  by_cases h6 : k = 6
  · subst h6; ((conv => whnf); repeat' ((first | refine odw ?_ | refine ify ?_ | refine ifn ?_ | refine i6 ?_ | refine ati ?_ | refine mst ?_ | refine rmd ?_ | refine ibo (fun _ => ?_) (fun _ => ?_)) <;> conv => whnf)); exact rfl
  by_cases h8 : k = 8
  · subst h8; ((conv => whnf); repeat' ((first | refine odw ?_ | refine ify ?_ | refine ifn ?_ | refine i6 ?_ | refine ati ?_ | refine mst ?_ | refine rmd ?_ | refine ibo (fun _ => ?_) (fun _ => ?_)) <;> conv => whnf)); exact rfl
  have e : takesO k = true := by unfold takesO; simp [h1, h6, h8]
  rw [e]
  ((conv => whnf); repeat' ((first | refine odw ?_ | refine ify ?_ | refine ifn ?_ | refine i6 ?_ | refine ati ?_ | refine mst ?_ | refine rmd ?_ | refine ibo (fun _ => ?_) (fun _ => ?_)) <;> conv => whnf))
  exact rfl
def rightY (o : Opp) (at_ : Int) : Da := if codeO o = 0 then .nili else dF (codeO o) at_ (if codeO o = 1 then kindS else numS)
theorem name_ne {k : Int} (h : 1 ≤ k ∧ k ≤ 8) : ∃ c t, nameO k = c :: t := by
  have hk : k = 1 ∨ k = 2 ∨ k = 3 ∨ k = 4 ∨ k = 5 ∨ k = 6 ∨ k = 7 ∨ k = 8 := by omega
  rcases hk with rfl | rfl | rfl | rfl | rfl | rfl | rfl | rfl <;> exact ⟨_, _, rfl⟩
def pl_pgr : List (Nat × Plan) := []
def G_pgr : List FuncId := [214, 215]
theorem cok_pgr : codeOk Tryz.prog G_pgr pl_pgr (Tryz.f154.body.getD .skip) = true := by kernel_rfl
theorem run_pgr (vs : Array Value) (w : World) : (callFunc 154 vs).run C1.P w = .ok (.enter 154 vs) w := by kernel_rfl
theorem pright1_pure (o : Opp) (a : Int) : Pure C1 154 [dO o, .int .i64 a] (fun y => y = rightY o a) := by
  have hn := pname_pure o.kind
  have ht := ptakes_pure o.kind
  have hf1 := fnew_pure 1 a kindS
  have hf3 := fnew_pure 3 a numS
  refine pure_of c1_ok (pl := pl_pgr) (G := G_pgr) Tryz.func154 rfl Tryz.ntmps154 run_pgr cok_pgr (by simp) ?_
  by_cases hk : 1 ≤ o.kind ∧ o.kind ≤ 8
  · obtain ⟨c, t, hct⟩ := name_ne hk
    rw [hct] at hn
    have hsn : ¬ ({ data := (c :: t).toArray } : ByteArray) = { data := #[] } := fun h => by simp at h
    by_cases hr : o.n < 0 ∨ 255 < o.n ∨ 0 < o.n ∧ takesO o.kind = false
    · have e : rightY o a = dF 3 a numS := by
        unfold rightY codeO
        rw [if_neg (show ¬ (o.kind < 1 ∨ 8 < o.kind) by omega), if_pos hr]; rfl
      rw [e]
      cases htk : takesO o.kind <;> rw [htk] at ht hr <;>
      · (conv => whnf)
        (repeat' ((first | refine ord_ok (by (conv => whnf); (repeat' ((first | refine if_no hsn ?_ | refine call_eq rfl hn ?_ | refine call_eq rfl ht ?_ | refine call_eq rfl hf3 ?_ | refine ify ?_ | refine ifn ?_ | refine i6 ?_ | refine ati ?_ | refine mst ?_ | refine rmd ?_ | refine ibo (fun _ => ?_) (fun _ => ?_)) <;> conv => whnf)); (all_goals (repeat' (first | exact trivial | exact rfl | refine And.intro ?_ ?_)))) ?_ | refine if_no hsn ?_ | refine call_eq rfl hn ?_ | refine call_eq rfl ht ?_ | refine call_eq rfl hf3 ?_ | refine ify ?_ | refine ifn ?_ | refine i6 ?_ | refine ati ?_ | refine mst ?_ | refine rmd ?_ | refine ibo (fun _ => ?_) (fun _ => ?_)) <;> conv => whnf))
        all_goals first | exact rfl | (exfalso; simp at hr; omega)
    · have e : rightY o a = .nili := by
        unfold rightY codeO
        rw [if_neg (show ¬ (o.kind < 1 ∨ 8 < o.kind) by omega), if_neg hr]; rfl
      rw [e]
      cases htk : takesO o.kind <;> rw [htk] at ht hr <;>
      · (conv => whnf)
        (repeat' ((first | refine ord_ok (by (conv => whnf); (repeat' ((first | refine if_no hsn ?_ | refine call_eq rfl hn ?_ | refine call_eq rfl ht ?_ | refine call_eq rfl hf3 ?_ | refine ify ?_ | refine ifn ?_ | refine i6 ?_ | refine ati ?_ | refine mst ?_ | refine rmd ?_ | refine ibo (fun _ => ?_) (fun _ => ?_)) <;> conv => whnf)); (all_goals (repeat' (first | exact trivial | exact rfl | refine And.intro ?_ ?_)))) ?_ | refine if_no hsn ?_ | refine call_eq rfl hn ?_ | refine call_eq rfl ht ?_ | refine call_eq rfl hf3 ?_ | refine ify ?_ | refine ifn ?_ | refine i6 ?_ | refine ati ?_ | refine mst ?_ | refine rmd ?_ | refine ibo (fun _ => ?_) (fun _ => ?_)) <;> conv => whnf))
        all_goals first | exact rfl | (exfalso; simp at hr; omega)
  · have e1 : nameO o.kind = [] := by unfold nameO; repeat rw [if_neg (by omega)]
    have e : rightY o a = dF 1 a kindS := by
      unfold rightY codeO
      rw [if_pos (show (o.kind < 1 ∨ 8 < o.kind) by omega)]; rfl
    rw [e1] at hn
    rw [e]
    (conv => whnf)
    (repeat' ((first | refine ord_ok (by (conv => whnf); (repeat' ((first | refine call_eq rfl hn ?_ | refine call_eq rfl hf1 ?_ | refine ify ?_ | refine ifn ?_ | refine i6 ?_ | refine ati ?_ | refine mst ?_ | refine rmd ?_ | refine ibo (fun _ => ?_) (fun _ => ?_)) <;> conv => whnf)); (all_goals (repeat' (first | exact trivial | exact rfl | refine And.intro ?_ ?_)))) ?_ | refine call_eq rfl hn ?_ | refine call_eq rfl hf1 ?_ | refine ify ?_ | refine ifn ?_ | refine i6 ?_ | refine ati ?_ | refine mst ?_ | refine rmd ?_ | refine ibo (fun _ => ?_) (fun _ => ?_)) <;> conv => whnf))
    all_goals exact rfl
end Go.Proofs.YtaadeobcnamgdaaGreatDoor
end
