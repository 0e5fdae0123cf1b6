/- Merged: Grg Grh Grk Rfa Smi Pte. -/
import Derived.Test.YthegabgbakckfaaGreatDoorGrd
import Derived.Test.YthegabgbakckfaaGreatDoorGre
import Derived.Test.YthegabgbakckfaaGreatDoorFal
import Derived.Test.YthegabgbakckfaaGreatDoorAts
import Derived.Test.YthegabgbakckfaaGreatDoorZpa
section
/- Graphs: New. -/
namespace Go.Proofs.YthegabgbakckfaaGreatDoor
open Go.Sx Go.RowKit Go.Reg Go.Gr

set_option maxRecDepth 100000
/-! ### the map of edges that came -/
theorem part_intE (cs : Array Value) (i : Nat) (v : Value) (h : cs[i]? = some v) (w : World) : (part 3 cs i).run Tryz.prog w = .ok v w := by
  have e : (isAgg 3).run Tryz.prog w = .ok false w := by kernel_rfl
  simp [part, e, h]
theorem int_equalE (n : Nat) (a b : Int) (w : World) : (Op.equalIn (n + 1) 3 (.int .i64 a) (.int .i64 b)).run Tryz.prog w = .ok (a == b) w := by
  simp [Op.equalIn, run_underlying Tryz.underlying3]
theorem edge_equalIn (n : Nat) (k k' : Edg) (w : World) : (Op.equalIn (n + 2) 77 (valE k) (valE k')).run Tryz.prog w = .ok (decide (k = k')) w := by
  obtain ⟨a, b⟩ := k
  obtain ⟨c, d⟩ := k'
  unfold Op.equalIn
  simp [run_underlying Tryz.underlying77, valE, program, Sem.run, part_intE]
  simp only [int_equalE, Result.andThen_ok]
  by_cases h1 : a = c <;> by_cases h2 : b = d <;> simp [h1, h2]
theorem edge_equal (k k' : Edg) (w : World) : (Op.equal 77 (valE k) (valE k')).run Tryz.prog w = .ok (decide (k = k')) w := edge_equalIn 9998 k k' w
theorem edge_check (em : Bool) (k : Edg) (w : World) : (Instr.checkKey em 10000 77 (valE k)).run Tryz.prog w = .ok () w := by
  obtain ⟨a, b⟩ := k; kernel_rfl
theorem edgeOk : KeyOk Tryz.prog 77 valE :=
  KeyOk.of_equal Tryz.underlying77 (fun _ _ => rfl) edge_check (fun k k' w => edge_equal k k' w) (fun ⟨a, b⟩ => by simp [valE, Instr.sameBits])
def edgM : MapE C1.P Edg Bool where
  t := 163
  kt := 77
  et := 4
  encK := valE
  encV := .bool
  dK := dE
  dV := .bool
  z := false
  ht := Tryz.underlying163
  hk := edgeOk
  hz := by intro w; kernel_rfl
  repK := by
    rintro O w k v ⟨cs, h, rfl⟩
    simp only [dE, RepC, RepCs] at h
    obtain ⟨_, _, rfl, rfl, _, _, rfl, rfl, rfl⟩ := h
    rfl
  repV := by
    rintro O w x v ⟨cs, h, rfl⟩
    simp only [RepC] at h
    subst h; rfl
  ofV := fun O w x => ⟨[.bool x], by simp [RepC], rfl⟩
def seenOf (l : List Edg) : List (Edg × Bool) := l.foldl (fun m e => Reg.put m e true) []
theorem seenOf_snoc (l : List Edg) (e : Edg) : seenOf (l ++ [e]) = Reg.put (seenOf l) e true := by simp [seenOf, List.foldl_append]
theorem take_snoc' {E : List Edg} {i : Nat} {e : Edg} (h : E[i]? = some e) : E.take (i + 1) = E.take i ++ [e] := take_snoc h
theorem seen_get (l : List Edg) (q : Edg) : (Reg.get (seenOf l) q).getD false = decide (q ∈ l) := by
  have key : ∀ l : List Edg, Reg.get (seenOf l.reverse) q = if q ∈ l then some true else none := by
    intro l
    induction l with
    | nil => rfl
    | cons e l ih =>
      rw [List.reverse_cons, seenOf_snoc, Reg.get_put, ih]
      by_cases h : e = q
      · simp [h]
      · have h' : ¬ q = e := fun x => h x.symm
        simp [h, h']
  have := key l.reverse
  rw [List.reverse_reverse] at this
  rw [this]
  by_cases h : q ∈ l <;> simp [h]

theorem seen_look (l : List Edg) (q : Edg) : (Reg.get (seenOf l) q).getD edgM.z = decide (q ∈ l) := seen_get l q
/-! ### New -/
def graphS : ByteArray := ⟨#[103, 114, 97, 112, 104]⟩
def labelS : ByteArray := ⟨#[108, 97, 98, 101, 108]⟩
def edgeS : ByteArray := ⟨#[101, 100, 103, 101]⟩
def dG (G : Gr) : Da := .ref (.agg [dIs G.labels, dEs G.edges, dIs (firstL G.labels.length G.edges), dIs (nearL G.labels.length G.edges), dIs (idsL G.labels.length G.edges)])
/-- the error of a fault -/
def errD : Int × Int × Bool → Da
  | (c, a, true) => dS edgeS (dF c a edgeS)
  | (c, a, false) => dF c a (if c = 6 then graphS else labelS)
def newY (labels : List Int) (edges : List Edg) : Da := match newErr labels edges with
  | some x => .tuple [.nilp, errD x]
  | none => .tuple [dG ⟨labels, canon edges⟩, .nili]
theorem newY_some {labels : List Int} {edges : List Edg} {x : Int × Int × Bool} (h : newErr labels edges = some x) : newY labels edges = .tuple [.nilp, errD x] := by
  unfold newY; rw [h]
theorem newY_none {labels : List Int} {edges : List Edg} (h : newErr labels edges = none) : newY labels edges = .tuple [dG ⟨labels, canon edges⟩, .nili] := by
  unfold newY; rw [h]
def pl_new : List (Nat × Plan) := [(18, .leaf [0, 0, 0, 0, 1, 1, 2, 6, 3, 0, 0, 3] [0, 1, 2, 3, 4, 5, 6, 7, 8, 9, 10, 11] [0, 0, 2, 6, 14, 0, 32, 96, 254, 511, 1023, 2047])]
def G_new : List FuncId := [123]
theorem cok_new : codeOk Tryz.prog G_new pl_new (Tryz.f58.body.getD .skip) = true := by kernel_rfl
theorem run_new (vs : Array Value) (w : World) : (callFunc 58 vs).run C1.P w = .ok (.enter 58 vs) w := by kernel_rfl
def pl_check : List (Nat × Plan) := []
def G_check : List FuncId := []
theorem cok_check : codeOk Tryz.prog G_check pl_check (Tryz.f122.body.getD .skip) = true := by kernel_rfl
theorem run_check (vs : Array Value) (w : World) : (callFunc 122 vs).run C1.P w = .ok (.enter 122 vs) w := by kernel_rfl
set_option maxHeartbeats 4000000 in
theorem new_pure (labels : List Int) (edges : List Edg) : Pure C1 58 [dIs labels, dEs edges] (fun y => y = newY labels edges) := by
  have hll : (labels.map dI).length = labels.length := List.length_map _
  have hel : (edges.map dE).length = edges.length := List.length_map _
  refine pure_of c1_ok (pl := pl_new) (G := G_new) Tryz.func58 rfl Tryz.ntmps58 run_new cok_new (by simp) ?_
  by_cases h1 : 4096 < labels.length
  · rw [newY_some (newErr_large (.inl h1))]
    ((conv => whnf); repeat' ((first | refine odw ?_ | refine ify ?_ | refine ifn ?_ | refine i6 ?_ | refine ati ?_ | refine mst ?_ | refine rmd ?_ | refine ibo (fun _ => ?_) (fun _ => ?_)) <;> conv => whnf))
    refine call_pure rfl (fnew_pure 6 0 graphS) ?_; rintro y rfl
    ((conv => whnf); repeat' ((first | refine odw ?_ | refine ify ?_ | refine ifn ?_ | refine i6 ?_ | refine ati ?_ | refine mst ?_ | refine rmd ?_ | refine ibo (fun _ => ?_) (fun _ => ?_)) <;> conv => whnf))
    exact rfl
  by_cases h2 : 16384 < edges.length
  · rw [newY_some (newErr_large (.inr h2))]
    ((conv => whnf); repeat' ((first | refine odw ?_ | refine ify ?_ | refine ifn ?_ | refine i6 ?_ | refine ati ?_ | refine mst ?_ | refine rmd ?_ | refine ibo (fun _ => ?_) (fun _ => ?_)) <;> conv => whnf))
    refine call_pure rfl (fnew_pure 6 0 graphS) ?_; rintro y rfl
    ((conv => whnf); repeat' ((first | refine odw ?_ | refine ify ?_ | refine ifn ?_ | refine i6 ?_ | refine ati ?_ | refine mst ?_ | refine rmd ?_ | refine ibo (fun _ => ?_) (fun _ => ?_)) <;> conv => whnf))
    exact rfl
  have h0 : ¬ (4096 < labels.length ∨ 16384 < edges.length) := by omega
  ((conv => whnf); repeat' ((first | refine odw ?_ | refine ify ?_ | refine ifn ?_ | refine i6 ?_ | refine ati ?_ | refine mst ?_ | refine rmd ?_ | refine ibo (fun _ => ?_) (fun _ => ?_)) <;> conv => whnf))
  refine loop_lo (ι := Nat) (fun v => v ≤ labels.length ∧ ∀ x ∈ labels.take v, badLabel x = false) (fun v => [(24, .d (.int .i64 v)), (23, .d (.int .i64 (labels.map dI).length)), (22, .d (dIs labels)), (1, .d (dEs edges)), (0, .d (dIs labels))])
    (fun _ => []) (fun v => labels.length - v) 0 (fun _ => rfl) ⟨Nat.zero_le _, by simp⟩ (.refl _ _) ⟨rfl, rfl, rfl, rfl, rfl, trivial⟩ trivial ?_
  rintro v ⟨hv, hgood⟩
  refine sxCode_sound c1_ok (G := G_new) (pl := pl_new) _ _ _ _ (by kernel_rfl) ?_
  by_cases hlt : v < labels.length
  · have hx := List.getElem?_eq_getElem hlt
    generalize labels[v] = x at hx
    have hxd : (labels.map dI)[v]? = some (.int .i64 x) := by rw [List.getElem?_map, hx]; rfl
    by_cases b1 : x < 0
    · have hb : badLabel x = true := by simp [badLabel, b1]
      rw [newY_some (newErr_label h0 hx hb hgood)]
      (repeat' ((first | refine ord_ok (by (conv => whnf); (repeat' ((first | refine at_da hxd (by omega) ?_ | refine ify ?_ | refine ifn ?_ | refine i6 ?_ | refine ati ?_ | refine mst ?_ | refine rmd ?_ | refine ibo (fun _ => ?_) (fun _ => ?_)) <;> conv => whnf)); (all_goals (repeat' (first | exact trivial | exact rfl | refine And.intro ?_ ?_)))) ?_ | refine at_da hxd (by omega) ?_ | refine ify ?_ | refine ifn ?_ | refine i6 ?_ | refine ati ?_ | refine mst ?_ | refine rmd ?_ | refine ibo (fun _ => ?_) (fun _ => ?_)) <;> conv => whnf))
      refine call_pure rfl (fnew_pure 3 v labelS) ?_; rintro y rfl
      ((conv => whnf); repeat' ((first | refine odw ?_ | refine ify ?_ | refine ifn ?_ | refine i6 ?_ | refine ati ?_ | refine mst ?_ | refine rmd ?_ | refine ibo (fun _ => ?_) (fun _ => ?_)) <;> conv => whnf))
      exact rfl
    by_cases b2 : 255 < x
    · have hb : badLabel x = true := by simp [badLabel, b2]
      rw [newY_some (newErr_label h0 hx hb hgood)]
      (repeat' ((first | refine ord_ok (by (conv => whnf); (repeat' ((first | refine at_da hxd (by omega) ?_ | refine ify ?_ | refine ifn ?_ | refine i6 ?_ | refine ati ?_ | refine mst ?_ | refine rmd ?_ | refine ibo (fun _ => ?_) (fun _ => ?_)) <;> conv => whnf)); (all_goals (repeat' (first | exact trivial | exact rfl | refine And.intro ?_ ?_)))) ?_ | refine at_da hxd (by omega) ?_ | refine ify ?_ | refine ifn ?_ | refine i6 ?_ | refine ati ?_ | refine mst ?_ | refine rmd ?_ | refine ibo (fun _ => ?_) (fun _ => ?_)) <;> conv => whnf))
      refine call_pure rfl (fnew_pure 3 v labelS) ?_; rintro y rfl
      ((conv => whnf); repeat' ((first | refine odw ?_ | refine ify ?_ | refine ifn ?_ | refine i6 ?_ | refine ati ?_ | refine mst ?_ | refine rmd ?_ | refine ibo (fun _ => ?_) (fun _ => ?_)) <;> conv => whnf))
      exact rfl
    · have hb : badLabel x = false := by simp [badLabel]; omega
      (repeat' ((first | refine ord_ok (by (conv => whnf); (repeat' ((first | refine at_da hxd (by omega) ?_ | refine ify ?_ | refine ifn ?_ | refine i6 ?_ | refine ati ?_ | refine mst ?_ | refine rmd ?_ | refine ibo (fun _ => ?_) (fun _ => ?_)) <;> conv => whnf)); (all_goals (repeat' (first | exact trivial | exact rfl | refine And.intro ?_ ?_)))) ?_ | refine at_da hxd (by omega) ?_ | refine ify ?_ | refine ifn ?_ | refine i6 ?_ | refine ati ?_ | refine mst ?_ | refine rmd ?_ | refine ibo (fun _ => ?_) (fun _ => ?_)) <;> conv => whnf))
      refine ⟨v + 1, _, _, ⟨hlt, ?_⟩, .refl _ _, ⟨rfl, rfl, rfl, rfl, rfl, trivial⟩, trivial, by omega⟩
      intro z hz
      rw [List.take_add_one, hx] at hz
      rcases List.mem_append.1 hz with hz | hz
      · exact hgood z hz
      · simp at hz; subst hz; exact hb
  · have hve : labels.take v = labels := List.take_of_length_le (by omega)
    rw [hve] at hgood
    have hvn : v = labels.length := by omega
    subst hvn
    clear hve hv hlt
    ((conv => whnf); repeat' ((first | refine odw ?_ | refine ify ?_ | refine ifn ?_ | refine i6 ?_ | refine ati ?_ | refine mst ?_ | refine rmd ?_ | refine ibo (fun _ => ?_) (fun _ => ?_)) <;> conv => whnf))
    refine op_makeMap edgM 38 rfl rfl (.inr rfl) rfl ?_
    ((conv => whnf); repeat' ((first | refine odw ?_ | refine ify ?_ | refine ifn ?_ | refine i6 ?_ | refine ati ?_ | refine mst ?_ | refine rmd ?_ | refine ibo (fun _ => ?_) (fun _ => ?_)) <;> conv => whnf))
    refine call_mksl 40 rfl rfl (clone_sl labels (by omega)) ?_; rintro ds rfl
    ((conv => whnf); repeat' ((first | refine odw ?_ | refine ify ?_ | refine ifn ?_ | refine i6 ?_ | refine ati ?_ | refine mst ?_ | refine rmd ?_ | refine ibo (fun _ => ?_) (fun _ => ?_)) <;> conv => whnf))
    refine loop_lo (ι := Nat) (fun i => i ≤ edges.length ∧ ∀ j, j < i → ecodeAt labels.length edges j = 0) (fun i => [(45, .d (.int .i64 i)), (44, .d (.int .i64 (edges.map dE).length)), (43, .d (dEs edges)), (9, .own 42), (8, .own 38), (0, .d (dIs labels))])
      (fun i => [(38, (edgM.obj (seenOf ((edges.take i).map turn))).own), (42, .cells 152 [.d (dIs labels), .own 300, .d .nils, .d .nils, .d .nils]), (300, .slice 77 2 (((edges.take i).map turn).map dE))])
      (fun i => edges.length - i) 0 (fun _ => rfl) ⟨Nat.zero_le _, fun j hj => absurd hj (Nat.not_lt_zero j)⟩ (.frz 40 rfl (.ownc 42 300 77 2 rfl rfl (.there _ (.here _)) (.refl _ _))) ⟨rfl, rfl, rfl, rfl, rfl, rfl, trivial⟩ ⟨rfl, rfl, rfl, trivial⟩ ?_
    rintro i ⟨hi, hcode⟩
    refine sxCode_sound c1_ok (G := G_new) (pl := pl_new) _ _ _ _ (by kernel_rfl) ?_
    by_cases hlt : i < edges.length
    · have hx := List.getElem?_eq_getElem hlt
      have htl : (((edges.take i).map turn).map dE).length = i := by rw [List.length_map, List.length_map, List.length_take]; omega
      have hec : ecodeAt labels.length edges i = ecode labels.length ((edges.take i).map turn) edges[i] := by unfold ecodeAt; rw [hx]
      generalize edges[i] = e at hx hec
      have hxd : (edges.map dE)[i]? = some (.agg [.int .i64 e.a, .int .i64 e.b]) := by rw [List.getElem?_map, hx]; rfl
      have hSl : ((edges.take i).map turn).length = i := by rw [List.length_map, List.length_take]; omega
      generalize hS : (edges.take i).map turn = S at hec htl hSl ⊢
      (repeat' ((first | refine ord_ok (by (conv => whnf); (repeat' ((first | refine at_da hxd (by omega) ?_ | refine ify ?_ | refine ifn ?_ | refine i6 ?_ | refine ati ?_ | refine mst ?_ | refine rmd ?_ | refine ibo (fun _ => ?_) (fun _ => ?_)) <;> conv => whnf)); (all_goals (repeat' (first | exact trivial | exact rfl | refine And.intro ?_ ?_)))) ?_ | refine at_da hxd (by omega) ?_ | refine ify ?_ | refine ifn ?_ | refine i6 ?_ | refine ati ?_ | refine mst ?_ | refine rmd ?_ | refine ibo (fun _ => ?_) (fun _ => ?_)) <;> conv => whnf))
      refine call_inline 200 [(45, .d (.int .i64 i)), (44, .d (.int .i64 (edges.map dE).length)), (43, .d (dEs edges)), (10, .d (.int .i64 i)), (11, .own 11), (9, .own 42), (8, .own 38), (0, .d (dIs labels))] c1_ok (pl := pl_check) (G := G_check) Tryz.func122 rfl Tryz.ntmps122 run_check cok_check (Nat.le_of_ble_eq_true rfl) rfl ⟨rfl, rfl, rfl, rfl, rfl, rfl, rfl, rfl, trivial⟩ rfl ?_
      intro us
      by_cases c1 : min e.a e.b < 0
      · have hc : ecodeAt labels.length edges i = 3 := by rw [hec]; unfold ecode; rw [if_pos (.inl c1)]
        rw [newY_some (newErr_edge h0 hgood hlt (by rw [hc]; decide) hcode), hc]
        ((conv => whnf); repeat' ((first | refine odw ?_ | refine ify ?_ | refine ifn ?_ | refine i6 ?_ | refine ati ?_ | refine mst ?_ | refine rmd ?_ | refine ibo (fun _ => ?_) (fun _ => ?_)) <;> conv => whnf))
        refine call_pure rfl (fnew_pure 3 i edgeS) ?_; rintro y rfl
        ((conv => whnf); repeat' ((first | refine odw ?_ | refine ify ?_ | refine ifn ?_ | refine i6 ?_ | refine ati ?_ | refine mst ?_ | refine rmd ?_ | refine ibo (fun _ => ?_) (fun _ => ?_)) <;> conv => whnf))
        refine call_pure rfl (in_f_pure edgeS 3 i edgeS) ?_; rintro y rfl
        (repeat' ((first | refine ord_ok (by (conv => whnf); (repeat' ((first | refine same_ok ?_ | refine ify ?_ | refine ifn ?_ | refine i6 ?_ | refine ati ?_ | refine mst ?_ | refine rmd ?_ | refine ibo (fun _ => ?_) (fun _ => ?_)) <;> conv => whnf)); (all_goals (repeat' (first | exact trivial | exact rfl | refine And.intro ?_ ?_)))) ?_ | refine same_ok ?_ | refine ify ?_ | refine ifn ?_ | refine i6 ?_ | refine ati ?_ | refine mst ?_ | refine rmd ?_ | refine ibo (fun _ => ?_) (fun _ => ?_)) <;> conv => whnf))
        exact rfl
      by_cases c2 : (labels.length : Int) ≤ max e.a e.b
      · have hc : ecodeAt labels.length edges i = 3 := by rw [hec]; unfold ecode; rw [if_pos (.inr c2)]
        rw [newY_some (newErr_edge h0 hgood hlt (by rw [hc]; decide) hcode), hc]
        ((conv => whnf); repeat' ((first | refine odw ?_ | refine ify ?_ | refine ifn ?_ | refine i6 ?_ | refine ati ?_ | refine mst ?_ | refine rmd ?_ | refine ibo (fun _ => ?_) (fun _ => ?_)) <;> conv => whnf))
        refine call_pure rfl (fnew_pure 3 i edgeS) ?_; rintro y rfl
        ((conv => whnf); repeat' ((first | refine odw ?_ | refine ify ?_ | refine ifn ?_ | refine i6 ?_ | refine ati ?_ | refine mst ?_ | refine rmd ?_ | refine ibo (fun _ => ?_) (fun _ => ?_)) <;> conv => whnf))
        refine call_pure rfl (in_f_pure edgeS 3 i edgeS) ?_; rintro y rfl
        (repeat' ((first | refine ord_ok (by (conv => whnf); (repeat' ((first | refine same_ok ?_ | refine ify ?_ | refine ifn ?_ | refine i6 ?_ | refine ati ?_ | refine mst ?_ | refine rmd ?_ | refine ibo (fun _ => ?_) (fun _ => ?_)) <;> conv => whnf)); (all_goals (repeat' (first | exact trivial | exact rfl | refine And.intro ?_ ?_)))) ?_ | refine same_ok ?_ | refine ify ?_ | refine ifn ?_ | refine i6 ?_ | refine ati ?_ | refine mst ?_ | refine rmd ?_ | refine ibo (fun _ => ?_) (fun _ => ?_)) <;> conv => whnf))
        exact rfl
      by_cases c3 : e.a = e.b
      · have hc : ecodeAt labels.length edges i = 1 := by rw [hec]; unfold ecode; rw [if_neg (by omega), if_pos c3]
        rw [newY_some (newErr_edge h0 hgood hlt (by rw [hc]; decide) hcode), hc]
        ((conv => whnf); repeat' ((first | refine odw ?_ | refine ify ?_ | refine ifn ?_ | refine i6 ?_ | refine ati ?_ | refine mst ?_ | refine rmd ?_ | refine ibo (fun _ => ?_) (fun _ => ?_)) <;> conv => whnf))
        refine call_pure rfl (fnew_pure 1 i edgeS) ?_; rintro y rfl
        ((conv => whnf); repeat' ((first | refine odw ?_ | refine ify ?_ | refine ifn ?_ | refine i6 ?_ | refine ati ?_ | refine mst ?_ | refine rmd ?_ | refine ibo (fun _ => ?_) (fun _ => ?_)) <;> conv => whnf))
        refine call_pure rfl (in_f_pure edgeS 1 i edgeS) ?_; rintro y rfl
        (repeat' ((first | refine ord_ok (by (conv => whnf); (repeat' ((first | refine same_ok ?_ | refine ify ?_ | refine ifn ?_ | refine i6 ?_ | refine ati ?_ | refine mst ?_ | refine rmd ?_ | refine ibo (fun _ => ?_) (fun _ => ?_)) <;> conv => whnf)); (all_goals (repeat' (first | exact trivial | exact rfl | refine And.intro ?_ ?_)))) ?_ | refine same_ok ?_ | refine ify ?_ | refine ifn ?_ | refine i6 ?_ | refine ati ?_ | refine mst ?_ | refine rmd ?_ | refine ibo (fun _ => ?_) (fun _ => ?_)) <;> conv => whnf))
        exact rfl
      by_cases c4 : turn e ∈ S
      · have hc : ecodeAt labels.length edges i = 4 := by rw [hec]; unfold ecode; rw [if_neg (by omega), if_neg c3, if_pos c4]
        rw [newY_some (newErr_edge h0 hgood hlt (by rw [hc]; decide) hcode), hc]
        ((conv => whnf); repeat' ((first | refine odw ?_ | refine ify ?_ | refine ifn ?_ | refine i6 ?_ | refine ati ?_ | refine mst ?_ | refine rmd ?_ | refine ibo (fun _ => ?_) (fun _ => ?_)) <;> conv => whnf))
        refine call_pure rfl (turned_pure e) ?_; rintro y rfl
        ((conv => whnf); repeat' ((first | refine odw ?_ | refine ify ?_ | refine ifn ?_ | refine i6 ?_ | refine ati ?_ | refine mst ?_ | refine rmd ?_ | refine ibo (fun _ => ?_) (fun _ => ?_)) <;> conv => whnf))
        refine op_lookup edgM (seenOf S) 38 (turn e) rfl rfl rfl rfl (.inr rfl) rfl ?_
        rw [seen_look, show decide (turn e ∈ S) = true from decide_eq_true c4]
        ((conv => whnf); repeat' ((first | refine odw ?_ | refine ify ?_ | refine ifn ?_ | refine i6 ?_ | refine ati ?_ | refine mst ?_ | refine rmd ?_ | refine ibo (fun _ => ?_) (fun _ => ?_)) <;> conv => whnf))
        refine call_pure rfl (fnew_pure 4 i edgeS) ?_; rintro y rfl
        ((conv => whnf); repeat' ((first | refine odw ?_ | refine ify ?_ | refine ifn ?_ | refine i6 ?_ | refine ati ?_ | refine mst ?_ | refine rmd ?_ | refine ibo (fun _ => ?_) (fun _ => ?_)) <;> conv => whnf))
        refine call_pure rfl (in_f_pure edgeS 4 i edgeS) ?_; rintro y rfl
        (repeat' ((first | refine ord_ok (by (conv => whnf); (repeat' ((first | refine same_ok ?_ | refine ify ?_ | refine ifn ?_ | refine i6 ?_ | refine ati ?_ | refine mst ?_ | refine rmd ?_ | refine ibo (fun _ => ?_) (fun _ => ?_)) <;> conv => whnf)); (all_goals (repeat' (first | exact trivial | exact rfl | refine And.intro ?_ ?_)))) ?_ | refine same_ok ?_ | refine ify ?_ | refine ifn ?_ | refine i6 ?_ | refine ati ?_ | refine mst ?_ | refine rmd ?_ | refine ibo (fun _ => ?_) (fun _ => ?_)) <;> conv => whnf))
        exact rfl
      · have hc : ecodeAt labels.length edges i = 0 := by rw [hec]; unfold ecode; rw [if_neg (by omega), if_neg c3, if_neg c4]
        have hsn : (edges.take (i + 1)).map turn = S ++ [turn e] := by rw [take_snoc' hx, List.map_append, hS]; rfl
        ((conv => whnf); repeat' ((first | refine odw ?_ | refine ify ?_ | refine ifn ?_ | refine i6 ?_ | refine ati ?_ | refine mst ?_ | refine rmd ?_ | refine ibo (fun _ => ?_) (fun _ => ?_)) <;> conv => whnf))
        refine call_pure rfl (turned_pure e) ?_; rintro y rfl
        ((conv => whnf); repeat' ((first | refine odw ?_ | refine ify ?_ | refine ifn ?_ | refine i6 ?_ | refine ati ?_ | refine mst ?_ | refine rmd ?_ | refine ibo (fun _ => ?_) (fun _ => ?_)) <;> conv => whnf))
        refine op_lookup edgM (seenOf S) 38 (turn e) rfl rfl rfl rfl (.inr rfl) rfl ?_
        rw [seen_look, show decide (turn e ∈ S) = false from decide_eq_false c4]
        (repeat' ((first | refine ord_ok (by (conv => whnf); (repeat' ((first | refine same_ok ?_ | refine ify ?_ | refine ifn ?_ | refine i6 ?_ | refine ati ?_ | refine mst ?_ | refine rmd ?_ | refine ibo (fun _ => ?_) (fun _ => ?_)) <;> conv => whnf)); (all_goals (repeat' (first | exact trivial | exact rfl | refine And.intro ?_ ?_)))) ?_ | refine same_ok ?_ | refine ify ?_ | refine ifn ?_ | refine i6 ?_ | refine ati ?_ | refine mst ?_ | refine rmd ?_ | refine ibo (fun _ => ?_) (fun _ => ?_)) <;> conv => whnf))
        refine call_pure rfl (turned_pure e) ?_; rintro y rfl
        ((conv => whnf); repeat' ((first | refine odw ?_ | refine ify ?_ | refine ifn ?_ | refine i6 ?_ | refine ati ?_ | refine mst ?_ | refine rmd ?_ | refine ibo (fun _ => ?_) (fun _ => ?_)) <;> conv => whnf))
        refine op_update edgM (seenOf S) 38 (turn e) true rfl rfl rfl rfl rfl rfl rfl ?_
        rw [← seenOf_snoc, ← hsn]
        ((conv => whnf); repeat' ((first | refine odw ?_ | refine ify ?_ | refine ifn ?_ | refine i6 ?_ | refine ati ?_ | refine mst ?_ | refine rmd ?_ | refine ibo (fun _ => ?_) (fun _ => ?_)) <;> conv => whnf))
        refine call_pure rfl (turned_pure e) ?_; rintro y rfl
        ((conv => whnf); repeat' ((first | refine odw ?_ | refine ify ?_ | refine ifn ?_ | refine i6 ?_ | refine ati ?_ | refine mst ?_ | refine rmd ?_ | refine ibo (fun _ => ?_) (fun _ => ?_)) <;> conv => whnf))
        have hfin : S.map dE ++ [dE (turn e)] = ((edges.take (i + 1)).map turn).map dE := by rw [hsn, List.map_append]; rfl
        refine ⟨i + 1, _, _, ⟨hlt, ?_⟩, .refl _ _, ⟨rfl, rfl, rfl, rfl, rfl, rfl, trivial⟩, ⟨rfl, rfl, slice_is hfin, trivial⟩, by omega⟩
        intro j hj
        rcases Nat.lt_succ_iff_lt_or_eq.1 hj with h | h
        · exact hcode j h
        · rw [h]; exact hc
    · have hie : edges.take i = edges := List.take_of_length_le (by omega)
      rw [hie]
      have hin : i = edges.length := by omega
      subst hin
      rw [newY_none (newErr_none h0 hgood hcode)]
      ((conv => whnf); repeat' ((first | refine odw ?_ | refine ify ?_ | refine ifn ?_ | refine i6 ?_ | refine ati ?_ | refine mst ?_ | refine rmd ?_ | refine ibo (fun _ => ?_) (fun _ => ?_)) <;> conv => whnf))
      have hnd := (edges_ok hcode).1
      have hok := canon_ok (newErr_none h0 hgood hcode)
      refine call_tsl (i := 300) rfl rfl (sort_tsl (edges.map turn) (by rw [List.length_map]; omega)) ?_
      rintro y ds ⟨out, rfl, hp, ho⟩
      obtain rfl := canon_eq hnd hp ho
      ((conv => whnf); repeat' ((first | refine odw ?_ | refine ify ?_ | refine ifn ?_ | refine i6 ?_ | refine ati ?_ | refine mst ?_ | refine rmd ?_ | refine ibo (fun _ => ?_) (fun _ => ?_)) <;> conv => whnf))
      refine call_frz 300 rfl ?_
      refine call_cells (i := 42) rfl rfl rfl (rows_cells labels (canon edges) (by omega) (by rw [canon_len]; omega) hok.edge) ?_
      rintro y ys rfl
      ((conv => whnf); repeat' ((first | refine odw ?_ | refine ify ?_ | refine ifn ?_ | refine i6 ?_ | refine ati ?_ | refine mst ?_ | refine rmd ?_ | refine ibo (fun _ => ?_) (fun _ => ?_)) <;> conv => whnf))
      exact rfl
end Go.Proofs.YthegabgbakckfaaGreatDoor
end

section
/- Graphs: what a graph tells: Len, Size, Edge, Label, Near, Degree. -/
namespace Go.Gr
theorem flat_split (f : Nat → List Int) (D : Nat → Nat) (hD : ∀ v, (f v).length = D v) {n v : Nat} (h : v < n) : ∃ pre post, (List.range n).flatMap f = pre ++ (f v ++ post) ∧ pre.length = off D v := by
  have key : ∀ n, ((List.range n).flatMap f).length = off D n := by
    intro n
    induction n with
    | zero => rfl
    | succ n ih => rw [List.range_succ, List.flatMap_append, List.length_append, ih]; simp [off, hD]
  induction n with
  | zero => omega
  | succ n ih =>
    rw [List.range_succ, List.flatMap_append]
    by_cases hv : v < n
    · obtain ⟨pre, post, e, hl⟩ := ih hv
      exact ⟨pre, post ++ [n].flatMap f, by rw [e]; simp, hl⟩
    · have : v = n := by omega
      subst this
      exact ⟨(List.range v).flatMap f, [], by simp, key v⟩
theorem flat_cut (f : Nat → List Int) (D : Nat → Nat) (hD : ∀ v, (f v).length = D v) {n v : Nat} (h : v < n) : (((List.range n).flatMap f).take (off D (v + 1))).drop (off D v) = f v := by
  obtain ⟨pre, post, e, hl⟩ := flat_split f D hD h
  rw [e, ← List.append_assoc]
  have h1 : off D (v + 1) = (pre ++ f v).length := by simp [off, hl, hD]
  rw [h1, List.take_left, ← hl, List.drop_left]
theorem off_flat (f : Nat → List Int) (D : Nat → Nat) (hD : ∀ v, (f v).length = D v) (n : Nat) : ((List.range n).flatMap f).length = off D n := by
  induction n with
  | zero => rfl
  | succ n ih => rw [List.range_succ, List.flatMap_append, List.length_append, ih]; simp [off, hD]
end Go.Gr
namespace Go.Proofs.YthegabgbakckfaaGreatDoor
open Go.Sx Go.RowKit Go.Reg Go.Gr

set_option maxRecDepth 100000
def pl_glen : List (Nat × Plan) := []
def G_glen : List FuncId := []
theorem cok_glen : codeOk Tryz.prog G_glen pl_glen (Tryz.f50.body.getD .skip) = true := by kernel_rfl
theorem run_glen (vs : Array Value) (w : World) : (callFunc 50 vs).run C1.P w = .ok (.enter 50 vs) w := by kernel_rfl
theorem len_pure (G : Gr) : Pure C1 50 [dG G] (fun y => y = .int .i64 G.labels.length) := by
  have hl : (G.labels.map dI).length = G.labels.length := List.length_map _
  refine pure_of c1_ok (pl := pl_glen) (G := G_glen) Tryz.func50 rfl Tryz.ntmps50 run_glen cok_glen (by simp) ?_
  ((conv => whnf); repeat' ((first | refine odw ?_ | refine ify ?_ | refine ifn ?_ | refine i6 ?_ | refine ati ?_ | refine mst ?_ | refine rmd ?_ | refine ibo (fun _ => ?_) (fun _ => ?_)) <;> conv => whnf))
  show Da.int .i64 _ = _
  rw [hl]
theorem len_nil : Pure C1 50 [.nilp] (fun y => y = .int .i64 0) := by
  refine pure_of c1_ok (pl := pl_glen) (G := G_glen) Tryz.func50 rfl Tryz.ntmps50 run_glen cok_glen (by simp) ?_
  ((conv => whnf); repeat' ((first | refine odw ?_ | refine ify ?_ | refine ifn ?_ | refine i6 ?_ | refine ati ?_ | refine mst ?_ | refine rmd ?_ | refine ibo (fun _ => ?_) (fun _ => ?_)) <;> conv => whnf))
  exact rfl
def pl_gsize : List (Nat × Plan) := []
def G_gsize : List FuncId := []
theorem cok_gsize : codeOk Tryz.prog G_gsize pl_gsize (Tryz.f173.body.getD .skip) = true := by kernel_rfl
theorem run_gsize (vs : Array Value) (w : World) : (callFunc 173 vs).run C1.P w = .ok (.enter 173 vs) w := by kernel_rfl
theorem size_pure (G : Gr) : Pure C1 173 [dG G] (fun y => y = .int .i64 G.edges.length) := by
  have hl : (G.edges.map dE).length = G.edges.length := List.length_map _
  refine pure_of c1_ok (pl := pl_gsize) (G := G_gsize) Tryz.func173 rfl Tryz.ntmps173 run_gsize cok_gsize (by simp) ?_
  ((conv => whnf); repeat' ((first | refine odw ?_ | refine ify ?_ | refine ifn ?_ | refine i6 ?_ | refine ati ?_ | refine mst ?_ | refine rmd ?_ | refine ibo (fun _ => ?_) (fun _ => ?_)) <;> conv => whnf))
  show Da.int .i64 _ = _
  rw [hl]
theorem size_nil : Pure C1 173 [.nilp] (fun y => y = .int .i64 0) := by
  refine pure_of c1_ok (pl := pl_gsize) (G := G_gsize) Tryz.func173 rfl Tryz.ntmps173 run_gsize cok_gsize (by simp) ?_
  ((conv => whnf); repeat' ((first | refine odw ?_ | refine ify ?_ | refine ifn ?_ | refine i6 ?_ | refine ati ?_ | refine mst ?_ | refine rmd ?_ | refine ibo (fun _ => ?_) (fun _ => ?_)) <;> conv => whnf))
  exact rfl
def pl_ghas : List (Nat × Plan) := []
def G_ghas : List FuncId := []
theorem cok_ghas : codeOk Tryz.prog G_ghas pl_ghas (Tryz.f109.body.getD .skip) = true := by kernel_rfl
theorem run_ghas (vs : Array Value) (w : World) : (callFunc 109 vs).run C1.P w = .ok (.enter 109 vs) w := by kernel_rfl
def hasV (G : Gr) (v : Int) : Bool := decide (0 ≤ v ∧ v < G.labels.length)
theorem has_pure (G : Gr) (v : Int) : Pure C1 109 [dG G, .int .i64 v] (fun y => y = .bool (hasV G v)) := by
  refine pure_of c1_ok (pl := pl_ghas) (G := G_ghas) Tryz.func109 rfl Tryz.ntmps109 run_ghas cok_ghas (by simp) ?_
  by_cases h0 : 0 ≤ v
  · ((conv => whnf); repeat' ((first | refine odw ?_ | refine ify ?_ | refine ifn ?_ | refine i6 ?_ | refine ati ?_ | refine mst ?_ | refine rmd ?_ | refine ibo (fun _ => ?_) (fun _ => ?_)) <;> conv => whnf))
    refine call_pure rfl (len_pure G) ?_; rintro y rfl
    by_cases h1 : v < G.labels.length
    · have : hasV G v = true := by simp [hasV, h0, h1]
      rw [this]
      ((conv => whnf); repeat' ((first | refine odw ?_ | refine ify ?_ | refine ifn ?_ | refine i6 ?_ | refine ati ?_ | refine mst ?_ | refine rmd ?_ | refine ibo (fun _ => ?_) (fun _ => ?_)) <;> conv => whnf))
      show Da.plain _ = _
      simp [Da.plain, h1]
    · have : hasV G v = false := by simp [hasV, h1]
      rw [this]
      ((conv => whnf); repeat' ((first | refine odw ?_ | refine ify ?_ | refine ifn ?_ | refine i6 ?_ | refine ati ?_ | refine mst ?_ | refine rmd ?_ | refine ibo (fun _ => ?_) (fun _ => ?_)) <;> conv => whnf))
      show Da.plain _ = _
      simp [Da.plain, h1]
  · have : hasV G v = false := by simp [hasV, h0]
    rw [this]
    ((conv => whnf); repeat' ((first | refine odw ?_ | refine ify ?_ | refine ifn ?_ | refine i6 ?_ | refine ati ?_ | refine mst ?_ | refine rmd ?_ | refine ibo (fun _ => ?_) (fun _ => ?_)) <;> conv => whnf))
    exact rfl
theorem has_nil (v : Int) : Pure C1 109 [.nilp, .int .i64 v] (fun y => y = .bool false) := by
  refine pure_of c1_ok (pl := pl_ghas) (G := G_ghas) Tryz.func109 rfl Tryz.ntmps109 run_ghas cok_ghas (by simp) ?_
  by_cases h0 : 0 ≤ v
  · ((conv => whnf); repeat' ((first | refine odw ?_ | refine ify ?_ | refine ifn ?_ | refine i6 ?_ | refine ati ?_ | refine mst ?_ | refine rmd ?_ | refine ibo (fun _ => ?_) (fun _ => ?_)) <;> conv => whnf))
    refine call_pure rfl len_nil ?_; rintro y rfl
    have h1 : ¬ v < 0 := by omega
    ((conv => whnf); repeat' ((first | refine odw ?_ | refine ify ?_ | refine ifn ?_ | refine i6 ?_ | refine ati ?_ | refine mst ?_ | refine rmd ?_ | refine ibo (fun _ => ?_) (fun _ => ?_)) <;> conv => whnf))
    show Da.plain _ = _
    simp [Da.plain, h1]
  · ((conv => whnf); repeat' ((first | refine odw ?_ | refine ify ?_ | refine ifn ?_ | refine i6 ?_ | refine ati ?_ | refine mst ?_ | refine rmd ?_ | refine ibo (fun _ => ?_) (fun _ => ?_)) <;> conv => whnf))
    exact rfl
theorem hasV_yes {G : Gr} {v : Int} (h : 0 ≤ v) (h2 : v < G.labels.length) : hasV G v = true := by simp [hasV, h, h2]
theorem hasV_no {G : Gr} {v : Int} (h : ¬ (0 ≤ v ∧ v < G.labels.length)) : hasV G v = false := by simp only [hasV, decide_eq_false_iff_not]; exact h
def pl_glabel : List (Nat × Plan) := []
def G_glabel : List FuncId := []
theorem cok_glabel : codeOk Tryz.prog G_glabel pl_glabel (Tryz.f51.body.getD .skip) = true := by kernel_rfl
theorem run_glabel (vs : Array Value) (w : World) : (callFunc 51 vs).run C1.P w = .ok (.enter 51 vs) w := by kernel_rfl
def labelV (G : Gr) (v : Int) : Int := if 0 ≤ v ∧ v < G.labels.length then (G.labels[v.toNat]?).getD 0 else -1
theorem label_pure (G : Gr) (v : Int) : Pure C1 51 [dG G, .int .i64 v] (fun y => y = .int .i64 (labelV G v)) := by
  refine pure_of c1_ok (pl := pl_glabel) (G := G_glabel) Tryz.func51 rfl Tryz.ntmps51 run_glabel cok_glabel (by simp) ?_
  by_cases h : 0 ≤ v ∧ v < G.labels.length
  · obtain ⟨m, rfl⟩ := Int.eq_ofNat_of_zero_le h.1
    have hm : m < G.labels.length := by omega
    have hx := List.getElem?_eq_getElem hm
    have e : labelV G (m : Int) = G.labels[m] := by unfold labelV; rw [if_pos h, Int.toNat_natCast, hx]; rfl
    rw [e]
    generalize G.labels[m] = x at hx
    have hxd : (G.labels.map dI)[m]? = some (.int .i64 x) := by rw [List.getElem?_map, hx]; rfl
    ((conv => whnf); repeat' ((first | refine odw ?_ | refine ify ?_ | refine ifn ?_ | refine i6 ?_ | refine ati ?_ | refine mst ?_ | refine rmd ?_ | refine ibo (fun _ => ?_) (fun _ => ?_)) <;> conv => whnf))
    refine call_pure rfl (has_pure G m) ?_; rintro y rfl
    rw [hasV_yes h.1 h.2]
    (repeat' ((first | refine ord_ok (by (conv => whnf); (repeat' ((first | refine at_da hxd rfl ?_ | refine ify ?_ | refine ifn ?_ | refine i6 ?_ | refine ati ?_ | refine mst ?_ | refine rmd ?_ | refine ibo (fun _ => ?_) (fun _ => ?_)) <;> conv => whnf)); (all_goals (repeat' (first | exact trivial | exact rfl | refine And.intro ?_ ?_)))) ?_ | refine at_da hxd rfl ?_ | refine ify ?_ | refine ifn ?_ | refine i6 ?_ | refine ati ?_ | refine mst ?_ | refine rmd ?_ | refine ibo (fun _ => ?_) (fun _ => ?_)) <;> conv => whnf))
    exact rfl
  · have e : labelV G v = -1 := by unfold labelV; rw [if_neg h]
    rw [e]
    ((conv => whnf); repeat' ((first | refine odw ?_ | refine ify ?_ | refine ifn ?_ | refine i6 ?_ | refine ati ?_ | refine mst ?_ | refine rmd ?_ | refine ibo (fun _ => ?_) (fun _ => ?_)) <;> conv => whnf))
    refine call_pure rfl (has_pure G v) ?_; rintro y rfl
    rw [hasV_no h]
    ((conv => whnf); repeat' ((first | refine odw ?_ | refine ify ?_ | refine ifn ?_ | refine i6 ?_ | refine ati ?_ | refine mst ?_ | refine rmd ?_ | refine ibo (fun _ => ?_) (fun _ => ?_)) <;> conv => whnf))
    exact rfl
theorem label_nil (v : Int) : Pure C1 51 [.nilp, .int .i64 v] (fun y => y = .int .i64 (-1)) := by
  refine pure_of c1_ok (pl := pl_glabel) (G := G_glabel) Tryz.func51 rfl Tryz.ntmps51 run_glabel cok_glabel (by simp) ?_
  ((conv => whnf); repeat' ((first | refine odw ?_ | refine ify ?_ | refine ifn ?_ | refine i6 ?_ | refine ati ?_ | refine mst ?_ | refine rmd ?_ | refine ibo (fun _ => ?_) (fun _ => ?_)) <;> conv => whnf))
  refine call_pure rfl (has_nil v) ?_; rintro y rfl
  ((conv => whnf); repeat' ((first | refine odw ?_ | refine ify ?_ | refine ifn ?_ | refine i6 ?_ | refine ati ?_ | refine mst ?_ | refine rmd ?_ | refine ibo (fun _ => ?_) (fun _ => ?_)) <;> conv => whnf))
  exact rfl
def pl_gedge : List (Nat × Plan) := []
def G_gedge : List FuncId := []
theorem cok_gedge : codeOk Tryz.prog G_gedge pl_gedge (Tryz.f142.body.getD .skip) = true := by kernel_rfl
theorem run_gedge (vs : Array Value) (w : World) : (callFunc 142 vs).run C1.P w = .ok (.enter 142 vs) w := by kernel_rfl
def edgeY (E : List Edg) (id : Int) : Da := if 0 ≤ id ∧ id < E.length then .tuple [dE ((E[id.toNat]?).getD ⟨0, 0⟩), .bool true] else .tuple [dE ⟨0, 0⟩, .bool false]
theorem edge_pure (G : Gr) (id : Int) : Pure C1 142 [dG G, .int .i64 id] (fun y => y = edgeY G.edges id) := by
  refine pure_of c1_ok (pl := pl_gedge) (G := G_gedge) Tryz.func142 rfl Tryz.ntmps142 run_gedge cok_gedge (by simp) ?_
  by_cases h0 : 0 ≤ id
  · by_cases h1 : id < G.edges.length
    · obtain ⟨m, rfl⟩ := Int.eq_ofNat_of_zero_le h0
      have hm : m < G.edges.length := by omega
      have hx := List.getElem?_eq_getElem hm
      have e : edgeY G.edges (m : Int) = .tuple [dE G.edges[m], .bool true] := by unfold edgeY; rw [if_pos ⟨h0, h1⟩, Int.toNat_natCast, hx]; rfl
      rw [e]
      generalize G.edges[m] = x at hx
      have hxd : (G.edges.map dE)[m]? = some (.agg [.int .i64 x.a, .int .i64 x.b]) := by rw [List.getElem?_map, hx]; rfl
      ((conv => whnf); repeat' ((first | refine odw ?_ | refine ify ?_ | refine ifn ?_ | refine i6 ?_ | refine ati ?_ | refine mst ?_ | refine rmd ?_ | refine ibo (fun _ => ?_) (fun _ => ?_)) <;> conv => whnf))
      refine call_pure rfl (size_pure G) ?_; rintro y rfl
      (repeat' ((first | refine ord_ok (by (conv => whnf); (repeat' ((first | refine at_da hxd rfl ?_ | refine ify ?_ | refine ifn ?_ | refine i6 ?_ | refine ati ?_ | refine mst ?_ | refine rmd ?_ | refine ibo (fun _ => ?_) (fun _ => ?_)) <;> conv => whnf)); (all_goals (repeat' (first | exact trivial | exact rfl | refine And.intro ?_ ?_)))) ?_ | refine at_da hxd rfl ?_ | refine ify ?_ | refine ifn ?_ | refine i6 ?_ | refine ati ?_ | refine mst ?_ | refine rmd ?_ | refine ibo (fun _ => ?_) (fun _ => ?_)) <;> conv => whnf))
      exact rfl
    · have e : edgeY G.edges id = .tuple [dE ⟨0, 0⟩, .bool false] := by unfold edgeY; rw [if_neg (by omega)]
      rw [e]
      ((conv => whnf); repeat' ((first | refine odw ?_ | refine ify ?_ | refine ifn ?_ | refine i6 ?_ | refine ati ?_ | refine mst ?_ | refine rmd ?_ | refine ibo (fun _ => ?_) (fun _ => ?_)) <;> conv => whnf))
      refine call_pure rfl (size_pure G) ?_; rintro y rfl
      ((conv => whnf); repeat' ((first | refine odw ?_ | refine ify ?_ | refine ifn ?_ | refine i6 ?_ | refine ati ?_ | refine mst ?_ | refine rmd ?_ | refine ibo (fun _ => ?_) (fun _ => ?_)) <;> conv => whnf))
      exact rfl
  · have e : edgeY G.edges id = .tuple [dE ⟨0, 0⟩, .bool false] := by unfold edgeY; rw [if_neg (by omega)]
    rw [e]
    ((conv => whnf); repeat' ((first | refine odw ?_ | refine ify ?_ | refine ifn ?_ | refine i6 ?_ | refine ati ?_ | refine mst ?_ | refine rmd ?_ | refine ibo (fun _ => ?_) (fun _ => ?_)) <;> conv => whnf))
    exact rfl
theorem edge_nil (id : Int) : Pure C1 142 [.nilp, .int .i64 id] (fun y => y = .tuple [dE ⟨0, 0⟩, .bool false]) := by
  refine pure_of c1_ok (pl := pl_gedge) (G := G_gedge) Tryz.func142 rfl Tryz.ntmps142 run_gedge cok_gedge (by simp) ?_
  by_cases h0 : 0 ≤ id
  · ((conv => whnf); repeat' ((first | refine odw ?_ | refine ify ?_ | refine ifn ?_ | refine i6 ?_ | refine ati ?_ | refine mst ?_ | refine rmd ?_ | refine ibo (fun _ => ?_) (fun _ => ?_)) <;> conv => whnf))
    refine call_pure rfl size_nil ?_; rintro y rfl
    ((conv => whnf); repeat' ((first | refine odw ?_ | refine ify ?_ | refine ifn ?_ | refine i6 ?_ | refine ati ?_ | refine mst ?_ | refine rmd ?_ | refine ibo (fun _ => ?_) (fun _ => ?_)) <;> conv => whnf))
    exact rfl
  · ((conv => whnf); repeat' ((first | refine odw ?_ | refine ify ?_ | refine ifn ?_ | refine i6 ?_ | refine ati ?_ | refine mst ?_ | refine rmd ?_ | refine ibo (fun _ => ?_) (fun _ => ?_)) <;> conv => whnf))
    exact rfl
def nearY (G : Gr) (v : Int) : Da := if 0 ≤ v ∧ v < G.labels.length then dIs (nearOf G.edges v.toNat) else .nils
theorem firstL_at {n v : Nat} (E : List Edg) (h : v ≤ n) : ((firstL n E).map dI)[v]? = some (.int .i64 (off (deg E) v)) := by
  rw [List.getElem?_map, firstL, List.getElem?_map, List.getElem?_range (by omega)]; rfl
theorem near_cut {n v : Nat} (E : List Edg) (h : v < n) : (((nearL n E).map dI).take (off (deg E) (v + 1))).drop (off (deg E) v) = (nearOf E v).map dI := by
  rw [← List.map_take, ← List.map_drop, nearL, flat_cut (nearOf E) (deg E) (fun _ => rfl) h]
def degV (G : Gr) (v : Int) : Nat := if 0 ≤ v ∧ v < G.labels.length then deg G.edges v.toNat else 0
end Go.Proofs.YthegabgbakckfaaGreatDoor
end

section
/- Graphs: At. -/
namespace Go.Proofs.YthegabgbakckfaaGreatDoor
open Go.Sx Go.RowKit Go.Reg Go.Gr

set_option maxRecDepth 100000
theorem values_pure (l : List Int) : Pure C1 68 [dIs l] (fun y => y = .func (.func 132) [] [.ref (dIs l)]) := by
  refine pure_of c1_ok (pl := []) (G := []) Tryz.func68 rfl Tryz.ntmps68 (by intro vs w; kernel_rfl) (by kernel_rfl) (by simp) ?_
  ((conv => whnf); repeat' ((first | refine odw ?_ | refine ify ?_ | refine ifn ?_ | refine i6 ?_ | refine ati ?_ | refine mst ?_ | refine rmd ?_ | refine ibo (fun _ => ?_) (fun _ => ?_)) <;> conv => whnf))
  exact rfl
theorem sorted_self {l : List Int} (h : l.Pairwise (· < ·)) : l.mergeSort (fun x y => decide (x ≤ y)) = l :=
  List.mergeSort_of_pairwise (h.imp fun h => by simp; omega)
theorem idsOf_len (E : List Edg) (v : Nat) : (idsOf E v).length = deg E v := by
  rw [idsOf, List.length_append, (ids_len E v).1, (ids_len E v).2, deg, nearOf, List.length_append]
theorem ids_cut {n v : Nat} (E : List Edg) (h : v < n) : (((idsL n E).map dI).take (off (deg E) (v + 1))).drop (off (deg E) v) = (idsOf E v).map dI := by
  rw [← List.map_take, ← List.map_drop, idsL, flat_cut (idsOf E) (deg E) (idsOf_len E) h]
def atY (G : Gr) (v : Int) : Da := if 0 ≤ v ∧ v < G.labels.length then dIs (atD G.edges v.toNat) else .nils
end Go.Proofs.YthegabgbakckfaaGreatDoor
end

section
/- The document's graphs: turned, less, Id, New; Of, Made. -/
namespace Go.Proofs.YthegabgbakckfaaGreatDoor
open Go.Sx Go.RowKit Go.Reg Go.Gr

set_option maxRecDepth 100000
def dM (labels : List Int) (S : List Edg) : Da := .agg [dIs labels, dEs S]
def dM0 : Da := .agg [.nils, .nils]
def pl_rturned : List (Nat × Plan) := []
def G_rturned : List FuncId := []
theorem cok_rturned : codeOk Tryz.prog G_rturned pl_rturned (Tryz.f119.body.getD .skip) = true := by kernel_rfl
theorem run_rturned (vs : Array Value) (w : World) : (callFunc 119 vs).run C1.P w = .ok (.enter 119 vs) w := by kernel_rfl
theorem rturned_pure (e : Edg) : Pure C1 119 [dE e] (fun y => y = dE (turn e)) := by
  refine pure_of c1_ok (pl := pl_rturned) (G := G_rturned) Tryz.func119 rfl Tryz.ntmps119 run_rturned cok_rturned (by simp) ?_
  by_cases h : e.b < e.a
  · have e1 : turn e = ⟨e.b, e.a⟩ := by unfold turn; simp only [Edg.mk.injEq]; omega
    rw [e1]
    ((conv => whnf); repeat' ((first | refine odw ?_ | refine ify ?_ | refine ifn ?_ | refine i6 ?_ | refine ati ?_ | refine mst ?_ | refine rmd ?_ | refine ibo (fun _ => ?_) (fun _ => ?_)) <;> conv => whnf))
    exact rfl
  · rw [turn_le (by omega)]
    ((conv => whnf); repeat' ((first | refine odw ?_ | refine ify ?_ | refine ifn ?_ | refine i6 ?_ | refine ati ?_ | refine mst ?_ | refine rmd ?_ | refine ibo (fun _ => ?_) (fun _ => ?_)) <;> conv => whnf))
    exact rfl
def pl_rless : List (Nat × Plan) := []
def G_rless : List FuncId := []
theorem cok_rless : codeOk Tryz.prog G_rless pl_rless (Tryz.f121.body.getD .skip) = true := by kernel_rfl
theorem run_rless (vs : Array Value) (w : World) : (callFunc 121 vs).run C1.P w = .ok (.enter 121 vs) w := by kernel_rfl
theorem rless_pure (x y : Edg) : Pure C1 121 [dE x, dE y] (fun r => r = .bool (decide (cmpE x y < 0))) := by
  refine pure_of c1_ok (pl := pl_rless) (G := G_rless) Tryz.func121 rfl Tryz.ntmps121 run_rless cok_rless (by simp) ?_
  have hc := cmpE_lt x y
  by_cases h : x.a = y.a
  · ((conv => whnf); repeat' ((first | refine odw ?_ | refine ify ?_ | refine ifn ?_ | refine i6 ?_ | refine ati ?_ | refine mst ?_ | refine rmd ?_ | refine ibo (fun _ => ?_) (fun _ => ?_)) <;> conv => whnf))
    show Da.plain _ = _
    have : (cmpE x y < 0) ↔ x.b < y.b := by rw [hc]; omega
    simp [Da.plain, this]
  · ((conv => whnf); repeat' ((first | refine odw ?_ | refine ify ?_ | refine ifn ?_ | refine i6 ?_ | refine ati ?_ | refine mst ?_ | refine rmd ?_ | refine ibo (fun _ => ?_) (fun _ => ?_)) <;> conv => whnf))
    show Da.plain _ = _
    have : (cmpE x y < 0) ↔ x.a < y.a := by rw [hc]; omega
    simp [Da.plain, this]
theorem dM_len {O : List Nat} {w : World} {labels : List Int} {S : List Edg} {v : Value} (h : Rep O w (dM labels S) v) : S.length ≤ maxLen := by
  obtain ⟨cs, r, rfl⟩ := h
  simp only [dM, dEs, RepC, RepCs] at r
  obtain ⟨_, _, _, _, c1, c2, _, ⟨a, c, css, _, h1, h2, _⟩, _⟩ := r
  rw [List.length_map] at h1
  omega
def pl_rid : List (Nat × Plan) := [(5, .leaf [0, 1, 0, 0, 1, 1, 3] [0, 2, 1, 3, 4, 5, 6] [0, 1, 0, 7, 15, 0, 63])]
def G_rid : List FuncId := []
theorem cok_rid : codeOk Tryz.prog G_rid pl_rid (Tryz.f120.body.getD .skip) = true := by kernel_rfl
theorem run_rid (vs : Array Value) (w : World) : (callFunc 120 vs).run C1.P w = .ok (.enter 120 vs) w := by kernel_rfl
theorem rid_pure (labels : List Int) (S : List Edg) (a b : Int) : Pure C1 120 [dM labels S, .int .i64 a, .int .i64 b] (fun y => y = .int .i64 (idE S (turn ⟨a, b⟩))) := by
  have hl : (S.map dE).length = S.length := List.length_map _
  refine Pure.assume (P := S.length ≤ maxLen) (fun O w us h => ?_) (fun hm => ?_)
  · obtain ⟨v, vs, rfl, h1, _⟩ := reps_inv h
    exact dM_len h1
  unfold maxLen at hm
  refine pure_of c1_ok (pl := pl_rid) (G := G_rid) Tryz.func120 rfl Tryz.ntmps120 run_rid cok_rid (by simp) ?_
  ((conv => whnf); repeat' ((first | refine odw ?_ | refine ify ?_ | refine ifn ?_ | refine i6 ?_ | refine ati ?_ | refine mst ?_ | refine rmd ?_ | refine ibo (fun _ => ?_) (fun _ => ?_)) <;> conv => whnf))
  refine call_pure rfl (rturned_pure ⟨a, b⟩) ?_; rintro y rfl
  generalize turn ⟨a, b⟩ = t
  obtain ⟨ta, tb⟩ := t
  ((conv => whnf); repeat' ((first | refine odw ?_ | refine ify ?_ | refine ifn ?_ | refine i6 ?_ | refine ati ?_ | refine mst ?_ | refine rmd ?_ | refine ibo (fun _ => ?_) (fun _ => ?_)) <;> conv => whnf))
  refine loop_lo (ι := Nat) (fun i => i ≤ S.length ∧ ∀ x ∈ S.take i, x ≠ ⟨ta, tb⟩) (fun i => [(8, .d (.int .i64 i)), (7, .own 7), (3, .own 3)])
    (fun i => [(3, .cells 28 [.d (dIs labels), .d (dEs S)]), (7, .cells 94 [.d (.int .i64 ta), .d (.int .i64 tb)])]) (fun i => S.length - i) 0 (fun _ => rfl) ⟨Nat.zero_le _, by simp⟩ (.refl _ _) ⟨rfl, rfl, rfl, trivial⟩ ⟨rfl, rfl, trivial⟩ ?_
  rintro i ⟨hi, hne⟩
  refine sxCode_sound c1_ok (G := G_rid) (pl := pl_rid) _ _ _ _ (by kernel_rfl) ?_
  by_cases hlt : i < S.length
  · have hx := List.getElem?_eq_getElem hlt
    generalize S[i] = x at hx
    obtain ⟨xa, xb⟩ := x
    have hxd : (S.map dE)[i]? = some (.agg [.int .i64 xa, .int .i64 xb]) := by rw [List.getElem?_map, hx]; rfl
    by_cases he : xa = ta ∧ xb = tb
    · obtain ⟨rfl, rfl⟩ := he
      rw [idE_at hx hne]
      (repeat' ((first | refine ord_ok (by (conv => whnf); (repeat' ((first | refine at_da hxd rfl ?_ | refine ify ?_ | refine ifn ?_ | refine i6 ?_ | refine ati ?_ | refine mst ?_ | refine rmd ?_ | refine ibo (fun _ => ?_) (fun _ => ?_)) <;> conv => whnf)); (all_goals (repeat' (first | exact trivial | exact rfl | refine And.intro ?_ ?_)))) ?_ | refine at_da hxd rfl ?_ | refine ify ?_ | refine ifn ?_ | refine i6 ?_ | refine ati ?_ | refine mst ?_ | refine rmd ?_ | refine ibo (fun _ => ?_) (fun _ => ?_)) <;> conv => whnf))
      exact rfl
    · (repeat' ((first | refine ord_ok (by (conv => whnf); (repeat' ((first | refine at_da hxd rfl ?_ | refine ify ?_ | refine ifn ?_ | refine i6 ?_ | refine ati ?_ | refine mst ?_ | refine rmd ?_ | refine ibo (fun _ => ?_) (fun _ => ?_)) <;> conv => whnf)); (all_goals (repeat' (first | exact trivial | exact rfl | refine And.intro ?_ ?_)))) ?_ | refine at_da hxd rfl ?_ | refine ify ?_ | refine ifn ?_ | refine i6 ?_ | refine ati ?_ | refine mst ?_ | refine rmd ?_ | refine ibo (fun _ => ?_) (fun _ => ?_)) <;> conv => whnf))
      refine ⟨i + 1, _, _, ⟨hlt, ?_⟩, .refl _ _, ⟨rfl, rfl, rfl, trivial⟩, ⟨rfl, rfl, trivial⟩, by omega⟩
      intro z hz
      rw [take_snoc hx] at hz
      rcases List.mem_append.1 hz with hz | hz
      · exact hne z hz
      · simp only [List.mem_singleton] at hz
        subst hz
        intro h
        exact he ⟨congrArg Edg.a h, congrArg Edg.b h⟩
  · have hii : S.take i = S := List.take_of_length_le (by omega)
    rw [hii] at hne
    rw [idE_none (fun h => hne _ h rfl)]
    ((conv => whnf); repeat' ((first | refine odw ?_ | refine ify ?_ | refine ifn ?_ | refine i6 ?_ | refine ati ?_ | refine mst ?_ | refine rmd ?_ | refine ibo (fun _ => ?_) (fun _ => ?_)) <;> conv => whnf))
    exact rfl
def rnewY (labels : List Int) (edges : List Edg) : Da := match newErr labels edges with
  | some (c, a, _) => .tuple [dM0, .int .i64 c, .int .i64 a]
  | none => .tuple [dM labels (canon edges), .int .i64 0, .int .i64 0]
theorem rnewY_some {labels : List Int} {edges : List Edg} {c a : Int} {b : Bool} (h : newErr labels edges = some (c, a, b)) : rnewY labels edges = .tuple [dM0, .int .i64 c, .int .i64 a] := by unfold rnewY; rw [h]
theorem rnewY_none {labels : List Int} {edges : List Edg} (h : newErr labels edges = none) : rnewY labels edges = .tuple [dM labels (canon edges), .int .i64 0, .int .i64 0] := by unfold rnewY; rw [h]
theorem gcell_is {t k : Nat} {d : Dat} {a b : List Da} (h : a = b) : some (Own.cells t [d, .d (.list k a)]) = some (Own.cells t [d, .d (.list k b)]) := by rw [h]
def pl_rnew : List (Nat × Plan) := [(20, .leaf [0, 0, 1, 0, 0, 0, 0, 1, 0, 0, 1, 1, 2, 0] [0, 1, 2, 3, 4, 5, 6, 8, 7, 9, 10, 11, 12, 13] [0, 0, 2, 6, 15, 31, 63, 127, 63, 511, 1023, 63, 4095, 8191])]
def G_rnew : List FuncId := [121]
theorem cok_rnew : codeOk Tryz.prog G_rnew pl_rnew (Tryz.f57.body.getD .skip) = true := by kernel_rfl
theorem run_rnew (vs : Array Value) (w : World) : (callFunc 57 vs).run C1.P w = .ok (.enter 57 vs) w := by kernel_rfl
set_option maxHeartbeats 4000000 in
theorem rnew_pure (labels : List Int) (edges : List Edg) : Pure C1 57 [dIs labels, dEs edges] (fun y => y = rnewY labels edges) := by
  have hll : (labels.map dI).length = labels.length := List.length_map _
  have hel : (edges.map dE).length = edges.length := List.length_map _
  refine pure_of c1_ok (pl := pl_rnew) (G := G_rnew) Tryz.func57 rfl Tryz.ntmps57 run_rnew cok_rnew (by simp) ?_
  by_cases h1 : 4096 < labels.length
  · rw [rnewY_some (newErr_large (.inl h1))]
    ((conv => whnf); repeat' ((first | refine odw ?_ | refine ify ?_ | refine ifn ?_ | refine i6 ?_ | refine ati ?_ | refine mst ?_ | refine rmd ?_ | refine ibo (fun _ => ?_) (fun _ => ?_)) <;> conv => whnf))
    exact rfl
  by_cases h2 : 16384 < edges.length
  · rw [rnewY_some (newErr_large (.inr h2))]
    ((conv => whnf); repeat' ((first | refine odw ?_ | refine ify ?_ | refine ifn ?_ | refine i6 ?_ | refine ati ?_ | refine mst ?_ | refine rmd ?_ | refine ibo (fun _ => ?_) (fun _ => ?_)) <;> conv => whnf))
    exact rfl
  have h0 : ¬ (4096 < labels.length ∨ 16384 < edges.length) := by omega
  ((conv => whnf); repeat' ((first | refine odw ?_ | refine ify ?_ | refine ifn ?_ | refine i6 ?_ | refine ati ?_ | refine mst ?_ | refine rmd ?_ | refine ibo (fun _ => ?_) (fun _ => ?_)) <;> conv => whnf))
  refine loop_lo (ι := Nat) (fun v => v ≤ labels.length ∧ ∀ x ∈ labels.take v, badLabel x = false) (fun v => [(7, .d (.int .i64 v)), (4, .own 4), (1, .d (dEs edges)), (0, .d (dIs labels))])
    (fun _ => [(4, .cells 28 [.d .nils, .d .nils])]) (fun v => labels.length - v) 0 (fun _ => rfl) ⟨Nat.zero_le _, by simp⟩ (.refl _ _) ⟨rfl, rfl, rfl, rfl, trivial⟩ ⟨rfl, trivial⟩ ?_
  rintro v ⟨hv, hgood⟩
  refine sxCode_sound c1_ok (G := G_rnew) (pl := pl_rnew) _ _ _ _ (by kernel_rfl) ?_
  by_cases hlt : v < labels.length
  · have hx := List.getElem?_eq_getElem hlt
    generalize labels[v] = x at hx
    have hxd : (labels.map dI)[v]? = some (.int .i64 x) := by rw [List.getElem?_map, hx]; rfl
    by_cases b1 : x < 0
    · have hb : badLabel x = true := by simp [badLabel, b1]
      rw [rnewY_some (newErr_label h0 hx hb hgood)]
      (repeat' ((first | refine ord_ok (by (conv => whnf); (repeat' ((first | refine at_da hxd rfl ?_ | refine ify ?_ | refine ifn ?_ | refine i6 ?_ | refine ati ?_ | refine mst ?_ | refine rmd ?_ | refine ibo (fun _ => ?_) (fun _ => ?_)) <;> conv => whnf)); (all_goals (repeat' (first | exact trivial | exact rfl | refine And.intro ?_ ?_)))) ?_ | refine at_da hxd rfl ?_ | refine ify ?_ | refine ifn ?_ | refine i6 ?_ | refine ati ?_ | refine mst ?_ | refine rmd ?_ | refine ibo (fun _ => ?_) (fun _ => ?_)) <;> conv => whnf))
      exact rfl
    by_cases b2 : 255 < x
    · have hb : badLabel x = true := by simp [badLabel, b2]
      rw [rnewY_some (newErr_label h0 hx hb hgood)]
      (repeat' ((first | refine ord_ok (by (conv => whnf); (repeat' ((first | refine at_da hxd rfl ?_ | refine ify ?_ | refine ifn ?_ | refine i6 ?_ | refine ati ?_ | refine mst ?_ | refine rmd ?_ | refine ibo (fun _ => ?_) (fun _ => ?_)) <;> conv => whnf)); (all_goals (repeat' (first | exact trivial | exact rfl | refine And.intro ?_ ?_)))) ?_ | refine at_da hxd rfl ?_ | refine ify ?_ | refine ifn ?_ | refine i6 ?_ | refine ati ?_ | refine mst ?_ | refine rmd ?_ | refine ibo (fun _ => ?_) (fun _ => ?_)) <;> conv => whnf))
      exact rfl
    · have hb : badLabel x = false := by simp [badLabel]; omega
      (repeat' ((first | refine ord_ok (by (conv => whnf); (repeat' ((first | refine at_da hxd rfl ?_ | refine ify ?_ | refine ifn ?_ | refine i6 ?_ | refine ati ?_ | refine mst ?_ | refine rmd ?_ | refine ibo (fun _ => ?_) (fun _ => ?_)) <;> conv => whnf)); (all_goals (repeat' (first | exact trivial | exact rfl | refine And.intro ?_ ?_)))) ?_ | refine at_da hxd rfl ?_ | refine ify ?_ | refine ifn ?_ | refine i6 ?_ | refine ati ?_ | refine mst ?_ | refine rmd ?_ | refine ibo (fun _ => ?_) (fun _ => ?_)) <;> conv => whnf))
      refine ⟨v + 1, _, _, ⟨hlt, ?_⟩, .refl _ _, ⟨rfl, rfl, rfl, rfl, trivial⟩, ⟨rfl, trivial⟩, by omega⟩
      intro z hz
      rw [List.take_add_one, hx] at hz
      rcases List.mem_append.1 hz with hz | hz
      · exact hgood z hz
      · simp at hz; subst hz; exact hb
  · have hve : labels.take v = labels := List.take_of_length_le (by omega)
    rw [hve] at hgood
    have hvn : v = labels.length := by omega
    subst hvn
    clear hve hv hlt
    ((conv => whnf); repeat' ((first | refine odw ?_ | refine ify ?_ | refine ifn ?_ | refine i6 ?_ | refine ati ?_ | refine mst ?_ | refine rmd ?_ | refine ibo (fun _ => ?_) (fun _ => ?_)) <;> conv => whnf))
    refine loop_lo (ι := Nat × List Edg) (fun p => p.1 ≤ edges.length ∧ Part edges p.1 p.2 ∧ ∀ j, j < p.1 → ecodeAt labels.length edges j = 0) (fun p => [(9, .d (.int .i64 p.1)), (8, .own 8), (4, .own 4), (1, .d (dEs edges)), (0, .d (dIs labels))])
      (fun p => [(4, .cells 28 [.d .nils, .d .nils]), (8, .cells 28 [.d (dIs labels), .d (dEs p.2)])]) (fun p => edges.length - p.1) (0, []) (fun _ => rfl) ⟨Nat.zero_le _, Part.zero _, fun j hj => absurd hj (Nat.not_lt_zero j)⟩
      (.laxc 8 rfl (.same _ (.lax (.nils 2) .nil)) (.refl _ _)) ⟨rfl, rfl, rfl, rfl, rfl, trivial⟩ ⟨rfl, rfl, trivial⟩ ?_
    rintro ⟨i, S⟩ ⟨hi, hpart, hcode⟩
    simp only at hi hpart hcode
    refine sxCode_sound c1_ok (G := G_rnew) (pl := pl_rnew) _ _ _ _ (by kernel_rfl) ?_
    by_cases hlt : i < edges.length
    · have hx := List.getElem?_eq_getElem hlt
      have hec : ecodeAt labels.length edges i = ecode labels.length ((edges.take i).map turn) edges[i] := by unfold ecodeAt; rw [hx]
      generalize edges[i] = e at hx hec
      have hmem := hpart.mem (turn e)
      have hSl : S.length = i := by rw [hpart.perm.length_eq, List.length_map, List.length_take]; omega
      have hxd : (edges.map dE)[i]? = some (dE e) := by rw [List.getElem?_map, hx]; rfl
      have hta : (turn e).a = min e.a e.b := rfl
      have htb : (turn e).b = max e.a e.b := rfl
      have htt : turn (turn e) = turn e := turn_turn e
      (repeat' ((first | refine ord_ok (by (conv => whnf); (repeat' ((first | refine at_da hxd rfl ?_ | refine ify ?_ | refine ifn ?_ | refine i6 ?_ | refine ati ?_ | refine mst ?_ | refine rmd ?_ | refine ibo (fun _ => ?_) (fun _ => ?_)) <;> conv => whnf)); (all_goals (repeat' (first | exact trivial | exact rfl | refine And.intro ?_ ?_)))) ?_ | refine at_da hxd rfl ?_ | refine ify ?_ | refine ifn ?_ | refine i6 ?_ | refine ati ?_ | refine mst ?_ | refine rmd ?_ | refine ibo (fun _ => ?_) (fun _ => ?_)) <;> conv => whnf))
      refine call_pure rfl (rturned_pure e) ?_; rintro y rfl
      have hnext := fun k h1 h2 => hpart.next (k := k) hx h1 h2
      generalize htE : turn e = t at hmem hta htb htt hnext ⊢
      obtain ⟨ta, tb⟩ := t
      simp only at hta htb
      rw [show dE ⟨ta, tb⟩ = .agg [.int .i64 ta, .int .i64 tb] from rfl]
      by_cases c1 : ta < 0
      · have hc : ecodeAt labels.length edges i = 3 := by rw [hec]; unfold ecode; rw [if_pos (.inl (by omega))]
        rw [rnewY_some (newErr_edge h0 hgood hlt (by rw [hc]; decide) hcode), hc]
        ((conv => whnf); repeat' ((first | refine odw ?_ | refine ify ?_ | refine ifn ?_ | refine i6 ?_ | refine ati ?_ | refine mst ?_ | refine rmd ?_ | refine ibo (fun _ => ?_) (fun _ => ?_)) <;> conv => whnf))
        exact rfl
      by_cases c2 : (labels.length : Int) ≤ tb
      · have hc : ecodeAt labels.length edges i = 3 := by rw [hec]; unfold ecode; rw [if_pos (.inr (by omega))]
        rw [rnewY_some (newErr_edge h0 hgood hlt (by rw [hc]; decide) hcode), hc]
        ((conv => whnf); repeat' ((first | refine odw ?_ | refine ify ?_ | refine ifn ?_ | refine i6 ?_ | refine ati ?_ | refine mst ?_ | refine rmd ?_ | refine ibo (fun _ => ?_) (fun _ => ?_)) <;> conv => whnf))
        exact rfl
      by_cases c3 : ta = tb
      · have hc : ecodeAt labels.length edges i = 1 := by rw [hec]; unfold ecode; rw [if_neg (by omega), if_pos (by omega)]
        rw [rnewY_some (newErr_edge h0 hgood hlt (by rw [hc]; decide) hcode), hc]
        ((conv => whnf); repeat' ((first | refine odw ?_ | refine ify ?_ | refine ifn ?_ | refine i6 ?_ | refine ati ?_ | refine mst ?_ | refine rmd ?_ | refine ibo (fun _ => ?_) (fun _ => ?_)) <;> conv => whnf))
        exact rfl
      ((conv => whnf); repeat' ((first | refine odw ?_ | refine ify ?_ | refine ifn ?_ | refine i6 ?_ | refine ati ?_ | refine mst ?_ | refine rmd ?_ | refine ibo (fun _ => ?_) (fun _ => ?_)) <;> conv => whnf))
      refine call_pure rfl (rid_pure labels S ta tb) ?_; rintro y rfl
      rw [htt]
      by_cases c4 : (⟨ta, tb⟩ : Edg) ∈ S
      · have hc : ecodeAt labels.length edges i = 4 := by rw [hec]; unfold ecode; rw [if_neg (by omega), if_neg (by omega), if_pos (by rw [htE]; exact hmem.1 c4)]
        rw [rnewY_some (newErr_edge h0 hgood hlt (by rw [hc]; decide) hcode), hc]
        have hid := idE_nonneg.2 c4
        generalize idE S ⟨ta, tb⟩ = z at hid
        ((conv => whnf); repeat' ((first | refine odw ?_ | refine ify ?_ | refine ifn ?_ | refine i6 ?_ | refine ati ?_ | refine mst ?_ | refine rmd ?_ | refine ibo (fun _ => ?_) (fun _ => ?_)) <;> conv => whnf))
        exact rfl
      · have hc : ecodeAt labels.length edges i = 0 := by rw [hec]; unfold ecode; rw [if_neg (by omega), if_neg (by omega), if_neg (by rw [htE]; exact fun h => c4 (hmem.2 h))]
        have hid : idE S ⟨ta, tb⟩ < 0 := by rw [idE_none c4]; decide
        generalize idE S ⟨ta, tb⟩ = z at hid
        ((conv => whnf); repeat' ((first | refine odw ?_ | refine ify ?_ | refine ifn ?_ | refine i6 ?_ | refine ati ?_ | refine mst ?_ | refine rmd ?_ | refine ibo (fun _ => ?_) (fun _ => ?_)) <;> conv => whnf))
        refine loop_lo (ι := Nat) (fun k => k ≤ S.length ∧ ∀ x ∈ S.take k, cmpE x ⟨ta, tb⟩ < 0) (fun k => [(11, .d (.int .i64 k)), (10, .own 10), (9, .d (.int .i64 i)), (8, .own 8), (4, .own 4), (1, .d (dEs edges)), (0, .d (dIs labels))])
          (fun _ => [(4, .cells 28 [.d .nils, .d .nils]), (8, .cells 28 [.d (dIs labels), .d (dEs S)]), (10, .cells 94 [.d (.int .i64 ta), .d (.int .i64 tb)])])
          (fun k => S.length - k) 0 (fun _ => rfl) ⟨Nat.zero_le _, by simp⟩ (.refl _ _) ⟨rfl, rfl, rfl, rfl, rfl, rfl, rfl, trivial⟩ ⟨rfl, rfl, rfl, trivial⟩ ?_
        rintro k ⟨hk, hkl⟩
        refine sxCode_sound c1_ok (G := G_rnew) (pl := pl_rnew) _ _ _ _ (by kernel_rfl) ?_
        have hSd : (S.map dE).length = S.length := List.length_map _
        by_cases hks : k < S.length
        · have hxk := List.getElem?_eq_getElem hks
          generalize S[k] = x at hxk
          have hxkd : (S.map dE)[k]? = some (dE x) := by rw [List.getElem?_map, hxk]; rfl
          by_cases hl : cmpE x ⟨ta, tb⟩ < 0
          · (repeat' ((first | refine ord_ok (by (conv => whnf); (repeat' ((first | refine at_da hxkd rfl ?_ | refine ify ?_ | refine ifn ?_ | refine i6 ?_ | refine ati ?_ | refine mst ?_ | refine rmd ?_ | refine ibo (fun _ => ?_) (fun _ => ?_)) <;> conv => whnf)); (all_goals (repeat' (first | exact trivial | exact rfl | refine And.intro ?_ ?_)))) ?_ | refine at_da hxkd rfl ?_ | refine ify ?_ | refine ifn ?_ | refine i6 ?_ | refine ati ?_ | refine mst ?_ | refine rmd ?_ | refine ibo (fun _ => ?_) (fun _ => ?_)) <;> conv => whnf))
            refine call_pure rfl (rless_pure x ⟨ta, tb⟩) ?_; rintro y rfl
            rw [decide_eq_true hl]
            ((conv => whnf); repeat' ((first | refine odw ?_ | refine ify ?_ | refine ifn ?_ | refine i6 ?_ | refine ati ?_ | refine mst ?_ | refine rmd ?_ | refine ibo (fun _ => ?_) (fun _ => ?_)) <;> conv => whnf))
            refine ⟨k + 1, _, _, ⟨hks, ?_⟩, .refl _ _, ⟨rfl, rfl, rfl, rfl, rfl, rfl, rfl, trivial⟩, ⟨rfl, rfl, rfl, trivial⟩, by omega⟩
            intro z hz
            rw [take_snoc hxk] at hz
            rcases List.mem_append.1 hz with hz | hz
            · exact hkl z hz
            · simp only [List.mem_singleton] at hz
              subst hz; exact hl
          · have hstop : ∀ z, S[k]? = some z → ¬ cmpE z ⟨ta, tb⟩ < 0 := fun z hz => by rw [hxk] at hz; cases hz; exact hl
            (repeat' ((first | refine ord_ok (by (conv => whnf); (repeat' ((first | refine at_da hxkd rfl ?_ | refine ify ?_ | refine ifn ?_ | refine i6 ?_ | refine ati ?_ | refine mst ?_ | refine rmd ?_ | refine ibo (fun _ => ?_) (fun _ => ?_)) <;> conv => whnf)); (all_goals (repeat' (first | exact trivial | exact rfl | refine And.intro ?_ ?_)))) ?_ | refine at_da hxkd rfl ?_ | refine ify ?_ | refine ifn ?_ | refine i6 ?_ | refine ati ?_ | refine mst ?_ | refine rmd ?_ | refine ibo (fun _ => ?_) (fun _ => ?_)) <;> conv => whnf))
            refine call_pure rfl (rless_pure x ⟨ta, tb⟩) ?_; rintro y rfl
            rw [decide_eq_false hl]
            ((conv => whnf); repeat' ((first | refine odw ?_ | refine ify ?_ | refine ifn ?_ | refine i6 ?_ | refine ati ?_ | refine mst ?_ | refine rmd ?_ | refine ibo (fun _ => ?_) (fun _ => ?_)) <;> conv => whnf))
            (repeat' ((first | refine ord_ok (by (conv => whnf); (repeat' ((first | refine sl_is k rfl (by rw [List.length_map]; omega) ?_ | refine ify ?_ | refine ifn ?_ | refine i6 ?_ | refine ati ?_ | refine mst ?_ | refine rmd ?_ | refine ibo (fun _ => ?_) (fun _ => ?_)) <;> conv => whnf)); (all_goals (repeat' (first | exact trivial | exact rfl | refine And.intro ?_ ?_)))) ?_ | refine sl_is k rfl (by rw [List.length_map]; omega) ?_ | refine ify ?_ | refine ifn ?_ | refine i6 ?_ | refine ati ?_ | refine mst ?_ | refine rmd ?_ | refine ibo (fun _ => ?_) (fun _ => ?_)) <;> conv => whnf))
            have hfin : ([] ++ (S.map dE).take k) ++ [.agg [.int .i64 ta, .int .i64 tb]] ++ (S.map dE).drop k = (insAt S k ⟨ta, tb⟩).map dE := by simp [insAt, dE]
            refine ⟨(i + 1, insAt S k ⟨ta, tb⟩), _, _, ⟨hlt, hnext k c4 hkl hstop, ?_⟩, .frz 99 rfl (.refl _ _), ⟨rfl, rfl, rfl, rfl, rfl, trivial⟩, ⟨rfl, gcell_is hfin, trivial⟩, by simp only; omega⟩
            intro j hj
            rcases Nat.lt_succ_iff_lt_or_eq.1 hj with h | h
            · exact hcode j h
            · rw [h]; exact hc
        · have hke : k = S.length := by omega
          have hstop : ∀ z, S[k]? = some z → ¬ cmpE z ⟨ta, tb⟩ < 0 := fun z hz => by rw [List.getElem?_eq_none (by omega)] at hz; cases hz
          (repeat' ((first | refine ord_ok (by (conv => whnf); (repeat' ((first | refine sl_is k rfl (by rw [List.length_map]; omega) ?_ | refine ify ?_ | refine ifn ?_ | refine i6 ?_ | refine ati ?_ | refine mst ?_ | refine rmd ?_ | refine ibo (fun _ => ?_) (fun _ => ?_)) <;> conv => whnf)); (all_goals (repeat' (first | exact trivial | exact rfl | refine And.intro ?_ ?_)))) ?_ | refine sl_is k rfl (by rw [List.length_map]; omega) ?_ | refine ify ?_ | refine ifn ?_ | refine i6 ?_ | refine ati ?_ | refine mst ?_ | refine rmd ?_ | refine ibo (fun _ => ?_) (fun _ => ?_)) <;> conv => whnf))
          have hfin : ([] ++ (S.map dE).take k) ++ [.agg [.int .i64 ta, .int .i64 tb]] ++ (S.map dE).drop k = (insAt S k ⟨ta, tb⟩).map dE := by simp [insAt, dE]
          refine ⟨(i + 1, insAt S k ⟨ta, tb⟩), _, _, ⟨hlt, hnext k c4 hkl hstop, ?_⟩, .frz 99 rfl (.refl _ _), ⟨rfl, rfl, rfl, rfl, rfl, trivial⟩, ⟨rfl, gcell_is hfin, trivial⟩, by simp only; omega⟩
          intro j hj
          rcases Nat.lt_succ_iff_lt_or_eq.1 hj with h | h
          · exact hcode j h
          · rw [h]; exact hc
    · have hin : i = edges.length := by omega
      subst hin
      obtain rfl := hpart.all (Nat.le_refl _)
      rw [rnewY_none (newErr_none h0 hgood hcode)]
      ((conv => whnf); repeat' ((first | refine odw ?_ | refine ify ?_ | refine ifn ?_ | refine i6 ?_ | refine ati ?_ | refine mst ?_ | refine rmd ?_ | refine ibo (fun _ => ?_) (fun _ => ?_)) <;> conv => whnf))
      exact rfl
/-! ### Of, Made -/
def pl_lawof : List (Nat × Plan) := []
def G_lawof : List FuncId := []
theorem cok_lawof : codeOk Tryz.prog G_lawof pl_lawof (Tryz.f59.body.getD .skip) = true := by kernel_rfl
theorem run_lawof (vs : Array Value) (w : World) : (callFunc 59 vs).run C1.P w = .ok (.enter 59 vs) w := by kernel_rfl
theorem lawof_pure (edges : List Edg) (hm : edges.length ≤ 4294967296) : Pure C1 59 [dEs edges] (fun y => y = dEs edges) := by
  have hel : (edges.map dE).length = edges.length := List.length_map _
  refine pure_of c1_ok (pl := pl_lawof) (G := G_lawof) Tryz.func59 rfl Tryz.ntmps59 run_lawof cok_lawof (by simp) ?_
  ((conv => whnf); repeat' ((first | refine odw ?_ | refine ify ?_ | refine ifn ?_ | refine i6 ?_ | refine ati ?_ | refine mst ?_ | refine rmd ?_ | refine ibo (fun _ => ?_) (fun _ => ?_)) <;> conv => whnf))
  refine loop_lo (ι := Nat) (fun i => i ≤ edges.length) (fun i => [(4, .d (.int .i64 i)), (3, .own 300), (0, .d (dEs edges))]) (fun i => [(300, .slice 77 2 ((edges.take i).map dE))]) (fun i => edges.length - i) 0 (fun _ => rfl) (Nat.zero_le _)
    (.own 3 300 77 2 rfl rfl (.refl _ _)) ⟨rfl, rfl, rfl, trivial⟩ ⟨rfl, trivial⟩ ?_
  intro i hi
  refine sxCode_sound c1_ok (G := G_lawof) (pl := pl_lawof) _ _ _ _ (by kernel_rfl) ?_
  by_cases hlt : i < edges.length
  · have hx := List.getElem?_eq_getElem hlt
    generalize edges[i] = e at hx
    have hxd : (edges.map dE)[i]? = some (dE e) := by rw [List.getElem?_map, hx]; rfl
    have htl : (edges.take i).length = i := by rw [List.length_take]; omega
    (repeat' ((first | refine ord_ok (by (conv => whnf); (repeat' ((first | refine at_da hxd rfl ?_ | refine ify ?_ | refine ifn ?_ | refine i6 ?_ | refine ati ?_ | refine mst ?_ | refine rmd ?_ | refine ibo (fun _ => ?_) (fun _ => ?_)) <;> conv => whnf)); (all_goals (repeat' (first | exact trivial | exact rfl | refine And.intro ?_ ?_)))) ?_ | refine at_da hxd rfl ?_ | refine ify ?_ | refine ifn ?_ | refine i6 ?_ | refine ati ?_ | refine mst ?_ | refine rmd ?_ | refine ibo (fun _ => ?_) (fun _ => ?_)) <;> conv => whnf))
    have hfin : (edges.take i).map dE ++ [dE e] = (edges.take (i + 1)).map dE := by rw [take_snoc hx, List.map_append]; rfl
    exact ⟨i + 1, _, _, hlt, .refl _ _, ⟨rfl, rfl, rfl, trivial⟩, ⟨slice_is hfin, trivial⟩, by omega⟩
  · have hii : edges.take i = edges := List.take_of_length_le (by omega)
    rw [hii]
    ((conv => whnf); repeat' ((first | refine odw ?_ | refine ify ?_ | refine ifn ?_ | refine i6 ?_ | refine ati ?_ | refine mst ?_ | refine rmd ?_ | refine ibo (fun _ => ?_) (fun _ => ?_)) <;> conv => whnf))
    exact rfl
def madeG (labels : List Int) (edges : List Edg) : Option Gr := if labels.length ≤ 10 ∧ edges.length ≤ 30 then (match newErr labels edges with | some _ => none | none => some ⟨labels, canon edges⟩) else none
def madeY (labels : List Int) (edges : List Edg) : Da := match madeG labels edges with
  | some G => .tuple [dG G, dM G.labels G.edges, .bool true]
  | none => .tuple [.nilp, dM0, .bool false]
theorem madeG_some {labels : List Int} {edges : List Edg} {G : Gr} (h : madeG labels edges = some G) : G = ⟨labels, canon edges⟩ ∧ G.Ok ∧ labels.length ≤ 10 ∧ edges.length ≤ 30 ∧ newErr labels edges = none := by
  unfold madeG at h
  split at h
  · rename_i hl
    split at h
    · cases h
    · rename_i hn
      cases h
      exact ⟨rfl, canon_ok hn, hl.1, hl.2, hn⟩
  · cases h
def pl_made : List (Nat × Plan) := [(5, .leaf [0, 1, 0, 0, 0, 0, 0, 0, 0, 3, 0] [0, 2, 3, 4, 5, 6, 7, 8, 1, 9, 10] [0, 0, 0, 4, 12, 28, 60, 124, 29, 287, 1023])]
def G_made : List FuncId := []
theorem cok_made : codeOk Tryz.prog G_made pl_made (Tryz.f14.body.getD .skip) = true := by kernel_rfl
theorem run_made (vs : Array Value) (w : World) : (callFunc 14 vs).run C1.P w = .ok (.enter 14 vs) w := by kernel_rfl
theorem made_pure (labels : List Int) (edges : List Edg) : Pure C1 14 [dIs labels, dEs edges] (fun y => y = madeY labels edges) := by
  have hll : (labels.map dI).length = labels.length := List.length_map _
  have hel : (edges.map dE).length = edges.length := List.length_map _
  refine pure_of c1_ok (pl := pl_made) (G := G_made) Tryz.func14 rfl Tryz.ntmps14 run_made cok_made (by simp) ?_
  by_cases h1 : 10 < labels.length
  · have e : madeY labels edges = .tuple [.nilp, dM0, .bool false] := by unfold madeY madeG; rw [if_neg (by omega)]
    rw [e]
    ((conv => whnf); repeat' ((first | refine odw ?_ | refine ify ?_ | refine ifn ?_ | refine i6 ?_ | refine ati ?_ | refine mst ?_ | refine rmd ?_ | refine ibo (fun _ => ?_) (fun _ => ?_)) <;> conv => whnf))
    exact rfl
  by_cases h2 : 30 < edges.length
  · have e : madeY labels edges = .tuple [.nilp, dM0, .bool false] := by unfold madeY madeG; rw [if_neg (by omega)]
    rw [e]
    ((conv => whnf); repeat' ((first | refine odw ?_ | refine ify ?_ | refine ifn ?_ | refine i6 ?_ | refine ati ?_ | refine mst ?_ | refine rmd ?_ | refine ibo (fun _ => ?_) (fun _ => ?_)) <;> conv => whnf))
    exact rfl
  ((conv => whnf); repeat' ((first | refine odw ?_ | refine ify ?_ | refine ifn ?_ | refine i6 ?_ | refine ati ?_ | refine mst ?_ | refine rmd ?_ | refine ibo (fun _ => ?_) (fun _ => ?_)) <;> conv => whnf))
  refine call_pure rfl (rnew_pure labels edges) ?_; rintro y rfl
  rcases hn : newErr labels edges with _ | ⟨c, a, b⟩
  · have e : madeY labels edges = .tuple [dG ⟨labels, canon edges⟩, dM labels (canon edges), .bool true] := by unfold madeY madeG; rw [if_pos (by omega), hn]
    rw [e, rnewY_none hn]
    ((conv => whnf); repeat' ((first | refine odw ?_ | refine ify ?_ | refine ifn ?_ | refine i6 ?_ | refine ati ?_ | refine mst ?_ | refine rmd ?_ | refine ibo (fun _ => ?_) (fun _ => ?_)) <;> conv => whnf))
    refine call_pure rfl (lawof_pure edges (by omega)) ?_; rintro y rfl
    ((conv => whnf); repeat' ((first | refine odw ?_ | refine ify ?_ | refine ifn ?_ | refine i6 ?_ | refine ati ?_ | refine mst ?_ | refine rmd ?_ | refine ibo (fun _ => ?_) (fun _ => ?_)) <;> conv => whnf))
    refine call_pure rfl (new_pure labels edges) ?_; rintro y rfl
    rw [newY_none hn]
    ((conv => whnf); repeat' ((first | refine odw ?_ | refine ify ?_ | refine ifn ?_ | refine i6 ?_ | refine ati ?_ | refine mst ?_ | refine rmd ?_ | refine ibo (fun _ => ?_) (fun _ => ?_)) <;> conv => whnf))
    all_goals exact rfl
  · have e : madeY labels edges = .tuple [.nilp, dM0, .bool false] := by unfold madeY madeG; rw [if_pos (by omega), hn]
    rw [e, rnewY_some hn]
    ((conv => whnf); repeat' ((first | refine odw ?_ | refine ify ?_ | refine ifn ?_ | refine i6 ?_ | refine ati ?_ | refine mst ?_ | refine rmd ?_ | refine ibo (fun _ => ?_) (fun _ => ?_)) <;> conv => whnf))
    refine call_pure rfl (lawof_pure edges (by omega)) ?_; rintro y rfl
    ((conv => whnf); repeat' ((first | refine odw ?_ | refine ify ?_ | refine ifn ?_ | refine i6 ?_ | refine ati ?_ | refine mst ?_ | refine rmd ?_ | refine ibo (fun _ => ?_) (fun _ => ?_)) <;> conv => whnf))
    refine call_pure rfl (new_pure labels edges) ?_; rintro y rfl
    rw [newY_some hn]
    cases b
    · ((conv => whnf); repeat' ((first | refine odw ?_ | refine ify ?_ | refine ifn ?_ | refine i6 ?_ | refine ati ?_ | refine mst ?_ | refine rmd ?_ | refine ibo (fun _ => ?_) (fun _ => ?_)) <;> conv => whnf))
      all_goals exact rfl
    · ((conv => whnf); repeat' ((first | refine odw ?_ | refine ify ?_ | refine ifn ?_ | refine i6 ?_ | refine ati ?_ | refine mst ?_ | refine rmd ?_ | refine ibo (fun _ => ?_) (fun _ => ?_)) <;> conv => whnf))
      all_goals exact rfl
theorem made_case (labels : List Int) (edges : List Edg) : madeY labels edges = .tuple [.nilp, dM0, .bool false] ∨
    ∃ G : Gr, madeY labels edges = .tuple [dG G, dM G.labels G.edges, .bool true] ∧ G.Ok ∧ G.labels.length ≤ 10 ∧ G.edges.length ≤ 30 ∧ G = ⟨labels, canon edges⟩ ∧ newErr labels edges = none ∧ edges.length = G.edges.length := by
  rcases h : madeG labels edges with _ | G
  · left; unfold madeY; rw [h]
  · right
    obtain ⟨h1, h2, h3, h4, h5⟩ := madeG_some h
    refine ⟨G, by unfold madeY; rw [h], h2, ?_, ?_, h1, h5, ?_⟩
    · rw [h1]; exact h3
    · rw [h1]; simp only; rw [canon_len]; exact h4
    · rw [h1]; simp only; rw [canon_len]
end Go.Proofs.YthegabgbakckfaaGreatDoor
end

section
/- Lists: SameInts. -/
namespace Go.Proofs.YthegabgbakckfaaGreatDoor
open Go.Sx Go.RowKit Go.Reg Go.Gr

set_option maxRecDepth 100000
theorem ints_len {O : List Nat} {w : World} {l : List Int} {v : Value} (h : Rep O w (dIs l) v) : l.length ≤ 9223372036854775807 := by
  have := rep_len h
  rw [List.length_map] at this
  unfold maxLen at this
  omega
theorem Pure.len1 {f : FuncId} {l : List Int} {xs : List Da} {Q : Da → Prop} (h : l.length ≤ 9223372036854775807 → Sx.Pure C1 f (dIs l :: xs) Q) : Sx.Pure C1 f (dIs l :: xs) Q :=
  Sx.Pure.assume (fun O w us hr => by obtain ⟨v, vs, rfl, h1, _⟩ := reps_inv hr; exact ints_len h1) h
def pl_s03 : List (Nat × Plan) := [(6, .leaf [0, 0, 0, 1, 0, 0, 0, 1, 0] [0, 1, 2, 4, 5, 6, 3, 7, 8] [0, 0, 3, 7, 0, 0, 48, 112, 255])]
def G_s03 : List FuncId := []
theorem cok_s03 : codeOk Tryz.prog G_s03 pl_s03 (Tryz.f19.body.getD .skip) = true := by kernel_rfl
theorem run_s03 (vs : Array Value) (w : World) : (callFunc 19 vs).run C1.P w = .ok (.enter 19 vs) w := by kernel_rfl
theorem same_pure (l r : List Int) : Pure C1 19 [dIs l, dIs r] (fun y => y = .bool (decide (l = r))) := by
  refine Pure.len1 fun hm => ?_
  have hl : (l.map dI).length = l.length := List.length_map _
  have hr : (r.map dI).length = r.length := List.length_map _
  refine pure_of c1_ok (pl := pl_s03) (G := G_s03) Tryz.func19 rfl Tryz.ntmps19 run_s03 cok_s03 (by simp) ?_
  by_cases hlen : l.length = r.length
  · ((conv => whnf); repeat' ((first | refine odw ?_ | refine ify ?_ | refine ifn ?_ | refine i6 ?_ | refine ati ?_ | refine mst ?_ | refine rmd ?_ | refine ibo (fun _ => ?_) (fun _ => ?_)) <;> conv => whnf))
    refine loop_lo (ι := Nat) (fun i => i ≤ l.length ∧ l.take i = r.take i) (fun i => [(5, .d (.int .i64 i)), (1, .d (dIs r)), (0, .d (dIs l))]) (fun _ => []) (fun i => l.length - i) 0 (fun _ => rfl) ⟨Nat.zero_le _, by simp⟩ (.refl _ _) ⟨rfl, rfl, rfl, trivial⟩ trivial ?_
    rintro i ⟨hi, he⟩
    refine sxCode_sound c1_ok (G := G_s03) (pl := pl_s03) _ _ _ _ (by kernel_rfl) ?_
    by_cases hlt : i < l.length
    · have hx := List.getElem?_eq_getElem hlt
      have hy := List.getElem?_eq_getElem (l := r) (i := i) (by omega)
      generalize l[i] = x at hx
      generalize r[i] = y at hy
      have hxd : (l.map dI)[i]? = some (.int .i64 x) := by rw [List.getElem?_map, hx]; rfl
      have hyd : (r.map dI)[i]? = some (.int .i64 y) := by rw [List.getElem?_map, hy]; rfl
      by_cases hxy : x = y
      · subst hxy
        (conv => whnf)
        (repeat' ((first | refine ord_ok (by (conv => whnf); (repeat' ((first | refine at_da hxd rfl ?_ | refine at_da hyd rfl ?_ | refine ify ?_ | refine ifn ?_ | refine i6 ?_ | refine ati ?_ | refine mst ?_ | refine rmd ?_ | refine ibo (fun _ => ?_) (fun _ => ?_)) <;> conv => whnf)); (all_goals (repeat' (first | exact trivial | exact rfl | refine And.intro ?_ ?_)))) ?_ | refine at_da hxd rfl ?_ | refine at_da hyd rfl ?_ | refine ify ?_ | refine ifn ?_ | refine i6 ?_ | refine ati ?_ | refine mst ?_ | refine rmd ?_ | refine ibo (fun _ => ?_) (fun _ => ?_)) <;> conv => whnf))
        refine ⟨i + 1, _, _, ⟨hlt, ?_⟩, .refl _ _, ⟨rfl, rfl, rfl, trivial⟩, trivial, by omega⟩
        rw [List.take_add_one, List.take_add_one, hx, hy, he]
      · rw [decide_eq_false (fun h => by subst h; rw [hx] at hy; cases hy; exact hxy rfl)]
        (conv => whnf)
        (repeat' ((first | refine ord_ok (by (conv => whnf); (repeat' ((first | refine at_da hxd rfl ?_ | refine at_da hyd rfl ?_ | refine ify ?_ | refine ifn ?_ | refine i6 ?_ | refine ati ?_ | refine mst ?_ | refine rmd ?_ | refine ibo (fun _ => ?_) (fun _ => ?_)) <;> conv => whnf)); (all_goals (repeat' (first | exact trivial | exact rfl | refine And.intro ?_ ?_)))) ?_ | refine at_da hxd rfl ?_ | refine at_da hyd rfl ?_ | refine ify ?_ | refine ifn ?_ | refine i6 ?_ | refine ati ?_ | refine mst ?_ | refine rmd ?_ | refine ibo (fun _ => ?_) (fun _ => ?_)) <;> conv => whnf))
        exact rfl
    · rw [List.take_of_length_le (by omega), List.take_of_length_le (by omega)] at he
      rw [decide_eq_true he]
      ((conv => whnf); repeat' ((first | refine odw ?_ | refine ify ?_ | refine ifn ?_ | refine i6 ?_ | refine ati ?_ | refine mst ?_ | refine rmd ?_ | refine ibo (fun _ => ?_) (fun _ => ?_)) <;> conv => whnf))
      exact rfl
  · rw [decide_eq_false (fun h => hlen (by rw [h]))]
    ((conv => whnf); repeat' ((first | refine odw ?_ | refine ify ?_ | refine ifn ?_ | refine i6 ?_ | refine ati ?_ | refine mst ?_ | refine rmd ?_ | refine ibo (fun _ => ?_) (fun _ => ?_)) <;> conv => whnf))
    exact rfl
theorem same_yes (l : List Int) : Pure C1 19 [dIs l, dIs l] (fun y => y = .bool true) := by
  have := same_pure l l
  rwa [decide_eq_true rfl] at this
end Go.Proofs.YthegabgbakckfaaGreatDoor
end

section
/- ref08: Made. ref12: Whole. law08: Of. -/
namespace Go.Gr
/-- pairs of places, the lesser first, of which f is told -/
def rowF (f : Nat → Nat → Bool) (a b : Nat) : List Edg := ((List.range b).filter fun x => decide (a < x) && f a x).map fun x : Nat => ⟨(a : Int), (x : Int)⟩
def rowsF (f : Nat → Nat → Bool) (n a : Nat) : List Edg := (List.range a).flatMap fun j => rowF f j n
theorem rowF_start (f : Nat → Nat → Bool) (a : Nat) : rowF f a (a + 1) = [] := by
  unfold rowF
  have : (List.range (a + 1)).filter (fun x => decide (a < x) && f a x) = [] := by
    rw [List.filter_eq_nil_iff]
    intro b hb
    have := List.mem_range.1 hb
    simp; omega
  rw [this]; rfl
theorem rowF_step {f : Nat → Nat → Bool} {a b : Nat} (h : a < b) : rowF f a (b + 1) = rowF f a b ++ if f a b then [⟨(a : Int), (b : Int)⟩] else [] := by
  unfold rowF
  rw [List.range_succ, List.filter_append, List.map_append]
  congr 1
  by_cases hf : f a b <;> simp [h, hf]
theorem rowsF_step (f : Nat → Nat → Bool) (n a : Nat) : rowsF f n (a + 1) = rowsF f n a ++ rowF f a n := by simp [rowsF, List.range_succ]
theorem rowF_len (f : Nat → Nat → Bool) (a b : Nat) : (rowF f a b).length ≤ b := by
  unfold rowF
  rw [List.length_map]
  exact Nat.le_trans (List.length_filter_le _ _) (by simp)
theorem rowsF_len (f : Nat → Nat → Bool) (n : Nat) : ∀ a, (rowsF f n a).length ≤ a * n
  | 0 => by simp [rowsF]
  | a + 1 => by
    have h1 := rowsF_len f n a
    have h2 := rowF_len f a n
    rw [rowsF_step, List.length_append, Nat.add_mul, Nat.one_mul]; omega
theorem mem_rowsF {f : Nat → Nat → Bool} {n a : Nat} {e : Edg} : e ∈ rowsF f n a ↔ ∃ j x : Nat, j < a ∧ x < n ∧ j < x ∧ f j x = true ∧ e = ⟨(j : Int), (x : Int)⟩ := by
  simp only [rowsF, rowF, List.mem_flatMap, List.mem_range, List.mem_map, List.mem_filter, Bool.and_eq_true, decide_eq_true_eq]
  constructor
  · rintro ⟨j, hj, x, ⟨h1, h2, h3⟩, rfl⟩; exact ⟨j, x, hj, h1, h2, h3, rfl⟩
  · rintro ⟨j, x, hj, h1, h2, h3, rfl⟩; exact ⟨j, hj, x, ⟨h1, h2, h3⟩, rfl⟩
def pairF (E : List Edg) (L : List Int) (a b : Nat) : Bool := hasR E ((L[a]?).getD 0) ((L[b]?).getD 0)
/-- what a list's pattern has for edges -/
def madeE (E : List Edg) (L : List Int) : List Edg := rowsF (pairF E L) L.length L.length
end Go.Gr
namespace Go.Proofs.YthegabgbakckfaaGreatDoor
open Go.Sx Go.RowKit Go.Reg Go.Gr

set_option maxRecDepth 100000
def pl_r8m : List (Nat × Plan) := [(8, .leaf [1, 0, 0, 0, 1, 0, 0, 0, 1, 2] [1, 2, 3, 5, 6, 7, 0, 4, 8, 9] [0, 0, 0, 6, 14, 0, 0, 96, 224, 511])]
def G_r8m : List FuncId := [65]
theorem cok_r8m : codeOk Tryz.prog G_r8m pl_r8m (Tryz.f89.body.getD .skip) = true := by kernel_rfl
theorem run_r8m (vs : Array Value) (w : World) : (callFunc 89 vs).run C1.P w = .ok (.enter 89 vs) w := by kernel_rfl
set_option maxHeartbeats 4000000 in
theorem rmade_pure (l : List Int) (p : Pt) (L : List Int) (hL : L.length ≤ 1000) (hme : p.edges.length ≤ 9223372036854775807) : Pure C1 89 [dIs l, dPt p, dIs L] (fun y => y = dPt ⟨l, madeE p.edges L⟩) := by
  have hdL : (L.map dI).length = L.length := List.length_map _
  have hL2 : L.length * L.length ≤ 1000 * 1000 := Nat.mul_le_mul hL hL
  refine pure_of c1_ok (pl := pl_r8m) (G := G_r8m) Tryz.func89 rfl Tryz.ntmps89 run_r8m cok_r8m (by simp) ?_
  ((conv => whnf); repeat' ((first | refine odw ?_ | refine ify ?_ | refine ifn ?_ | refine i6 ?_ | refine ati ?_ | refine mst ?_ | refine rmd ?_ | refine ibo (fun _ => ?_) (fun _ => ?_)) <;> conv => whnf))
  refine loop_lo (ι := Nat) (fun a => a ≤ L.length) (fun a => [(8, .d (.int .i64 a)), (7, .own 7), (6, .own 6), (4, .own 4), (2, .d (dIs L))]) (fun a => [(4, .cells 25 [.d (dIs p.labels), .d (dEs p.edges)]), (6, .cells 25 [.d .nils, .d .nils]), (7, .cells 25 [.d (dIs l), .own 301]), (301, .slice 94 2 ((rowsF (pairF p.edges L) L.length a).map dE))]) (fun a => L.length - a) 0 (fun _ => rfl) (Nat.zero_le _) (.ownc 7 301 94 2 rfl rfl (.there _ (.here _)) (.refl _ _)) ⟨rfl, rfl, rfl, rfl, rfl, trivial⟩ ⟨rfl, rfl, rfl, rfl, trivial⟩ ?_
  intro a ha
  refine sxCode_sound c1_ok (G := G_r8m) (pl := pl_r8m) _ _ _ _ (by kernel_rfl) ?_
  by_cases hal : a < L.length
  · ((conv => whnf); repeat' ((first | refine odw ?_ | refine ify ?_ | refine ifn ?_ | refine i6 ?_ | refine ati ?_ | refine mst ?_ | refine rmd ?_ | refine ibo (fun _ => ?_) (fun _ => ?_)) <;> conv => whnf))
    have hx := List.getElem?_eq_getElem hal
    have hxd : (L.map dI)[a]? = some (.int .i64 L[a]) := by rw [List.getElem?_map, hx]; rfl
    have hrl := rowsF_len (pairF p.edges L) L.length a
    have hrl2 : a * L.length ≤ L.length * L.length := Nat.mul_le_mul_right _ ha
    refine loop_lo (ι := Nat) (fun b => a + 1 ≤ b ∧ b ≤ L.length) (fun b => [(9, .d (.int .i64 b)), (8, .d (.int .i64 a)), (7, .own 7), (6, .own 6), (4, .own 4), (2, .d (dIs L))]) (fun b => [(4, .cells 25 [.d (dIs p.labels), .d (dEs p.edges)]), (6, .cells 25 [.d .nils, .d .nils]), (7, .cells 25 [.d (dIs l), .own 301]), (301, .slice 94 2 ((rowsF (pairF p.edges L) L.length a ++ rowF (pairF p.edges L) a b).map dE))]) (fun b => L.length - b) (a + 1) (fun _ => rfl) ⟨Nat.le_refl _, hal⟩ (.refl _ _) ⟨int_is (by omega), rfl, rfl, rfl, rfl, rfl, trivial⟩ ⟨rfl, rfl, rfl, by rw [rowF_start, List.append_nil]; rfl, trivial⟩ ?_
    rintro b ⟨hab, hb⟩
    refine sxCode_sound c1_ok (G := G_r8m) (pl := pl_r8m) _ _ _ _ (by kernel_rfl) ?_
    by_cases hbl : b < L.length
    · have hy := List.getElem?_eq_getElem hbl
      have hyd : (L.map dI)[b]? = some (.int .i64 L[b]) := by rw [List.getElem?_map, hy]; rfl
      have hh := rhas_pure p L[a] L[b] hme
      have hf : pairF p.edges L a b = hasR p.edges L[a] L[b] := by unfold pairF; rw [hx, hy]; rfl
      have hst := rowF_step (f := pairF p.edges L) (a := a) (b := b) (by omega)
      have hrl3 := rowF_len (pairF p.edges L) a b
      have hll : ((rowsF (pairF p.edges L) L.length a ++ rowF (pairF p.edges L) a b).map dE).length ≤ 2000000 := by rw [List.length_map, List.length_append]; omega
      cases hv : hasR p.edges L[a] L[b] with
      | true =>
        rw [hv] at hh hf
        rw [hf, if_pos rfl] at hst
        (conv => whnf)
        (repeat' ((first | refine ord_ok (by (conv => whnf); (repeat' ((first | refine at_da hxd rfl ?_ | refine at_da hyd rfl ?_ | refine call_eqb tab rfl hh rfl ?_ | refine ify ?_ | refine ifn ?_ | refine i6 ?_ | refine ati ?_ | refine mst ?_ | refine rmd ?_ | refine ibo (fun _ => ?_) (fun _ => ?_)) <;> conv => whnf)); (all_goals (repeat' (first | exact trivial | exact rfl | refine And.intro ?_ ?_)))) ?_ | refine at_da hxd rfl ?_ | refine at_da hyd rfl ?_ | refine call_eqb tab rfl hh rfl ?_ | refine ify ?_ | refine ifn ?_ | refine i6 ?_ | refine ati ?_ | refine mst ?_ | refine rmd ?_ | refine ibo (fun _ => ?_) (fun _ => ?_)) <;> conv => whnf))
        refine ⟨b + 1, _, _, ⟨by omega, by omega⟩, .refl _ _, ⟨int_is (by omega), rfl, rfl, rfl, rfl, rfl, trivial⟩, ⟨rfl, rfl, rfl, ?_, trivial⟩, by omega⟩
        refine slice_is ?_
        rw [hst]; simp [dE]
      | false =>
        rw [hv] at hh hf
        rw [hf, if_neg (by decide), List.append_nil] at hst
        (conv => whnf)
        (repeat' ((first | refine ord_ok (by (conv => whnf); (repeat' ((first | refine at_da hxd rfl ?_ | refine at_da hyd rfl ?_ | refine call_eqb tab rfl hh rfl ?_ | refine ify ?_ | refine ifn ?_ | refine i6 ?_ | refine ati ?_ | refine mst ?_ | refine rmd ?_ | refine ibo (fun _ => ?_) (fun _ => ?_)) <;> conv => whnf)); (all_goals (repeat' (first | exact trivial | exact rfl | refine And.intro ?_ ?_)))) ?_ | refine at_da hxd rfl ?_ | refine at_da hyd rfl ?_ | refine call_eqb tab rfl hh rfl ?_ | refine ify ?_ | refine ifn ?_ | refine i6 ?_ | refine ati ?_ | refine mst ?_ | refine rmd ?_ | refine ibo (fun _ => ?_) (fun _ => ?_)) <;> conv => whnf))
        exact ⟨b + 1, _, _, ⟨by omega, by omega⟩, .refl _ _, ⟨int_is (by omega), rfl, rfl, rfl, rfl, rfl, trivial⟩, ⟨rfl, rfl, rfl, slice_is (by rw [hst]), trivial⟩, by omega⟩
    · have hbe : b = L.length := by omega
      subst hbe
      ((conv => whnf); repeat' ((first | refine odw ?_ | refine ify ?_ | refine ifn ?_ | refine i6 ?_ | refine ati ?_ | refine mst ?_ | refine rmd ?_ | refine ibo (fun _ => ?_) (fun _ => ?_)) <;> conv => whnf))
      refine ⟨a + 1, _, _, by omega, .refl _ _, ⟨int_is (by omega), rfl, rfl, rfl, rfl, trivial⟩, ⟨rfl, rfl, rfl, slice_is (by rw [rowsF_step]), trivial⟩, by omega⟩
  · have hae : a = L.length := by omega
    subst hae
    ((conv => whnf); repeat' ((first | refine odw ?_ | refine ify ?_ | refine ifn ?_ | refine i6 ?_ | refine ati ?_ | refine mst ?_ | refine rmd ?_ | refine ibo (fun _ => ?_) (fun _ => ?_)) <;> conv => whnf))
    exact rfl
def pl_r12w : List (Nat × Plan) := [(5, .leaf [0, 0, 1, 0, 0, 0, 1, 0, 1, 6, 3, 0] [0, 1, 3, 4, 5, 2, 6, 7, 8, 9, 10, 11] [0, 0, 2, 0, 0, 24, 56, 126, 254, 510, 1023, 2047])]
def G_r12w : List FuncId := [89]
theorem cok_r12w : codeOk Tryz.prog G_r12w pl_r12w (Tryz.f33.body.getD .skip) = true := by kernel_rfl
theorem run_r12w (vs : Array Value) (w : World) : (callFunc 33 vs).run C1.P w = .ok (.enter 33 vs) w := by kernel_rfl
set_option maxHeartbeats 4000000 in
theorem whole_pure (G : Gr) (L : List Int) (hL : L.length ≤ 1000) (hGe : G.edges.length ≤ 9223372036854775807) (hv : ∀ x ∈ L, 0 ≤ x ∧ x < G.labels.length) : Pure C1 33 [dM G.labels G.edges, dIs L] (fun y => y = dPt ⟨L.map (labelV G), madeE G.edges L⟩) := by
  have hdL : (L.map dI).length = L.length := List.length_map _
  have hdG : (G.labels.map dI).length = G.labels.length := List.length_map _
  refine pure_of c1_ok (pl := pl_r12w) (G := G_r12w) Tryz.func33 rfl Tryz.ntmps33 run_r12w cok_r12w (by simp) ?_
  ((conv => whnf); repeat' ((first | refine odw ?_ | refine ify ?_ | refine ifn ?_ | refine i6 ?_ | refine ati ?_ | refine mst ?_ | refine rmd ?_ | refine ibo (fun _ => ?_) (fun _ => ?_)) <;> conv => whnf))
  refine loop_lo (ι := Nat) (fun i => i ≤ L.length) (fun i => [(6, .d (.int .i64 i)), (5, .own 300), (4, .own 4), (2, .own 2), (1, .d (dIs L))]) (fun i => [(2, .cells 28 [.d (dIs G.labels), .d (dEs G.edges)]), (4, .cells 25 [.d .nils, .d .nils]), (300, .slice 3 1 (((L.take i).map (labelV G)).map dI))]) (fun i => L.length - i) 0 (fun _ => rfl) (Nat.zero_le _) (.own 5 300 3 1 rfl rfl (.refl _ _)) ⟨rfl, rfl, rfl, rfl, rfl, trivial⟩ ⟨rfl, rfl, rfl, trivial⟩ ?_
  intro i hi
  refine sxCode_sound c1_ok (G := G_r12w) (pl := pl_r12w) _ _ _ _ (by kernel_rfl) ?_
  by_cases hil : i < L.length
  · have hx := List.getElem?_eq_getElem hil
    have hxv := hv _ (List.getElem_mem hil)
    generalize L[i] = x at hx hxv
    obtain ⟨v, rfl⟩ := Int.eq_ofNat_of_zero_le hxv.1
    have hvl : v < G.labels.length := by omega
    have hxd : (L.map dI)[i]? = some (.int .i64 v) := by rw [List.getElem?_map, hx]; rfl
    have hlv : (G.labels.map dI)[v]? = some (.int .i64 (labelV G v)) := by
      rw [List.getElem?_map, List.getElem?_eq_getElem hvl]
      unfold labelV
      rw [if_pos (by omega), Int.toNat_natCast, List.getElem?_eq_getElem hvl]; rfl
    have hll : (((L.take i).map (labelV G)).map dI).length = i := by simp only [List.length_map, List.length_take]; omega
    (conv => whnf)
    (repeat' ((first | refine ord_ok (by (conv => whnf); (repeat' ((first | refine at_da hxd rfl ?_ | refine at_da hlv rfl ?_ | refine ify ?_ | refine ifn ?_ | refine i6 ?_ | refine ati ?_ | refine mst ?_ | refine rmd ?_ | refine ibo (fun _ => ?_) (fun _ => ?_)) <;> conv => whnf)); (all_goals (repeat' (first | exact trivial | exact rfl | refine And.intro ?_ ?_)))) ?_ | refine at_da hxd rfl ?_ | refine at_da hlv rfl ?_ | refine ify ?_ | refine ifn ?_ | refine i6 ?_ | refine ati ?_ | refine mst ?_ | refine rmd ?_ | refine ibo (fun _ => ?_) (fun _ => ?_)) <;> conv => whnf))
    refine ⟨i + 1, _, _, by omega, .refl _ _, ⟨rfl, rfl, rfl, rfl, rfl, trivial⟩, ⟨rfl, rfl, ?_, trivial⟩, by omega⟩
    refine slice_is ?_
    rw [List.take_add_one, hx]; simp [dI]
  · have e : L.take i = L := List.take_of_length_le (by omega)
    rw [e]
    have hmd := rmade_pure (L.map (labelV G)) ⟨G.labels, G.edges⟩ L hL hGe
    ((conv => whnf); repeat' ((first | refine odw ?_ | refine ify ?_ | refine ifn ?_ | refine i6 ?_ | refine ati ?_ | refine mst ?_ | refine rmd ?_ | refine ibo (fun _ => ?_) (fun _ => ?_)) <;> conv => whnf))
    refine call_frz 300 rfl ?_
    refine call_eq rfl hmd ?_
    ((conv => whnf); repeat' ((first | refine odw ?_ | refine ify ?_ | refine ifn ?_ | refine i6 ?_ | refine ati ?_ | refine mst ?_ | refine rmd ?_ | refine ibo (fun _ => ?_) (fun _ => ?_)) <;> conv => whnf))
    exact rfl
def pl_l8of : List (Nat × Plan) := [(1, .leaf [0, 1, 0, 1, 2, 0, 3] [0, 2, 1, 3, 4, 5, 6] [0, 1, 0, 4, 12, 31, 63])]
def G_l8of : List FuncId := [59]
theorem cok_l8of : codeOk Tryz.prog G_l8of pl_l8of (Tryz.f16.body.getD .skip) = true := by kernel_rfl
theorem run_l8of (vs : Array Value) (w : World) : (callFunc 16 vs).run C1.P w = .ok (.enter 16 vs) w := by kernel_rfl
theorem lawpt_pure (p : Pt) (hm : p.edges.length ≤ 4294967296) : Pure C1 16 [dPt p] (fun y => y = dPt p) := by
  have h := lawof_pure p.edges hm
  refine pure_of c1_ok (pl := pl_l8of) (G := G_l8of) Tryz.func16 rfl Tryz.ntmps16 run_l8of cok_l8of (by simp) ?_
  (conv => whnf)
  (repeat' ((first | refine ord_ok (by (conv => whnf); (repeat' ((first | refine call_eq rfl h ?_ | refine ify ?_ | refine ifn ?_ | refine i6 ?_ | refine ati ?_ | refine mst ?_ | refine rmd ?_ | refine ibo (fun _ => ?_) (fun _ => ?_)) <;> conv => whnf)); (all_goals (repeat' (first | exact trivial | exact rfl | refine And.intro ?_ ?_)))) ?_ | refine call_eq rfl h ?_ | refine ify ?_ | refine ifn ?_ | refine i6 ?_ | refine ati ?_ | refine mst ?_ | refine rmd ?_ | refine ibo (fun _ => ?_) (fun _ => ?_)) <;> conv => whnf))
  exact rfl
end Go.Proofs.YthegabgbakckfaaGreatDoor
end
