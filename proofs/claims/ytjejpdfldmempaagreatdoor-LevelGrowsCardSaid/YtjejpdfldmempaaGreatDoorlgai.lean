/- Merged: Grg. -/
import Derived.Test.YtjejpdfldmempaaGreatDoorOen
import Derived.Test.YtjejpdfldmempaaGreatDoorlgad
import Derived.Test.YtjejpdfldmempaaGreatDoorlgac
section
namespace Go.Proofs.YtjejpdfldmempaaGreatDoor
open Go.Sx Go.RowKit Go.Reg Go.Gr
set_option maxRecDepth 100000
theorem part_intE (cs : Array Value) (i : Nat) (v : Value) (h : cs[i]? = some v) (w : World) : (part 3 cs i).run Tryz.prog w = .ok v w := by
 have e : (isAgg 3).run Tryz.prog w = .ok false w := by kernel_rfl
 simp [part, e, h]
theorem int_equalE (n : Nat) (a b : Int) (w : World) : (Op.equalIn (n + 1) 3 (.int .i64 a) (.int .i64 b)).run Tryz.prog w = .ok (a == b) w := by
 simp [Op.equalIn, run_underlying Tryz.underlying3]
theorem edge_equalIn (n : Nat) (k k' : Edg) (w : World) : (Op.equalIn (n + 2) 103 (valE k) (valE k')).run Tryz.prog w = .ok (decide (k = k')) w := by
 obtain ⟨a, b⟩ := k
 obtain ⟨c, d⟩ := k'
 unfold Op.equalIn
 simp [run_underlying Tryz.underlying103, valE, program, Sem.run, part_intE]
 simp only [int_equalE, Result.andThen_ok]
 by_cases h1 : a = c <;> by_cases h2 : b = d <;> simp [h1, h2]
theorem edge_equal (k k' : Edg) (w : World) : (Op.equal 103 (valE k) (valE k')).run Tryz.prog w = .ok (decide (k = k')) w := edge_equalIn 9998 k k' w
theorem edge_check (em : Bool) (k : Edg) (w : World) : (Instr.checkKey em 10000 103 (valE k)).run Tryz.prog w = .ok () w := by
 obtain ⟨a, b⟩ := k; kernel_rfl
theorem edgeOk : KeyOk Tryz.prog 103 valE :=
 KeyOk.of_equal Tryz.underlying103 (fun _ _ => rfl) edge_check (fun k k' w => edge_equal k k' w) (fun ⟨a, b⟩ => by simp [valE, Instr.sameBits])
def edgM : MapE C1.P Edg Bool where
 t := 241
 kt := 103
 et := 4
 encK := valE
 encV := .bool
 dK := dE
 dV := .bool
 z := false
 ht := Tryz.underlying241
 hk := edgeOk
 hz := by intro w; kernel_rfl
 repK := by
  rintro O w k v ⟨cs, h, rfl⟩
  simp only [dE, RepC, RepCs] at h
  obtain ⟨_, _, rfl, rfl, _, _, rfl, rfl, rfl⟩ := h
  rfl
 repV := by
  rintro O w x v ⟨cs, h, rfl⟩
  simp only [RepC] at h
  subst h; rfl
 ofV := fun O w x => ⟨[.bool x], by simp [RepC], rfl⟩
def seenOf (l : List Edg) : List (Edg × Bool) := l.foldl (fun m e => Reg.put m e true) []
theorem seenOf_snoc (l : List Edg) (e : Edg) : seenOf (l ++ [e]) = Reg.put (seenOf l) e true := by simp [seenOf, List.foldl_append]
theorem take_snoc' {E : List Edg} {i : Nat} {e : Edg} (h : E[i]? = some e) : E.take (i + 1) = E.take i ++ [e] := take_snoc h
theorem seen_get (l : List Edg) (q : Edg) : (Reg.get (seenOf l) q).getD false = decide (q ∈ l) := by
 have key : ∀ l : List Edg, Reg.get (seenOf l.reverse) q = if q ∈ l then some true else none := by
  intro l
  induction l with
  | nil => rfl
  | cons e l ih =>
    rw [List.reverse_cons, seenOf_snoc, Reg.get_put, ih]
    by_cases h : e = q
    ·simp [h]
    ·have h' : ¬ q = e := fun x => h x.symm
     simp [h, h']
 have := key l.reverse
 rw [List.reverse_reverse] at this
 rw [this]
 by_cases h : q ∈ l <;> simp [h]
theorem seen_look (l : List Edg) (q : Edg) : (Reg.get (seenOf l) q).getD edgM.z = decide (q ∈ l) := seen_get l q
def graphS : ByteArray := ⟨#[103, 114, 97, 112, 104]⟩
def labelS : ByteArray := ⟨#[108, 97, 98, 101, 108]⟩
def edgeS : ByteArray := ⟨#[101, 100, 103, 101]⟩
def dG (G : Gr) : Da := .ref (.agg [dIs G.labels, dEs G.edges, dIs (firstL G.labels.length G.edges), dIs (nearL G.labels.length G.edges), dIs (idsL G.labels.length G.edges)])
def errD : Int × Int × Bool → Da
 | (c, a, true) => dS edgeS (dF c a edgeS)
 | (c, a, false) => dF c a (if c = 6 then graphS else labelS)
def newY (labels : List Int) (edges : List Edg) : Da := match newErr labels edges with
 | some x => .tuple [.nilp, errD x]
 | none => .tuple [dG ⟨labels, canon edges⟩, .nili]
theorem newY_some {labels : List Int} {edges : List Edg} {x : Int × Int × Bool} (h : newErr labels edges = some x) : newY labels edges = .tuple [.nilp, errD x] := by
 unfold newY; rw [h]
theorem newY_none {labels : List Int} {edges : List Edg} (h : newErr labels edges = none) : newY labels edges = .tuple [dG ⟨labels, canon edges⟩, .nili] := by
 unfold newY; rw [h]
def pl_new : List (Nat × Plan) := [(18, .leaf [0, 0, 0, 0, 1, 1, 2, 6, 3, 0, 0, 3] [0, 1, 2, 3, 4, 5, 6, 7, 8, 9, 10, 11] [0, 0, 2, 6, 14, 0, 32, 96, 254, 511, 1023, 2047])]
def G_new : List FuncId := [165]
theorem cok_new : codeOk Tryz.prog G_new pl_new (Tryz.f113.body.getD .skip) = true := by kernel_rfl
theorem run_new (vs : Array Value) (w : World) : (callFunc 113 vs).run C1.P w = .ok (.enter 113 vs) w := by kernel_rfl
def pl_check : List (Nat × Plan) := []
def G_check : List FuncId := []
theorem cok_check : codeOk Tryz.prog G_check pl_check (Tryz.f164.body.getD .skip) = true := by kernel_rfl
theorem run_check (vs : Array Value) (w : World) : (callFunc 164 vs).run C1.P w = .ok (.enter 164 vs) w := by kernel_rfl
set_option maxHeartbeats 4000000 in
theorem new_pure (labels : List Int) (edges : List Edg) : Pure C1 113 [dIs labels, dEs edges] (fun y => y = newY labels edges) := by
 have hll : (labels.map dI).length = labels.length := List.length_map _
 have hel : (edges.map dE).length = edges.length := List.length_map _
 refine pure_of c1_ok (pl := pl_new) (G := G_new) Tryz.func113 rfl Tryz.ntmps113 run_new cok_new (by simp) ?_
 by_cases h1 : 4096 < labels.length
 ·rw [newY_some (newErr_large (.inl h1))]
  ((conv => whnf); repeat' ((first | refine odw ?_ | refine ify ?_ | refine ifn ?_ | refine i6 ?_ | refine ati ?_ | refine mst ?_ | refine rmd ?_ | refine ibo (fun _ => ?_) (fun _ => ?_)) <;> conv => whnf))
  refine call_pure rfl (fnew_pure 6 0 graphS) ?_; rintro y rfl
  ((conv => whnf); repeat' ((first | refine odw ?_ | refine ify ?_ | refine ifn ?_ | refine i6 ?_ | refine ati ?_ | refine mst ?_ | refine rmd ?_ | refine ibo (fun _ => ?_) (fun _ => ?_)) <;> conv => whnf))
  exact rfl
 by_cases h2 : 16384 < edges.length
 ·rw [newY_some (newErr_large (.inr h2))]
  ((conv => whnf); repeat' ((first | refine odw ?_ | refine ify ?_ | refine ifn ?_ | refine i6 ?_ | refine ati ?_ | refine mst ?_ | refine rmd ?_ | refine ibo (fun _ => ?_) (fun _ => ?_)) <;> conv => whnf))
  refine call_pure rfl (fnew_pure 6 0 graphS) ?_; rintro y rfl
  ((conv => whnf); repeat' ((first | refine odw ?_ | refine ify ?_ | refine ifn ?_ | refine i6 ?_ | refine ati ?_ | refine mst ?_ | refine rmd ?_ | refine ibo (fun _ => ?_) (fun _ => ?_)) <;> conv => whnf))
  exact rfl
 have h0 : ¬ (4096 < labels.length ∨ 16384 < edges.length) := by omega
 ((conv => whnf); repeat' ((first | refine odw ?_ | refine ify ?_ | refine ifn ?_ | refine i6 ?_ | refine ati ?_ | refine mst ?_ | refine rmd ?_ | refine ibo (fun _ => ?_) (fun _ => ?_)) <;> conv => whnf))
 refine loop_lo (ι := Nat) (fun v => v ≤ labels.length ∧ ∀ x ∈ labels.take v, badLabel x = false) (fun v => [(24, .d (.int .i64 v)), (23, .d (.int .i64 (labels.map dI).length)), (22, .d (dIs labels)), (1, .d (dEs edges)), (0, .d (dIs labels))])
  (fun _ => []) (fun v => labels.length - v) 0 (fun _ => rfl) ⟨Nat.zero_le _, by simp⟩ (.refl _ _) ⟨rfl, rfl, rfl, rfl, rfl, trivial⟩ trivial ?_
 rintro v ⟨hv, hgood⟩
 refine sxCode_sound c1_ok (G := G_new) (pl := pl_new) _ _ _ _ (by kernel_rfl) ?_
 by_cases hlt : v < labels.length
 ·have hx := List.getElem?_eq_getElem hlt
  generalize labels[v] = x at hx
  have hxd : (labels.map dI)[v]? = some (.int .i64 x) := by rw [List.getElem?_map, hx]; rfl
  by_cases b1 : x < 0
  ·have hb : badLabel x = true := by simp [badLabel, b1]
   rw [newY_some (newErr_label h0 hx hb hgood)]
   (repeat' ((first | refine ord_ok ?_ ?_ | refine at_da hxd (by omega) ?_ | refine ify ?_ | refine ifn ?_ | refine i6 ?_ | refine ati ?_ | refine mst ?_ | refine rmd ?_ | refine ibo (fun _ => ?_) (fun _ => ?_) | exact oend) <;> conv => whnf))
   refine call_pure rfl (fnew_pure 3 v labelS) ?_; rintro y rfl
   ((conv => whnf); repeat' ((first | refine odw ?_ | refine ify ?_ | refine ifn ?_ | refine i6 ?_ | refine ati ?_ | refine mst ?_ | refine rmd ?_ | refine ibo (fun _ => ?_) (fun _ => ?_)) <;> conv => whnf))
   exact rfl
  by_cases b2 : 255 < x
  ·have hb : badLabel x = true := by simp [badLabel, b2]
   rw [newY_some (newErr_label h0 hx hb hgood)]
   (repeat' ((first | refine ord_ok ?_ ?_ | refine at_da hxd (by omega) ?_ | refine ify ?_ | refine ifn ?_ | refine i6 ?_ | refine ati ?_ | refine mst ?_ | refine rmd ?_ | refine ibo (fun _ => ?_) (fun _ => ?_) | exact oend) <;> conv => whnf))
   refine call_pure rfl (fnew_pure 3 v labelS) ?_; rintro y rfl
   ((conv => whnf); repeat' ((first | refine odw ?_ | refine ify ?_ | refine ifn ?_ | refine i6 ?_ | refine ati ?_ | refine mst ?_ | refine rmd ?_ | refine ibo (fun _ => ?_) (fun _ => ?_)) <;> conv => whnf))
   exact rfl
  ·have hb : badLabel x = false := by simp [badLabel]; omega
   (repeat' ((first | refine ord_ok ?_ ?_ | refine at_da hxd (by omega) ?_ | refine ify ?_ | refine ifn ?_ | refine i6 ?_ | refine ati ?_ | refine mst ?_ | refine rmd ?_ | refine ibo (fun _ => ?_) (fun _ => ?_) | exact oend) <;> conv => whnf))
   refine ⟨v + 1, _, _, ⟨hlt, ?_⟩, .refl _ _, ⟨rfl, rfl, rfl, rfl, rfl, trivial⟩, trivial, by omega⟩
   intro z hz
   rw [List.take_add_one, hx] at hz
   rcases List.mem_append.1 hz with hz | hz
   ·exact hgood z hz
   ·simp at hz; subst hz; exact hb
 ·have hve : labels.take v = labels := List.take_of_length_le (by omega)
  rw [hve] at hgood
  have hvn : v = labels.length := by omega
  subst hvn
  clear hve hv hlt
  ((conv => whnf); repeat' ((first | refine odw ?_ | refine ify ?_ | refine ifn ?_ | refine i6 ?_ | refine ati ?_ | refine mst ?_ | refine rmd ?_ | refine ibo (fun _ => ?_) (fun _ => ?_)) <;> conv => whnf))
  refine op_makeMap edgM 38 rfl rfl (.inr rfl) rfl ?_
  ((conv => whnf); repeat' ((first | refine odw ?_ | refine ify ?_ | refine ifn ?_ | refine i6 ?_ | refine ati ?_ | refine mst ?_ | refine rmd ?_ | refine ibo (fun _ => ?_) (fun _ => ?_)) <;> conv => whnf))
  refine call_mksl 40 rfl rfl (clone_sl labels (by omega)) ?_; rintro ds rfl
  ((conv => whnf); repeat' ((first | refine odw ?_ | refine ify ?_ | refine ifn ?_ | refine i6 ?_ | refine ati ?_ | refine mst ?_ | refine rmd ?_ | refine ibo (fun _ => ?_) (fun _ => ?_)) <;> conv => whnf))
  refine loop_lo (ι := Nat) (fun i => i ≤ edges.length ∧ ∀ j, j < i → ecodeAt labels.length edges j = 0) (fun i => [(45, .d (.int .i64 i)), (44, .d (.int .i64 (edges.map dE).length)), (43, .d (dEs edges)), (9, .own 42), (8, .own 38), (0, .d (dIs labels))])
   (fun i => [(38, (edgM.obj (seenOf ((edges.take i).map turn))).own), (42, .cells 243 [.d (dIs labels), .own 300, .d .nils, .d .nils, .d .nils]), (300, .slice 103 2 (((edges.take i).map turn).map dE))])
   (fun i => edges.length - i) 0 (fun _ => rfl) ⟨Nat.zero_le _, fun j hj => absurd hj (Nat.not_lt_zero j)⟩ (.frz 40 rfl (.ownc 42 300 103 2 rfl rfl (.there _ (.here _)) (.refl _ _))) ⟨rfl, rfl, rfl, rfl, rfl, rfl, trivial⟩ ⟨rfl, rfl, rfl, trivial⟩ ?_
  rintro i ⟨hi, hcode⟩
  refine sxCode_sound c1_ok (G := G_new) (pl := pl_new) _ _ _ _ (by kernel_rfl) ?_
  by_cases hlt : i < edges.length
  ·have hx := List.getElem?_eq_getElem hlt
   have htl : (((edges.take i).map turn).map dE).length = i := by rw [List.length_map, List.length_map, List.length_take]; omega
   have hec : ecodeAt labels.length edges i = ecode labels.length ((edges.take i).map turn) edges[i] := by unfold ecodeAt; rw [hx]
   generalize edges[i] = e at hx hec
   have hxd : (edges.map dE)[i]? = some (.agg [.int .i64 e.a, .int .i64 e.b]) := by rw [List.getElem?_map, hx]; rfl
   have hSl : ((edges.take i).map turn).length = i := by rw [List.length_map, List.length_take]; omega
   generalize hS : (edges.take i).map turn = S at hec htl hSl ⊢
   (repeat' ((first | refine ord_ok ?_ ?_ | refine at_da hxd (by omega) ?_ | refine ify ?_ | refine ifn ?_ | refine i6 ?_ | refine ati ?_ | refine mst ?_ | refine rmd ?_ | refine ibo (fun _ => ?_) (fun _ => ?_) | exact oend) <;> conv => whnf))
   refine call_inline 200 [(45, .d (.int .i64 i)), (44, .d (.int .i64 (edges.map dE).length)), (43, .d (dEs edges)), (10, .d (.int .i64 i)), (11, .own 11), (9, .own 42), (8, .own 38), (0, .d (dIs labels))] c1_ok (pl := pl_check) (G := G_check) Tryz.func164 rfl Tryz.ntmps164 run_check cok_check (Nat.le_of_ble_eq_true rfl) rfl ⟨rfl, rfl, rfl, rfl, rfl, rfl, rfl, rfl, trivial⟩ rfl ?_
   intro us
   by_cases c1 : min e.a e.b < 0
   ·have hc : ecodeAt labels.length edges i = 3 := by rw [hec]; unfold ecode; rw [if_pos (.inl c1)]
    rw [newY_some (newErr_edge h0 hgood hlt (by rw [hc]; decide) hcode), hc]
    ((conv => whnf); repeat' ((first | refine odw ?_ | refine ify ?_ | refine ifn ?_ | refine i6 ?_ | refine ati ?_ | refine mst ?_ | refine rmd ?_ | refine ibo (fun _ => ?_) (fun _ => ?_)) <;> conv => whnf))
    refine call_pure rfl (fnew_pure 3 i edgeS) ?_; rintro y rfl
    ((conv => whnf); repeat' ((first | refine odw ?_ | refine ify ?_ | refine ifn ?_ | refine i6 ?_ | refine ati ?_ | refine mst ?_ | refine rmd ?_ | refine ibo (fun _ => ?_) (fun _ => ?_)) <;> conv => whnf))
    refine call_pure rfl (in_f_pure edgeS 3 i edgeS) ?_; rintro y rfl
    (repeat' ((first | refine ord_ok ?_ ?_ | refine same_ok ?_ | refine ify ?_ | refine ifn ?_ | refine i6 ?_ | refine ati ?_ | refine mst ?_ | refine rmd ?_ | refine ibo (fun _ => ?_) (fun _ => ?_) | exact oend) <;> conv => whnf))
    exact rfl
   by_cases c2 : (labels.length : Int) ≤ max e.a e.b
   ·have hc : ecodeAt labels.length edges i = 3 := by rw [hec]; unfold ecode; rw [if_pos (.inr c2)]
    rw [newY_some (newErr_edge h0 hgood hlt (by rw [hc]; decide) hcode), hc]
    ((conv => whnf); repeat' ((first | refine odw ?_ | refine ify ?_ | refine ifn ?_ | refine i6 ?_ | refine ati ?_ | refine mst ?_ | refine rmd ?_ | refine ibo (fun _ => ?_) (fun _ => ?_)) <;> conv => whnf))
    refine call_pure rfl (fnew_pure 3 i edgeS) ?_; rintro y rfl
    ((conv => whnf); repeat' ((first | refine odw ?_ | refine ify ?_ | refine ifn ?_ | refine i6 ?_ | refine ati ?_ | refine mst ?_ | refine rmd ?_ | refine ibo (fun _ => ?_) (fun _ => ?_)) <;> conv => whnf))
    refine call_pure rfl (in_f_pure edgeS 3 i edgeS) ?_; rintro y rfl
    (repeat' ((first | refine ord_ok ?_ ?_ | refine same_ok ?_ | refine ify ?_ | refine ifn ?_ | refine i6 ?_ | refine ati ?_ | refine mst ?_ | refine rmd ?_ | refine ibo (fun _ => ?_) (fun _ => ?_) | exact oend) <;> conv => whnf))
    exact rfl
   by_cases c3 : e.a = e.b
   ·have hc : ecodeAt labels.length edges i = 1 := by rw [hec]; unfold ecode; rw [if_neg (by omega), if_pos c3]
    rw [newY_some (newErr_edge h0 hgood hlt (by rw [hc]; decide) hcode), hc]
    ((conv => whnf); repeat' ((first | refine odw ?_ | refine ify ?_ | refine ifn ?_ | refine i6 ?_ | refine ati ?_ | refine mst ?_ | refine rmd ?_ | refine ibo (fun _ => ?_) (fun _ => ?_)) <;> conv => whnf))
    refine call_pure rfl (fnew_pure 1 i edgeS) ?_; rintro y rfl
    ((conv => whnf); repeat' ((first | refine odw ?_ | refine ify ?_ | refine ifn ?_ | refine i6 ?_ | refine ati ?_ | refine mst ?_ | refine rmd ?_ | refine ibo (fun _ => ?_) (fun _ => ?_)) <;> conv => whnf))
    refine call_pure rfl (in_f_pure edgeS 1 i edgeS) ?_; rintro y rfl
    (repeat' ((first | refine ord_ok ?_ ?_ | refine same_ok ?_ | refine ify ?_ | refine ifn ?_ | refine i6 ?_ | refine ati ?_ | refine mst ?_ | refine rmd ?_ | refine ibo (fun _ => ?_) (fun _ => ?_) | exact oend) <;> conv => whnf))
    exact rfl
   by_cases c4 : turn e ∈ S
   ·have hc : ecodeAt labels.length edges i = 4 := by rw [hec]; unfold ecode; rw [if_neg (by omega), if_neg c3, if_pos c4]
    rw [newY_some (newErr_edge h0 hgood hlt (by rw [hc]; decide) hcode), hc]
    ((conv => whnf); repeat' ((first | refine odw ?_ | refine ify ?_ | refine ifn ?_ | refine i6 ?_ | refine ati ?_ | refine mst ?_ | refine rmd ?_ | refine ibo (fun _ => ?_) (fun _ => ?_)) <;> conv => whnf))
    refine call_pure rfl (turned_pure e) ?_; rintro y rfl
    ((conv => whnf); repeat' ((first | refine odw ?_ | refine ify ?_ | refine ifn ?_ | refine i6 ?_ | refine ati ?_ | refine mst ?_ | refine rmd ?_ | refine ibo (fun _ => ?_) (fun _ => ?_)) <;> conv => whnf))
    refine op_lookup edgM (seenOf S) 38 (turn e) rfl rfl rfl rfl (.inr rfl) rfl ?_
    rw [seen_look, show decide (turn e ∈ S) = true from decide_eq_true c4]
    ((conv => whnf); repeat' ((first | refine odw ?_ | refine ify ?_ | refine ifn ?_ | refine i6 ?_ | refine ati ?_ | refine mst ?_ | refine rmd ?_ | refine ibo (fun _ => ?_) (fun _ => ?_)) <;> conv => whnf))
    refine call_pure rfl (fnew_pure 4 i edgeS) ?_; rintro y rfl
    ((conv => whnf); repeat' ((first | refine odw ?_ | refine ify ?_ | refine ifn ?_ | refine i6 ?_ | refine ati ?_ | refine mst ?_ | refine rmd ?_ | refine ibo (fun _ => ?_) (fun _ => ?_)) <;> conv => whnf))
    refine call_pure rfl (in_f_pure edgeS 4 i edgeS) ?_; rintro y rfl
    (repeat' ((first | refine ord_ok ?_ ?_ | refine same_ok ?_ | refine ify ?_ | refine ifn ?_ | refine i6 ?_ | refine ati ?_ | refine mst ?_ | refine rmd ?_ | refine ibo (fun _ => ?_) (fun _ => ?_) | exact oend) <;> conv => whnf))
    exact rfl
   ·have hc : ecodeAt labels.length edges i = 0 := by rw [hec]; unfold ecode; rw [if_neg (by omega), if_neg c3, if_neg c4]
    have hsn : (edges.take (i + 1)).map turn = S ++ [turn e] := by rw [take_snoc' hx, List.map_append, hS]; rfl
    ((conv => whnf); repeat' ((first | refine odw ?_ | refine ify ?_ | refine ifn ?_ | refine i6 ?_ | refine ati ?_ | refine mst ?_ | refine rmd ?_ | refine ibo (fun _ => ?_) (fun _ => ?_)) <;> conv => whnf))
    refine call_pure rfl (turned_pure e) ?_; rintro y rfl
    ((conv => whnf); repeat' ((first | refine odw ?_ | refine ify ?_ | refine ifn ?_ | refine i6 ?_ | refine ati ?_ | refine mst ?_ | refine rmd ?_ | refine ibo (fun _ => ?_) (fun _ => ?_)) <;> conv => whnf))
    refine op_lookup edgM (seenOf S) 38 (turn e) rfl rfl rfl rfl (.inr rfl) rfl ?_
    rw [seen_look, show decide (turn e ∈ S) = false from decide_eq_false c4]
    (repeat' ((first | refine ord_ok ?_ ?_ | refine same_ok ?_ | refine ify ?_ | refine ifn ?_ | refine i6 ?_ | refine ati ?_ | refine mst ?_ | refine rmd ?_ | refine ibo (fun _ => ?_) (fun _ => ?_) | exact oend) <;> conv => whnf))
    refine call_pure rfl (turned_pure e) ?_; rintro y rfl
    ((conv => whnf); repeat' ((first | refine odw ?_ | refine ify ?_ | refine ifn ?_ | refine i6 ?_ | refine ati ?_ | refine mst ?_ | refine rmd ?_ | refine ibo (fun _ => ?_) (fun _ => ?_)) <;> conv => whnf))
    refine op_update edgM (seenOf S) 38 (turn e) true rfl rfl rfl rfl rfl rfl rfl ?_
    rw [← seenOf_snoc, ← hsn]
    ((conv => whnf); repeat' ((first | refine odw ?_ | refine ify ?_ | refine ifn ?_ | refine i6 ?_ | refine ati ?_ | refine mst ?_ | refine rmd ?_ | refine ibo (fun _ => ?_) (fun _ => ?_)) <;> conv => whnf))
    refine call_pure rfl (turned_pure e) ?_; rintro y rfl
    ((conv => whnf); repeat' ((first | refine odw ?_ | refine ify ?_ | refine ifn ?_ | refine i6 ?_ | refine ati ?_ | refine mst ?_ | refine rmd ?_ | refine ibo (fun _ => ?_) (fun _ => ?_)) <;> conv => whnf))
    have hfin : S.map dE ++ [dE (turn e)] = ((edges.take (i + 1)).map turn).map dE := by rw [hsn, List.map_append]; rfl
    refine ⟨i + 1, _, _, ⟨hlt, ?_⟩, .refl _ _, ⟨rfl, rfl, rfl, rfl, rfl, rfl, trivial⟩, ⟨rfl, rfl, slice_is hfin, trivial⟩, by omega⟩
    intro j hj
    rcases Nat.lt_succ_iff_lt_or_eq.1 hj with h | h
    ·exact hcode j h
    ·rw [h]; exact hc
  ·have hie : edges.take i = edges := List.take_of_length_le (by omega)
   rw [hie]
   have hin : i = edges.length := by omega
   subst hin
   rw [newY_none (newErr_none h0 hgood hcode)]
   ((conv => whnf); repeat' ((first | refine odw ?_ | refine ify ?_ | refine ifn ?_ | refine i6 ?_ | refine ati ?_ | refine mst ?_ | refine rmd ?_ | refine ibo (fun _ => ?_) (fun _ => ?_)) <;> conv => whnf))
   have hnd := (edges_ok hcode).1
   have hok := canon_ok (newErr_none h0 hgood hcode)
   refine call_tsl (i := 300) rfl rfl (sort_tsl (edges.map turn) (by rw [List.length_map]; omega)) ?_
   rintro y ds ⟨out, rfl, hp, ho⟩
   obtain rfl := canon_eq hnd hp ho
   ((conv => whnf); repeat' ((first | refine odw ?_ | refine ify ?_ | refine ifn ?_ | refine i6 ?_ | refine ati ?_ | refine mst ?_ | refine rmd ?_ | refine ibo (fun _ => ?_) (fun _ => ?_)) <;> conv => whnf))
   refine call_frz 300 rfl ?_
   refine call_cells (i := 42) rfl rfl rfl (rows_cells labels (canon edges) (by omega) (by rw [canon_len]; omega) hok.edge) ?_
   rintro y ys rfl
   ((conv => whnf); repeat' ((first | refine odw ?_ | refine ify ?_ | refine ifn ?_ | refine i6 ?_ | refine ati ?_ | refine mst ?_ | refine rmd ?_ | refine ibo (fun _ => ?_) (fun _ => ?_)) <;> conv => whnf))
   exact rfl
end Go.Proofs.YtjejpdfldmempaaGreatDoor
end
