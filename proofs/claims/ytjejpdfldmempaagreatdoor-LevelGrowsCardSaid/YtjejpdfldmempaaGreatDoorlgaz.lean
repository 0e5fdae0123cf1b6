/- Merged: Pgx. -/
import Derived.Test.YtjejpdfldmempaaGreatDoorOen
import Derived.Test.YtjejpdfldmempaaGreatDoorlgat
import Derived.Test.YtjejpdfldmempaaGreatDoorlgay
import Derived.Test.YtjejpdfldmempaaGreatDoorlgas
section
namespace Go.Proofs.YtjejpdfldmempaaGreatDoor
open Go.Sx Go.RowKit Go.Reg Go.Gr
set_option maxRecDepth 100000
def pl_pgrs : List (Nat × Plan) := []
def G_pgrs : List FuncId := []
theorem cok_pgrs : codeOk Tryz.prog G_pgrs pl_pgrs (Tryz.f116.body.getD .skip) = true := by kernel_rfl
theorem run_pgrs (vs : Array Value) (w : World) : (callFunc 116 vs).run C1.P w = .ok (.enter 116 vs) w := by kernel_rfl
theorem prights_pure (l : List Opp) (h16 : l.length ≤ 16) (hok : ∀ o ∈ l, codeO o = 0) : Pure C1 116 [dOs l] (fun y => y = .nili) := by
 have hl : (l.map dO).length = l.length := List.length_map _
 refine pure_of c1_ok (pl := pl_pgrs) (G := G_pgrs) Tryz.func116 rfl Tryz.ntmps116 run_pgrs cok_pgrs (by simp) ?_
 ((conv => whnf); repeat' ((first | refine odw ?_ | refine ify ?_ | refine ifn ?_ | refine i6 ?_ | refine ati ?_ | refine mst ?_ | refine rmd ?_ | refine ibo (fun _ => ?_) (fun _ => ?_)) <;> conv => whnf))
 refine loop_lo (ι := Nat) (fun i => i ≤ l.length) (fun i => [(12, .d (.int .i64 i)), (11, .d (.int .i64 (l.map dO).length)), (10, .d (dOs l))]) (fun _ => []) (fun i => l.length - i) 0 (fun _ => rfl) (Nat.zero_le _) (.refl _ _) ⟨rfl, rfl, rfl, trivial⟩ trivial ?_
 intro i hi
 refine sxCode_sound c1_ok (G := G_pgrs) (pl := pl_pgrs) _ _ _ _ (by kernel_rfl) ?_
 by_cases hil : i < l.length
 ·have hx := List.getElem?_eq_getElem hil
  have hoi := hok _ (List.getElem_mem hil)
  generalize l[i] = o at hx hoi
  have hxd : (l.map dO)[i]? = some (.agg [.int .i64 o.kind, .int .i64 o.n]) := by rw [List.getElem?_map, hx]; rfl
  have hr := pright1_pure o i
  unfold rightY at hr
  rw [if_pos hoi] at hr
  (conv => whnf)
  (repeat' ((first | refine ord_ok ?_ ?_ | refine at_da hxd rfl ?_ | refine call_eq rfl hr ?_ | refine ify ?_ | refine ifn ?_ | refine i6 ?_ | refine ati ?_ | refine mst ?_ | refine rmd ?_ | refine ibo (fun _ => ?_) (fun _ => ?_) | exact oend) <;> conv => whnf))
  exact ⟨i + 1, _, _, hil, .refl _ _, ⟨rfl, rfl, rfl, trivial⟩, trivial, by omega⟩
 ·((conv => whnf); repeat' ((first | refine odw ?_ | refine ify ?_ | refine ifn ?_ | refine i6 ?_ | refine ati ?_ | refine mst ?_ | refine rmd ?_ | refine ibo (fun _ => ?_) (fun _ => ?_)) <;> conv => whnf))
  exact rfl
def pl_pgeix : List (Nat × Plan) := []
def G_pgeix : List FuncId := []
theorem cok_pgeix : codeOk Tryz.prog G_pgeix pl_pgeix (Tryz.f288.body.getD .skip) = true := by kernel_rfl
theorem run_pgeix (vs : Array Value) (w : World) : (callFunc 288 vs).run C1.P w = .ok (.enter 288 vs) w := by kernel_rfl
theorem eindexF_pure (l : List Edg) (g : FuncId) (cs : List Da) (p : Edg → Bool) (hm : l.length ≤ 9223372036854775807) (hp : ∀ x ∈ l, Pure C1 g (dE x :: cs) (fun y => y = .bool (p x))) : Pure C1 288 [dEs l, .func (.func g) [] cs] (fun y => y = .int .i64 (optI (l.findIdx? p))) := by
 have hl : (l.map dE).length = l.length := List.length_map _
 refine pure_of c1_ok (pl := pl_pgeix) (G := G_pgeix) Tryz.func288 rfl Tryz.ntmps288 run_pgeix cok_pgeix (by simp) ?_
 ((conv => whnf); repeat' ((first | refine odw ?_ | refine ify ?_ | refine ifn ?_ | refine i6 ?_ | refine ati ?_ | refine mst ?_ | refine rmd ?_ | refine ibo (fun _ => ?_) (fun _ => ?_)) <;> conv => whnf))
 refine loop_lo (ι := Nat) (fun i => i ≤ l.length ∧ ∀ y ∈ l.take i, p y = false) (fun i => [(8, .d (.int .i64 i)), (7, .d (.int .i64 (l.map dE).length)), (1, .d (.func (.func g) [] cs)), (0, .d (dEs l))]) (fun _ => []) (fun i => l.length - i) 0 (fun _ => rfl) ⟨Nat.zero_le _, by simp⟩ (.refl _ _) ⟨rfl, rfl, rfl, rfl, trivial⟩ trivial ?_
 rintro i ⟨hi, hne⟩
 refine sxCode_sound c1_ok (G := G_pgeix) (pl := pl_pgeix) _ _ _ _ (by kernel_rfl) ?_
 by_cases hlt : i < l.length
 ·have hx := List.getElem?_eq_getElem hlt
  generalize l[i] = y at hx
  have hxd : (l.map dE)[i]? = some (.agg [.int .i64 y.a, .int .i64 y.b]) := by rw [List.getElem?_map, hx]; rfl
  have hpy := hp y (List.mem_of_getElem? hx)
  cases hy : p y with
  | true =>
    rw [hy] at hpy
    rw [idxG_at hx hy hne]
    (conv => whnf)
    (repeat' ((first | refine ord_ok ?_ ?_ | refine at_da hxd rfl ?_ | refine call_eq (allD_fn _ _) hpy ?_ | refine ify ?_ | refine ifn ?_ | refine i6 ?_ | refine ati ?_ | refine mst ?_ | refine rmd ?_ | refine ibo (fun _ => ?_) (fun _ => ?_) | exact oend) <;> conv => whnf))
    exact rfl
  | false =>
    rw [hy] at hpy
    (conv => whnf)
    (repeat' ((first | refine ord_ok ?_ ?_ | refine at_da hxd rfl ?_ | refine call_eq (allD_fn _ _) hpy ?_ | refine ify ?_ | refine ifn ?_ | refine i6 ?_ | refine ati ?_ | refine mst ?_ | refine rmd ?_ | refine ibo (fun _ => ?_) (fun _ => ?_) | exact oend) <;> conv => whnf))
    refine ⟨i + 1, _, _, ⟨hlt, ?_⟩, .refl _ _, ⟨rfl, rfl, rfl, rfl, trivial⟩, trivial, by omega⟩
    intro z hz
    rw [List.take_add_one, hx] at hz
    rcases List.mem_append.1 hz with hz | hz
    ·exact hne z hz
    ·simp at hz; subst hz; exact hy
 ·have hii : l.take i = l := List.take_of_length_le (by omega)
  rw [hii] at hne
  rw [idxG_none hne]
  ((conv => whnf); repeat' ((first | refine odw ?_ | refine ify ?_ | refine ifn ?_ | refine i6 ?_ | refine ati ?_ | refine mst ?_ | refine rmd ?_ | refine ibo (fun _ => ?_) (fun _ => ?_)) <;> conv => whnf))
  exact rfl
theorem idx_any {α : Type} (l : List α) (p : α → Bool) : 0 ≤ optI (l.findIdx? p) ↔ l.any p = true := by
 cases h : l.findIdx? p with
 | none =>
   rw [List.findIdx?_eq_none_iff] at h
   constructor
   ·intro h2; simp [optI] at h2
   ·intro h2
    obtain ⟨x, hx, hpx⟩ := List.any_eq_true.1 h2
    rw [h x hx] at hpx; cases hpx
 | some i =>
   obtain ⟨h1, h2, _⟩ := List.findIdx?_eq_some_iff_getElem.1 h
   constructor
   ·intro _; exact List.any_eq_true.2 ⟨_, List.getElem_mem h1, h2⟩
   ·intro _; simp [optI]
def pl_pgecf : List (Nat × Plan) := []
def G_pgecf : List FuncId := [288]
theorem cok_pgecf : codeOk Tryz.prog G_pgecf pl_pgecf (Tryz.f284.body.getD .skip) = true := by kernel_rfl
theorem run_pgecf (vs : Array Value) (w : World) : (callFunc 284 vs).run C1.P w = .ok (.enter 284 vs) w := by kernel_rfl
theorem econtainsF_pure (l : List Edg) (g : FuncId) (cs : List Da) (p : Edg → Bool) (hm : l.length ≤ 9223372036854775807) (hp : ∀ x ∈ l, Pure C1 g (dE x :: cs) (fun y => y = .bool (p x))) : Pure C1 284 [dEs l, .func (.func g) [] cs] (fun y => y = .bool (l.any p)) := by
 refine pure_of c1_ok (pl := pl_pgecf) (G := G_pgecf) Tryz.func284 rfl Tryz.ntmps284 run_pgecf cok_pgecf (by simp) ?_
 (conv => whnf)
 (repeat' ((first | refine ord_ok ?_ ?_ | refine call_eq rfl (eindexF_pure l g cs p hm hp) ?_ | refine ify ?_ | refine ifn ?_ | refine i6 ?_ | refine ati ?_ | refine mst ?_ | refine rmd ?_ | refine ibo (fun _ => ?_) (fun _ => ?_) | exact oend) <;> conv => whnf))
 show Da.plain _ = _
 have := idx_any l p
 cases h : l.any p <;> simp [Da.plain, this, h]
def pl_pgt1 : List (Nat × Plan) := []
def G_pgt1 : List FuncId := [286]
theorem cok_pgt1 : codeOk Tryz.prog G_pgt1 pl_pgt1 (Tryz.f285.body.getD .skip) = true := by kernel_rfl
theorem run_pgt1 (vs : Array Value) (w : World) : (callFunc 285 vs).run C1.P w = .ok (.enter 285 vs) w := by kernel_rfl
theorem tri1_pure (p : Pt) (e : Edg) (hm : p.labels.length ≤ 9223372036854775807) (hme : p.edges.length ≤ 9223372036854775807) : Pure C1 285 [dE e, .ref (dPt p)] (fun y => y = .bool ((List.range p.labels.length).any fun v => hasE p.edges e.a v && hasE p.edges e.b v)) := by
 have hdl : (p.labels.map dI).length = p.labels.length := List.length_map _
 refine pure_of c1_ok (pl := pl_pgt1) (G := G_pgt1) Tryz.func285 rfl Tryz.ntmps285 run_pgt1 cok_pgt1 (by simp) ?_
 ((conv => whnf); repeat' ((first | refine odw ?_ | refine ify ?_ | refine ifn ?_ | refine i6 ?_ | refine ati ?_ | refine mst ?_ | refine rmd ?_ | refine ibo (fun _ => ?_) (fun _ => ?_)) <;> conv => whnf))
 refine loop_lo (ι := Nat) (fun i => i ≤ p.labels.length ∧ ∀ v, v < i → (hasE p.edges e.a v && hasE p.edges e.b v) = false) (fun i => [(8, .d (.int .i64 i)), (7, .d (.int .i64 (p.labels.map dI).length)), (2, .own 2), (1, .d (.ref (dPt p)))]) (fun _ => [(2, .cells 103 [.d (.int .i64 e.a), .d (.int .i64 e.b)])]) (fun i => p.labels.length - i) 0 (fun _ => rfl) ⟨Nat.zero_le _, by intro v h; omega⟩ (.refl _ _) ⟨rfl, rfl, rfl, rfl, trivial⟩ ⟨rfl, trivial⟩ ?_
 rintro i ⟨hi, hne⟩
 refine sxCode_sound c1_ok (G := G_pgt1) (pl := pl_pgt1) _ _ _ _ (by kernel_rfl) ?_
 by_cases hil : i < p.labels.length
 ·have h1 := phas_pure p e.a i hme
  have h2 := phas_pure p e.b i hme
  rw [show decide (turn ⟨e.a, (i : Int)⟩ ∈ p.edges) = hasE p.edges e.a i from rfl] at h1
  rw [show decide (turn ⟨e.b, (i : Int)⟩ ∈ p.edges) = hasE p.edges e.b i from rfl] at h2
  cases g1 : hasE p.edges e.a i <;> cases g2 : hasE p.edges e.b i <;> rw [g1] at h1 <;> rw [g2] at h2
  ·(conv => whnf)
   (repeat' ((first | refine ord_ok ?_ ?_ | refine call_eq rfl h1 ?_ | refine call_eq rfl h2 ?_ | refine ify ?_ | refine ifn ?_ | refine i6 ?_ | refine ati ?_ | refine mst ?_ | refine rmd ?_ | refine ibo (fun _ => ?_) (fun _ => ?_) | exact oend) <;> conv => whnf))
   exact ⟨i + 1, _, _, ⟨hil, fun v hv => by rcases Nat.lt_or_ge v i with g | g; exact hne v g; rw [show v = i by omega, g1]; rfl⟩, .refl _ _, ⟨rfl, rfl, rfl, rfl, trivial⟩, ⟨rfl, trivial⟩, by omega⟩
  ·(conv => whnf)
   (repeat' ((first | refine ord_ok ?_ ?_ | refine call_eq rfl h1 ?_ | refine call_eq rfl h2 ?_ | refine ify ?_ | refine ifn ?_ | refine i6 ?_ | refine ati ?_ | refine mst ?_ | refine rmd ?_ | refine ibo (fun _ => ?_) (fun _ => ?_) | exact oend) <;> conv => whnf))
   exact ⟨i + 1, _, _, ⟨hil, fun v hv => by rcases Nat.lt_or_ge v i with g | g; exact hne v g; rw [show v = i by omega, g1]; rfl⟩, .refl _ _, ⟨rfl, rfl, rfl, rfl, trivial⟩, ⟨rfl, trivial⟩, by omega⟩
  ·(conv => whnf)
   (repeat' ((first | refine ord_ok ?_ ?_ | refine call_eq rfl h1 ?_ | refine call_eq rfl h2 ?_ | refine ify ?_ | refine ifn ?_ | refine i6 ?_ | refine ati ?_ | refine mst ?_ | refine rmd ?_ | refine ibo (fun _ => ?_) (fun _ => ?_) | exact oend) <;> conv => whnf))
   exact ⟨i + 1, _, _, ⟨hil, fun v hv => by rcases Nat.lt_or_ge v i with g | g; exact hne v g; rw [show v = i by omega, g1, g2]; rfl⟩, .refl _ _, ⟨rfl, rfl, rfl, rfl, trivial⟩, ⟨rfl, trivial⟩, by omega⟩
  ·have e1 : ((List.range p.labels.length).any fun v => hasE p.edges e.a v && hasE p.edges e.b v) = true := List.any_eq_true.2 ⟨i, List.mem_range.2 hil, by rw [g1, g2]; rfl⟩
   rw [e1]
   (conv => whnf)
   (repeat' ((first | refine ord_ok ?_ ?_ | refine call_eq rfl h1 ?_ | refine call_eq rfl h2 ?_ | refine ify ?_ | refine ifn ?_ | refine i6 ?_ | refine ati ?_ | refine mst ?_ | refine rmd ?_ | refine ibo (fun _ => ?_) (fun _ => ?_) | exact oend) <;> conv => whnf))
   exact rfl
 ·have e1 : ((List.range p.labels.length).any fun v => hasE p.edges e.a v && hasE p.edges e.b v) = false := by
   rw [Bool.eq_false_iff]
   intro h
   obtain ⟨v, hv, h⟩ := List.any_eq_true.1 h
   rw [hne v (by have := List.mem_range.1 hv; omega)] at h; cases h
  rw [e1]
  ((conv => whnf); repeat' ((first | refine odw ?_ | refine ify ?_ | refine ifn ?_ | refine i6 ?_ | refine ati ?_ | refine mst ?_ | refine rmd ?_ | refine ibo (fun _ => ?_) (fun _ => ?_)) <;> conv => whnf))
  exact rfl
def pl_pgt : List (Nat × Plan) := []
def G_pgt : List FuncId := [284]
theorem cok_pgt : codeOk Tryz.prog G_pgt pl_pgt (Tryz.f275.body.getD .skip) = true := by kernel_rfl
theorem run_pgt (vs : Array Value) (w : World) : (callFunc 275 vs).run C1.P w = .ok (.enter 275 vs) w := by kernel_rfl
theorem triangle_pure (p : Pt) (hm : p.labels.length ≤ 9223372036854775807) (hme : p.edges.length ≤ 9223372036854775807) : Pure C1 275 [dPt p] (fun y => y = .bool (triE p)) := by
 have hc := econtainsF_pure p.edges 285 [.ref (dPt p)] (fun e => (List.range p.labels.length).any fun v => hasE p.edges e.a v && hasE p.edges e.b v) hme (fun e _ => tri1_pure p e hm hme)
 refine pure_of c1_ok (pl := pl_pgt) (G := G_pgt) Tryz.func275 rfl Tryz.ntmps275 run_pgt cok_pgt (by simp) ?_
 (conv => whnf)
 (repeat' ((first | refine ord_ok ?_ ?_ | refine call_eqb tab rfl hc rfl ?_ | refine ify ?_ | refine ifn ?_ | refine i6 ?_ | refine ati ?_ | refine mst ?_ | refine rmd ?_ | refine ibo (fun _ => ?_) (fun _ => ?_) | exact oend) <;> conv => whnf))
 exact rfl
def pl_pgd : List (Nat × Plan) := []
def G_pgd : List FuncId := [283]
theorem cok_pgd : codeOk Tryz.prog G_pgd pl_pgd (Tryz.f273.body.getD .skip) = true := by kernel_rfl
theorem run_pgd (vs : Array Value) (w : World) : (callFunc 273 vs).run C1.P w = .ok (.enter 273 vs) w := by kernel_rfl
theorem degrees_pure (p : Pt) (n : Int) (hm : p.labels.length ≤ 9223372036854775807) (hme : p.edges.length ≤ 4294967296) : Pure C1 273 [dPt p, .int .i64 n] (fun y => y = .bool (degP p n)) := by
 have hdl : (p.labels.map dI).length = p.labels.length := List.length_map _
 refine pure_of c1_ok (pl := pl_pgd) (G := G_pgd) Tryz.func273 rfl Tryz.ntmps273 run_pgd cok_pgd (by simp) ?_
 ((conv => whnf); repeat' ((first | refine odw ?_ | refine ify ?_ | refine ifn ?_ | refine i6 ?_ | refine ati ?_ | refine mst ?_ | refine rmd ?_ | refine ibo (fun _ => ?_) (fun _ => ?_)) <;> conv => whnf))
 refine loop_lo (ι := Nat) (fun i => i ≤ p.labels.length ∧ ∀ v, v < i → ((degE p.edges (v : Int) : Nat) : Int) ≤ n) (fun i => [(9, .d (.int .i64 i)), (8, .d (.int .i64 (p.labels.map dI).length)), (2, .own 2), (1, .d (.int .i64 n))]) (fun _ => [(2, .cells 31 [.d (dIs p.labels), .d (dEs p.edges)])]) (fun i => p.labels.length - i) 0 (fun _ => rfl) ⟨Nat.zero_le _, by intro v h; omega⟩ (.refl _ _) ⟨rfl, rfl, rfl, rfl, trivial⟩ ⟨rfl, trivial⟩ ?_
 rintro i ⟨hi, hne⟩
 refine sxCode_sound c1_ok (G := G_pgd) (pl := pl_pgd) _ _ _ _ (by kernel_rfl) ?_
 by_cases hil : i < p.labels.length
 ·have h1 := pdegree_pure p i hme
  by_cases hd : ((degE p.edges (i : Int) : Nat) : Int) ≤ n
  ·(conv => whnf)
   (repeat' ((first | refine ord_ok ?_ ?_ | refine call_eq rfl h1 ?_ | refine ify ?_ | refine ifn ?_ | refine i6 ?_ | refine ati ?_ | refine mst ?_ | refine rmd ?_ | refine ibo (fun _ => ?_) (fun _ => ?_) | exact oend) <;> conv => whnf))
   exact ⟨i + 1, _, _, ⟨hil, fun v hv => by rcases Nat.lt_or_ge v i with g | g; exact hne v g; rw [show v = i by omega]; exact hd⟩, .refl _ _, ⟨rfl, rfl, rfl, rfl, trivial⟩, ⟨rfl, trivial⟩, by omega⟩
  ·have e1 : degP p n = false := by
    rw [Bool.eq_false_iff]
    intro h
    exact hd (of_decide_eq_true (List.all_eq_true.1 h i (List.mem_range.2 hil)))
   rw [e1]
   (conv => whnf)
   (repeat' ((first | refine ord_ok ?_ ?_ | refine call_eq rfl h1 ?_ | refine ify ?_ | refine ifn ?_ | refine i6 ?_ | refine ati ?_ | refine mst ?_ | refine rmd ?_ | refine ibo (fun _ => ?_) (fun _ => ?_) | exact oend) <;> conv => whnf))
   exact rfl
 ·have e1 : degP p n = true := List.all_eq_true.2 fun v hv => decide_eq_true (hne v (by have := List.mem_range.1 hv; omega))
  rw [e1]
  ((conv => whnf); repeat' ((first | refine odw ?_ | refine ify ?_ | refine ifn ?_ | refine i6 ?_ | refine ati ?_ | refine mst ?_ | refine rmd ?_ | refine ibo (fun _ => ?_) (fun _ => ?_)) <;> conv => whnf))
  exact rfl
def pl_pgh1 : List (Nat × Plan) := []
def G_pgh1 : List FuncId := []
theorem cok_pgh1 : codeOk Tryz.prog G_pgh1 pl_pgh1 (Tryz.f272.body.getD .skip) = true := by kernel_rfl
theorem run_pgh1 (vs : Array Value) (w : World) : (callFunc 272 vs).run C1.P w = .ok (.enter 272 vs) w := by kernel_rfl
theorem holds1_pure (o : Opp) (l : Int) : Pure C1 272 [.int .i64 l, .ref (dO o)] (fun y => y = .bool (decide (o.n < l))) := by
 refine pure_of c1_ok (pl := pl_pgh1) (G := G_pgh1) Tryz.func272 rfl Tryz.ntmps272 run_pgh1 cok_pgh1 (by simp) ?_
 ((conv => whnf); repeat' ((first | refine odw ?_ | refine ify ?_ | refine ifn ?_ | refine i6 ?_ | refine ati ?_ | refine mst ?_ | refine rmd ?_ | refine ibo (fun _ => ?_) (fun _ => ?_)) <;> conv => whnf))
 exact rfl
def pl_pgh2 : List (Nat × Plan) := []
def G_pgh2 : List FuncId := []
theorem cok_pgh2 : codeOk Tryz.prog G_pgh2 pl_pgh2 (Tryz.f274.body.getD .skip) = true := by kernel_rfl
theorem run_pgh2 (vs : Array Value) (w : World) : (callFunc 274 vs).run C1.P w = .ok (.enter 274 vs) w := by kernel_rfl
theorem holds2_pure (o : Opp) (l : Int) : Pure C1 274 [.int .i64 l, .ref (dO o)] (fun y => y = .bool (decide (l ≠ o.n))) := by
 refine pure_of c1_ok (pl := pl_pgh2) (G := G_pgh2) Tryz.func274 rfl Tryz.ntmps274 run_pgh2 cok_pgh2 (by simp) ?_
 ((conv => whnf); repeat' ((first | refine odw ?_ | refine ify ?_ | refine ifn ?_ | refine i6 ?_ | refine ati ?_ | refine mst ?_ | refine rmd ?_ | refine ibo (fun _ => ?_) (fun _ => ?_)) <;> conv => whnf))
 exact rfl
def pl_pgh : List (Nat × Plan) := []
def G_pgh : List FuncId := [275, 273]
theorem cok_pgh : codeOk Tryz.prog G_pgh pl_pgh (Tryz.f255.body.getD .skip) = true := by kernel_rfl
theorem run_pgh (vs : Array Value) (w : World) : (callFunc 255 vs).run C1.P w = .ok (.enter 255 vs) w := by kernel_rfl
theorem holds_pure (o : Opp) (p : Pt) (hk : 1 ≤ o.kind ∧ o.kind ≤ 8) (hm : p.labels.length ≤ 8) (hme : p.edges.length ≤ 4294967296) : Pure C1 255 [dO o, dPt p] (fun y => y = .bool (holdsO o p)) := by
 have hdl : (p.labels.map dI).length = p.labels.length := List.length_map _
 have hde : (p.edges.map dE).length = p.edges.length := List.length_map _
 have hc1 := containsF_pure p.labels 272 [.ref (dO o)] (fun l => decide (o.n < l)) (fun l _ => holds1_pure o l)
 have hc2 := containsF_pure p.labels 274 [.ref (dO o)] (fun l => decide (l ≠ o.n)) (fun l _ => holds2_pure o l)
 have htr := triangle_pure p (by omega) (by omega)
 have hdg := degrees_pure p o.n (by omega) hme
 have hvl := values_pure p.labels
 have hk8 : o.kind = 1 ∨ o.kind = 2 ∨ o.kind = 3 ∨ o.kind = 4 ∨ o.kind = 5 ∨ o.kind = 6 ∨ o.kind = 7 ∨ o.kind = 8 := by omega
 refine pure_of c1_ok (pl := pl_pgh) (G := G_pgh) Tryz.func255 rfl Tryz.ntmps255 run_pgh cok_pgh (by simp) ?_
 rcases hk8 with h | h | h | h | h | h | h | h
 ·have eh : holdsO o p = decide (p.edges.length = p.labels.length * (p.labels.length - 1) / 2) := by unfold holdsO; simp [h]
  rw [eh]
  have hmul : ∀ N : Nat, N ≤ 8 → IntKind.i64.wrap ((N : Int) * ((N : Int) - 1)) = ((N * (N - 1) : Nat) : Int) := by
   intro N hN
   have : N = 0 ∨ N = 1 ∨ N = 2 ∨ N = 3 ∨ N = 4 ∨ N = 5 ∨ N = 6 ∨ N = 7 ∨ N = 8 := by omega
   rcases this with rfl | rfl | rfl | rfl | rfl | rfl | rfl | rfl | rfl <;> decide
  have hm2 := hmul (p.labels.map dI).length (by omega)
  have hdiv : ∀ N : Nat, N ≤ 8 → IntKind.i64.wrap (((N * (N - 1) : Nat) : Int).tdiv 2) = ((N * (N - 1) / 2 : Nat) : Int) := by
   intro N hN
   have : N = 0 ∨ N = 1 ∨ N = 2 ∨ N = 3 ∨ N = 4 ∨ N = 5 ∨ N = 6 ∨ N = 7 ∨ N = 8 := by omega
   rcases this with rfl | rfl | rfl | rfl | rfl | rfl | rfl | rfl | rfl <;> decide
  have hm3 := hdiv (p.labels.map dI).length (by omega)
  ((conv => whnf); repeat' ((first | refine odw ?_ | refine ify ?_ | refine ifn ?_ | refine i6 ?_ | refine ati ?_ | refine mst ?_ | refine rmd ?_ | refine ibo (fun _ => ?_) (fun _ => ?_)) <;> conv => whnf))
  refine ⟨_, hm2, ?_⟩
  ((conv => whnf); repeat' ((first | refine odw ?_ | refine ify ?_ | refine ifn ?_ | refine i6 ?_ | refine ati ?_ | refine mst ?_ | refine rmd ?_ | refine ibo (fun _ => ?_) (fun _ => ?_)) <;> conv => whnf))
  refine ⟨_, hm3, ?_⟩
  ((conv => whnf); repeat' ((first | refine odw ?_ | refine ify ?_ | refine ifn ?_ | refine i6 ?_ | refine ati ?_ | refine mst ?_ | refine rmd ?_ | refine ibo (fun _ => ?_) (fun _ => ?_)) <;> conv => whnf))
  exact congrArg Da.bool (by rw [Bool.eq_iff_iff, decide_eq_true_eq, decide_eq_true_eq, hde, hdl]; exact Int.ofNat_inj)
 ·have eh : holdsO o p = !p.labels.any fun l => decide (o.n < l) := by unfold holdsO; simp [h]
  rw [eh]
  (conv => whnf)
  (repeat' ((first | refine ord_ok ?_ ?_ | refine call_eqb tab rfl hc1 rfl ?_ | refine ify ?_ | refine ifn ?_ | refine i6 ?_ | refine ati ?_ | refine mst ?_ | refine rmd ?_ | refine ibo (fun _ => ?_) (fun _ => ?_) | exact oend) <;> conv => whnf))
  exact rfl
 ·have eh : holdsO o p = degP p o.n := by unfold holdsO; simp [h]
  rw [eh]
  (conv => whnf)
  (repeat' ((first | refine ord_ok ?_ ?_ | refine call_eq rfl hdg ?_ | refine ify ?_ | refine ifn ?_ | refine i6 ?_ | refine ati ?_ | refine mst ?_ | refine rmd ?_ | refine ibo (fun _ => ?_) (fun _ => ?_) | exact oend) <;> conv => whnf))
  exact rfl
 ·have eh : holdsO o p = decide ((p.labels.length : Int) ≤ o.n) := by unfold holdsO; simp [h]
  rw [eh, ← hdl]
  ((conv => whnf); repeat' ((first | refine odw ?_ | refine ify ?_ | refine ifn ?_ | refine i6 ?_ | refine ati ?_ | refine mst ?_ | refine rmd ?_ | refine ibo (fun _ => ?_) (fun _ => ?_)) <;> conv => whnf))
  exact rfl
 ·have eh : holdsO o p = decide ((p.edges.length : Int) ≤ o.n) := by unfold holdsO; simp [h]
  rw [eh, ← hde]
  ((conv => whnf); repeat' ((first | refine odw ?_ | refine ify ?_ | refine ifn ?_ | refine i6 ?_ | refine ati ?_ | refine mst ?_ | refine rmd ?_ | refine ibo (fun _ => ?_) (fun _ => ?_)) <;> conv => whnf))
  exact rfl
 ·have eh : holdsO o p = decide ((setOf p.labels).length = p.labels.length) := by unfold holdsO; simp [h]
  rw [eh]
  (conv => whnf)
  (repeat' ((first | refine ord_ok ?_ ?_ | refine call_eq rfl hvl ?_ | refine ify ?_ | refine ifn ?_ | refine i6 ?_ | refine ati ?_ | refine mst ?_ | refine rmd ?_ | refine ibo (fun _ => ?_) (fun _ => ?_) | exact oend) <;> conv => whnf))
  refine call_mksl 300 rfl rfl (sorted_mksl p.labels (by omega)) ?_; rintro ds rfl
  (conv => whnf)
  refine call_eat rfl rfl (compact_eat (p.labels.mergeSort fun x y => decide (x ≤ y)) (by rw [List.length_mergeSort]; omega)) ?_; rintro ds rfl
  ((conv => whnf); repeat' ((first | refine odw ?_ | refine ify ?_ | refine ifn ?_ | refine i6 ?_ | refine ati ?_ | refine mst ?_ | refine rmd ?_ | refine ibo (fun _ => ?_) (fun _ => ?_)) <;> conv => whnf))
  exact congrArg Da.bool (by rw [Bool.eq_iff_iff, decide_eq_true_eq, decide_eq_true_eq, List.length_map, List.length_map]; exact Int.ofNat_inj)
 ·have eh : holdsO o p = !p.labels.any fun l => decide (l ≠ o.n) := by unfold holdsO; simp [h]
  rw [eh]
  (conv => whnf)
  (repeat' ((first | refine ord_ok ?_ ?_ | refine call_eqb tab rfl hc2 rfl ?_ | refine ify ?_ | refine ifn ?_ | refine i6 ?_ | refine ati ?_ | refine mst ?_ | refine rmd ?_ | refine ibo (fun _ => ?_) (fun _ => ?_) | exact oend) <;> conv => whnf))
  exact rfl
 ·have eh : holdsO o p = !triE p := by unfold holdsO; simp [h]
  rw [eh]
  (conv => whnf)
  (repeat' ((first | refine ord_ok ?_ ?_ | refine call_eq rfl htr ?_ | refine ify ?_ | refine ifn ?_ | refine i6 ?_ | refine ati ?_ | refine mst ?_ | refine rmd ?_ | refine ibo (fun _ => ?_) (fun _ => ?_) | exact oend) <;> conv => whnf))
  exact rfl
theorem code_kind {o : Opp} (h : codeO o = 0) : 1 ≤ o.kind ∧ o.kind ≤ 8 := by
 unfold codeO at h
 apply Classical.byContradiction
 intro hn
 rw [if_pos (by omega)] at h
 omega
theorem pt_small {p : Pt} (h : pErr p = none) : p.labels.length ≤ 8 ∧ p.edges.length ≤ 64 := by
 obtain ⟨h1, h2, h3⟩ := pErr_none h
 have h8 : p.labels.length ≤ 8 := by
  apply Classical.byContradiction
  intro hn
  unfold lErr at h1
  rw [if_pos (by omega)] at h1
  cases h1
 have := nodup_len h3.nodup (m := prs p.labels.length) fun e he => mem_prs.2 (h2 e he)
 rw [prs_len] at this
 have hm : p.labels.length * (p.labels.length - 1) ≤ 8 * 8 := Nat.mul_le_mul h8 (by omega)
 omega
def pl_pgtt : List (Nat × Plan) := []
def G_pgtt : List FuncId := [173, 13, 255]
theorem cok_pgtt : codeOk Tryz.prog G_pgtt pl_pgtt (Tryz.f235.body.getD .skip) = true := by kernel_rfl
theorem run_pgtt (vs : Array Value) (w : World) : (callFunc 235 vs).run C1.P w = .ok (.enter 235 vs) w := by kernel_rfl
theorem test_pure (o : Opp) (p : Pt) (hc : codeO o = 0) (hp : pErr p = none) : Pure C1 235 [dO o, dPt p] (fun y => y = .bool (holdsO o p)) := by
 have hs := pt_small hp
 have hr := pright1_pure o 0
 unfold rightY at hr
 rw [if_pos hc] at hr
 have hpr := pright_pure p (by omega) (by omega)
 rw [rightP_none hp] at hpr
 have hh := holds_pure o p (code_kind hc) hs.1 (by omega)
 refine pure_of c1_ok (pl := pl_pgtt) (G := G_pgtt) Tryz.func235 rfl Tryz.ntmps235 run_pgtt cok_pgtt (by simp) ?_
 (conv => whnf)
 (repeat' ((first | refine ord_ok ?_ ?_ | refine call_eqb tab rfl hr rfl ?_ | refine call_eqb tab rfl hpr rfl ?_ | refine call_eqb tab rfl hh rfl ?_ | refine ify ?_ | refine ifn ?_ | refine i6 ?_ | refine ati ?_ | refine mst ?_ | refine rmd ?_ | refine ibo (fun _ => ?_) (fun _ => ?_) | exact oend) <;> conv => whnf))
 exact rfl
def pl_pgf1 : List (Nat × Plan) := []
def G_pgf1 : List FuncId := [235]
theorem cok_pgf1 : codeOk Tryz.prog G_pgf1 pl_pgf1 (Tryz.f234.body.getD .skip) = true := by kernel_rfl
theorem run_pgf1 (vs : Array Value) (w : World) : (callFunc 234 vs).run C1.P w = .ok (.enter 234 vs) w := by kernel_rfl
theorem first1_pure (o : Opp) (p : Pt) (hc : codeO o = 0) (hp : pErr p = none) : Pure C1 234 [dO o, .ref (dPt p)] (fun y => y = .bool (!holdsO o p)) := by
 have ht := test_pure o p hc hp
 refine pure_of c1_ok (pl := pl_pgf1) (G := G_pgf1) Tryz.func234 rfl Tryz.ntmps234 run_pgf1 cok_pgf1 (by simp) ?_
 (conv => whnf)
 (repeat' ((first | refine ord_ok ?_ ?_ | refine call_eqb tab rfl ht rfl ?_ | refine ify ?_ | refine ifn ?_ | refine i6 ?_ | refine ati ?_ | refine mst ?_ | refine rmd ?_ | refine ibo (fun _ => ?_) (fun _ => ?_) | exact oend) <;> conv => whnf))
 exact rfl
def pl_pgoi : List (Nat × Plan) := []
def G_pgoi : List FuncId := []
theorem cok_pgoi : codeOk Tryz.prog G_pgoi pl_pgoi (Tryz.f233.body.getD .skip) = true := by kernel_rfl
theorem run_pgoi (vs : Array Value) (w : World) : (callFunc 233 vs).run C1.P w = .ok (.enter 233 vs) w := by kernel_rfl
theorem oindexF_pure (l : List Opp) (g : FuncId) (cs : List Da) (p : Opp → Bool) (hm : l.length ≤ 9223372036854775807) (hp : ∀ x ∈ l, Pure C1 g (dO x :: cs) (fun y => y = .bool (p x))) : Pure C1 233 [dOs l, .func (.func g) [] cs] (fun y => y = .int .i64 (optI (l.findIdx? p))) := by
 have hl : (l.map dO).length = l.length := List.length_map _
 refine pure_of c1_ok (pl := pl_pgoi) (G := G_pgoi) Tryz.func233 rfl Tryz.ntmps233 run_pgoi cok_pgoi (by simp) ?_
 ((conv => whnf); repeat' ((first | refine odw ?_ | refine ify ?_ | refine ifn ?_ | refine i6 ?_ | refine ati ?_ | refine mst ?_ | refine rmd ?_ | refine ibo (fun _ => ?_) (fun _ => ?_)) <;> conv => whnf))
 refine loop_lo (ι := Nat) (fun i => i ≤ l.length ∧ ∀ y ∈ l.take i, p y = false) (fun i => [(8, .d (.int .i64 i)), (7, .d (.int .i64 (l.map dO).length)), (1, .d (.func (.func g) [] cs)), (0, .d (dOs l))]) (fun _ => []) (fun i => l.length - i) 0 (fun _ => rfl) ⟨Nat.zero_le _, by simp⟩ (.refl _ _) ⟨rfl, rfl, rfl, rfl, trivial⟩ trivial ?_
 rintro i ⟨hi, hne⟩
 refine sxCode_sound c1_ok (G := G_pgoi) (pl := pl_pgoi) _ _ _ _ (by kernel_rfl) ?_
 by_cases hlt : i < l.length
 ·have hx := List.getElem?_eq_getElem hlt
  generalize l[i] = y at hx
  have hxd : (l.map dO)[i]? = some (.agg [.int .i64 y.kind, .int .i64 y.n]) := by rw [List.getElem?_map, hx]; rfl
  have hpy := hp y (List.mem_of_getElem? hx)
  cases hy : p y with
  | true =>
    rw [hy] at hpy
    rw [idxG_at hx hy hne]
    (conv => whnf)
    (repeat' ((first | refine ord_ok ?_ ?_ | refine at_da hxd rfl ?_ | refine call_eq (allD_fn _ _) hpy ?_ | refine ify ?_ | refine ifn ?_ | refine i6 ?_ | refine ati ?_ | refine mst ?_ | refine rmd ?_ | refine ibo (fun _ => ?_) (fun _ => ?_) | exact oend) <;> conv => whnf))
    exact rfl
  | false =>
    rw [hy] at hpy
    (conv => whnf)
    (repeat' ((first | refine ord_ok ?_ ?_ | refine at_da hxd rfl ?_ | refine call_eq (allD_fn _ _) hpy ?_ | refine ify ?_ | refine ifn ?_ | refine i6 ?_ | refine ati ?_ | refine mst ?_ | refine rmd ?_ | refine ibo (fun _ => ?_) (fun _ => ?_) | exact oend) <;> conv => whnf))
    refine ⟨i + 1, _, _, ⟨hlt, ?_⟩, .refl _ _, ⟨rfl, rfl, rfl, rfl, trivial⟩, trivial, by omega⟩
    intro z hz
    rw [List.take_add_one, hx] at hz
    rcases List.mem_append.1 hz with hz | hz
    ·exact hne z hz
    ·simp at hz; subst hz; exact hy
 ·have hii : l.take i = l := List.take_of_length_le (by omega)
  rw [hii] at hne
  rw [idxG_none hne]
  ((conv => whnf); repeat' ((first | refine odw ?_ | refine ify ?_ | refine ifn ?_ | refine i6 ?_ | refine ati ?_ | refine mst ?_ | refine rmd ?_ | refine ibo (fun _ => ?_) (fun _ => ?_)) <;> conv => whnf))
  exact rfl
def pl_pgf : List (Nat × Plan) := []
def G_pgf : List FuncId := [233]
theorem cok_pgf : codeOk Tryz.prog G_pgf pl_pgf (Tryz.f189.body.getD .skip) = true := by kernel_rfl
theorem run_pgf (vs : Array Value) (w : World) : (callFunc 189 vs).run C1.P w = .ok (.enter 189 vs) w := by kernel_rfl
theorem first_pure (l : List Opp) (p : Pt) (h16 : l.length ≤ 16) (hok : ∀ o ∈ l, codeO o = 0) (hp : pErr p = none) : Pure C1 189 [dOs l, dPt p] (fun y => y = .int .i64 (optI (l.findIdx? fun o => !holdsO o p))) := by
 have hi := oindexF_pure l 234 [.ref (dPt p)] (fun o => !holdsO o p) (by omega) (fun o ho => first1_pure o p (hok o ho) hp)
 refine pure_of c1_ok (pl := pl_pgf) (G := G_pgf) Tryz.func189 rfl Tryz.ntmps189 run_pgf cok_pgf (by simp) ?_
 (conv => whnf)
 (repeat' ((first | refine ord_ok ?_ ?_ | refine call_eqb tab rfl hi rfl ?_ | refine ify ?_ | refine ifn ?_ | refine i6 ?_ | refine ati ?_ | refine mst ?_ | refine rmd ?_ | refine ibo (fun _ => ?_) (fun _ => ?_) | exact oend) <;> conv => whnf))
 exact rfl
def pl_pgk : List (Nat × Plan) := []
def G_pgk : List FuncId := [116, 13, 189]
theorem cok_pgk : codeOk Tryz.prog G_pgk pl_pgk (Tryz.f124.body.getD .skip) = true := by kernel_rfl
theorem run_pgk (vs : Array Value) (w : World) : (callFunc 124 vs).run C1.P w = .ok (.enter 124 vs) w := by kernel_rfl
theorem keeps_pure (l : List Opp) (p : Pt) (h16 : l.length ≤ 16) (hok : ∀ o ∈ l, codeO o = 0) (hp : pErr p = none) : Pure C1 124 [dOs l, dPt p] (fun y => y = .bool (l.all fun o => holdsO o p)) := by
 have hs := pt_small hp
 have hr := prights_pure l h16 hok
 have hpr := pright_pure p (by omega) (by omega)
 rw [rightP_none hp] at hpr
 have hf := first_pure l p h16 hok hp
 have hia := idx_any l fun o => !holdsO o p
 refine pure_of c1_ok (pl := pl_pgk) (G := G_pgk) Tryz.func124 rfl Tryz.ntmps124 run_pgk cok_pgk (by simp) ?_
 (conv => whnf)
 (repeat' ((first | refine ord_ok ?_ ?_ | refine call_eqb tab rfl hr rfl ?_ | refine call_eqb tab rfl hpr rfl ?_ | refine call_eqb tab rfl hf rfl ?_ | refine ify ?_ | refine ifn ?_ | refine i6 ?_ | refine ati ?_ | refine mst ?_ | refine rmd ?_ | refine ibo (fun _ => ?_) (fun _ => ?_) | exact oend) <;> conv => whnf))
 refine congrArg Da.bool ?_
 rw [Bool.eq_iff_iff, decide_eq_true_eq, ← Int.not_le, hia]
 simp
end Go.Proofs.YtjejpdfldmempaaGreatDoor
end
