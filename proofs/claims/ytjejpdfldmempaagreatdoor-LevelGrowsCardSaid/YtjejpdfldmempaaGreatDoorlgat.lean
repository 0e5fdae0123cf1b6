/- Merged: Pgl Pdg Pgw. -/
import Derived.Test.YtjejpdfldmempaaGreatDoorOen
import Derived.Test.YtjejpdfldmempaaGreatDoorlgag
import Derived.Test.YtjejpdfldmempaaGreatDoorlgas
import Derived.Test.YtjejpdfldmempaaGreatDoorlgaf
section
namespace Go.Gr
open Go.Proofs.YtjejpdfldmempaaGreatDoor
structure Opp where
 kind : Int
 n : Int
def takesO (k : Int) : Bool := !(decide (k = 1) || decide (k = 6) || decide (k = 8))
def codeO (o : Opp) : Int := if o.kind < 1 ∨ 8 < o.kind then 1 else if o.n < 0 ∨ 255 < o.n ∨ 0 < o.n ∧ takesO o.kind = false then 3 else 0
def hasE (E : List Edg) (a b : Int) : Bool := decide (turn ⟨a, b⟩ ∈ E)
def labE (p : Pt) (a : Nat) : Int := (p.labels[a]?).getD 0
def triE (p : Pt) : Bool := p.edges.any fun e => (List.range p.labels.length).any fun v => hasE p.edges e.a v && hasE p.edges e.b v
def degP (p : Pt) (n : Int) : Bool := (List.range p.labels.length).all fun v => decide ((degE p.edges v : Int) ≤ n)
def holdsO (o : Opp) (p : Pt) : Bool :=
 if o.kind = 1 then decide (p.edges.length = p.labels.length * (p.labels.length - 1) / 2)
 else if o.kind = 2 then !p.labels.any fun l => decide (o.n < l)
 else if o.kind = 3 then degP p o.n
 else if o.kind = 4 then decide ((p.labels.length : Int) ≤ o.n)
 else if o.kind = 5 then decide ((p.edges.length : Int) ≤ o.n)
 else if o.kind = 6 then decide ((setOf p.labels).length = p.labels.length)
 else if o.kind = 7 then !p.labels.any fun l => decide (l ≠ o.n)
 else !triE p
def degR (p : Pt) (a : Nat) : Nat := (List.range p.labels.length).countP fun b => decide (a ≠ b) && hasE p.edges a b
def refB (o : Opp) (p : Pt) (a b : Nat) : Bool := decide (a = b) || (!(decide (o.kind = 1) && !hasE p.edges a b) && !(decide (o.kind = 6) && decide (labE p a = labE p b)) && (List.range p.labels.length).all fun c => !(decide (o.kind = 8) && hasE p.edges a b && hasE p.edges a c && hasE p.edges b c))
def refA (o : Opp) (p : Pt) (a : Nat) : Bool := !(decide (o.kind = 2) && decide (o.n < labE p a)) && !(decide (o.kind = 7) && decide (labE p a ≠ o.n)) && ((List.range p.labels.length).all (refB o p a)) && !(decide (o.kind = 3) && decide (o.n < (degR p a : Int)))
def refO (o : Opp) (p : Pt) : Bool := !(decide (o.kind = 4) && decide (o.n < (p.labels.length : Int))) && !(decide (o.kind = 5) && decide (o.n < (p.edges.length : Int))) && (List.range p.labels.length).all (refA o p)
def prs : Nat → List Edg
 | 0 => []
 | n + 1 => prs n ++ (List.range n).map fun a => ⟨(a : Int), (n : Int)⟩
theorem mem_prs : ∀ {n : Nat} {e : Edg}, e ∈ prs n ↔ 0 ≤ e.a ∧ e.a < e.b ∧ e.b < (n : Int)
 | 0, e => by simp [prs]; omega
 | n + 1, e => by
   unfold prs
   rw [List.mem_append, mem_prs, List.mem_map]
   constructor
   ·rintro (h | ⟨a, ha, rfl⟩)
    ·omega
    ·have := List.mem_range.1 ha; simp only; omega
   ·rintro ⟨h1, h2, h3⟩
    by_cases h : e.b < (n : Int)
    ·exact .inl ⟨h1, h2, h⟩
    ·obtain ⟨a, b⟩ := e
     simp only at h1 h2 h3 h
     refine .inr ⟨a.toNat, List.mem_range.2 (by omega), ?_⟩
     rw [Int.toNat_of_nonneg h1, show b = (n : Int) by omega]
theorem prs_nodup : ∀ n, (prs n).Nodup
 | 0 => List.nodup_nil
 | n + 1 => by
   unfold prs
   rw [List.nodup_append]
   refine ⟨prs_nodup n, ?_, fun x hx y hy e => ?_⟩
   ·unfold List.Nodup
    rw [List.pairwise_map]
    exact List.nodup_range.imp fun hne e => hne (by have := (Edg.mk.inj e).1; omega)
   ·subst e
    have h1 := mem_prs.1 hx
    obtain ⟨a, _, rfl⟩ := List.mem_map.1 hy
    simp only at h1; omega
theorem prs_len : ∀ n, (prs n).length = n * (n - 1) / 2
 | 0 => rfl
 | n + 1 => by
   unfold prs
   rw [List.length_append, prs_len n, List.length_map, List.length_range, Nat.add_sub_cancel]
   have h : (n + 1) * n = n * (n - 1) + n * 2 := by
    cases n with
    | zero => rfl
    | succ n => rw [Nat.add_sub_cancel, ← Nat.mul_add, Nat.mul_comm]
   rw [h, Nat.add_mul_div_right _ _ (by decide)]
section
variable {n : Nat} {p : Pt}
theorem clique_iff (hp : PtOk n p) : p.edges.length = n * (n - 1) / 2 ↔ ∀ a b : Nat, a < n → b < n → a ≠ b → hasE p.edges a b = true := by
 rw [← prs_len]
 have hsub : ∀ e ∈ p.edges, e ∈ prs n := fun e he => mem_prs.2 (hp.edge e he)
 constructor
 ·intro h a b ha hb hne
  have hperm := perm_of_sub hp.strict.nodup hsub (by omega)
  unfold hasE
  refine decide_eq_true (hperm.mem_iff.2 (mem_prs.2 ?_))
  unfold turn; simp only; omega
 ·intro h
  have h1 := nodup_len hp.strict.nodup hsub
  have h2 := nodup_len (prs_nodup n) (m := p.edges) fun e he => by
   obtain ⟨g1, g2, g3⟩ := mem_prs.1 he
   have := h e.a.toNat e.b.toNat (by omega) (by omega) (by omega)
   unfold hasE at this
   have := of_decide_eq_true this
   rw [Int.toNat_of_nonneg g1, Int.toNat_of_nonneg (show 0 ≤ e.b by omega)] at this
   unfold turn at this
   rw [show min e.a e.b = e.a by omega, show max e.a e.b = e.b by omega] at this
   exact this
  omega
def othE (v : Int) (e : Edg) : Int := if e.a = v then e.b else e.a
theorem deg_eq (hp : PtOk n p) {a : Nat} (ha : a < n) : degR p a = degE p.edges a := by
 unfold degR degE
 rw [List.countP_eq_length_filter, List.countP_eq_length_filter, hp.len]
 have h : (((List.range n).filter fun b => decide (a ≠ b) && hasE p.edges a b).map fun b : Nat => (b : Int)).Perm ((p.edges.filter fun e => decide (e.a = (a : Int) ∨ e.b = (a : Int))).map (othE a)) := by
  refine (List.perm_ext_iff_of_nodup ?_ ?_).2 fun x => ?_
  ·unfold List.Nodup
   rw [List.pairwise_map]
   exact (List.nodup_range.sublist List.filter_sublist).imp fun hne e => hne (by omega)
  ·unfold List.Nodup
   rw [List.pairwise_map]
   refine List.Pairwise.imp_of_mem ?_ (hp.strict.nodup.sublist List.filter_sublist)
   intro x y hx hy hne e
   obtain ⟨hx, qx⟩ := List.mem_filter.1 hx
   obtain ⟨hy, qy⟩ := List.mem_filter.1 hy
   have qx := of_decide_eq_true qx
   have qy := of_decide_eq_true qy
   have ex := hp.edge x hx
   have ey := hp.edge y hy
   refine hne ?_
   obtain ⟨xa, xb⟩ := x
   obtain ⟨ya, yb⟩ := y
   simp only [Edg.mk.injEq, othE] at *
   split at e <;> split at e <;> omega
  ·rw [List.mem_map, List.mem_map]
   constructor
   ·rintro ⟨b, hb, rfl⟩
    obtain ⟨hb, q⟩ := List.mem_filter.1 hb
    rw [Bool.and_eq_true, decide_eq_true_eq] at q
    have := List.mem_range.1 hb
    refine ⟨turn ⟨a, b⟩, List.mem_filter.2 ⟨of_decide_eq_true q.2, ?_⟩, ?_⟩
    ·refine decide_eq_true ?_
     unfold turn; simp only; omega
    ·unfold othE turn; simp only; split <;> omega
   ·rintro ⟨e, he, rfl⟩
    obtain ⟨he, q⟩ := List.mem_filter.1 he
    have q := of_decide_eq_true q
    have g := hp.edge e he
    refine ⟨(othE a e).toNat, List.mem_filter.2 ⟨List.mem_range.2 ?_, ?_⟩, ?_⟩
    ·unfold othE; split <;> omega
    ·rw [Bool.and_eq_true, decide_eq_true_eq]
     refine ⟨by unfold othE; split <;> omega, decide_eq_true ?_⟩
     have : turn ⟨(a : Int), ((othE a e).toNat : Int)⟩ = e := by
      obtain ⟨xa, xb⟩ := e
      simp only at g q
      simp only [turn, othE, Edg.mk.injEq]
      split <;> omega
     rw [this]; exact he
    ·unfold othE; split <;> omega
 have := h.length_eq
 rwa [List.length_map, List.length_map] at this
theorem lab_at (hp : PtOk n p) {a : Nat} (ha : a < n) : p.labels[a]? = some (labE p a) := by
 unfold labE
 rw [List.getElem?_eq_getElem (by rw [hp.len]; exact ha)]; rfl
theorem labs_iff (hp : PtOk n p) (q : Int → Bool) : p.labels.any q = true ↔ ∃ a, a < n ∧ q (labE p a) = true := by
 rw [List.any_eq_true]
 constructor
 ·rintro ⟨x, hx, h⟩
  obtain ⟨a, ha, rfl⟩ := List.mem_iff_getElem.1 hx
  have han : a < n := by rw [← hp.len]; exact ha
  refine ⟨a, han, ?_⟩
  have := lab_at hp han
  rw [List.getElem?_eq_getElem ha, Option.some.injEq] at this
  rw [← this]; exact h
 ·rintro ⟨a, ha, h⟩
  exact ⟨_, List.mem_of_getElem? (lab_at hp ha), h⟩
theorem unlike_iff (hp : PtOk n p) : (setOf p.labels).length = p.labels.length ↔ ∀ a b : Nat, a < n → b < n → a ≠ b → labE p a ≠ labE p b := by
 constructor
 ·intro h a b ha hb hne e
  have hperm := perm_of_sub (l := setOf p.labels) (m := p.labels) (((setOf_spec p.labels).1).imp fun h => by omega) (fun x hx => ((setOf_spec p.labels).2 x).1 hx) (by omega)
  have hn : p.labels.Nodup := hperm.nodup_iff.1 (((setOf_spec p.labels).1).imp fun h => by omega)
  have h1 := lab_at hp ha
  have h2 := lab_at hp hb
  have ha' : a < p.labels.length := by rw [hp.len]; exact ha
  have hb' : b < p.labels.length := by rw [hp.len]; exact hb
  rw [List.getElem?_eq_getElem ha', Option.some.injEq] at h1
  rw [List.getElem?_eq_getElem hb', Option.some.injEq] at h2
  have hq := List.pairwise_iff_getElem.1 hn
  rcases Nat.lt_or_ge a b with g | g
  ·exact hq a b ha' hb' g (by rw [h1, h2, e])
  ·exact hq b a hb' ha' (by omega) (by rw [h1, h2, e])
 ·intro h
  refine setOf_nodup ?_
  unfold List.Nodup
  rw [List.pairwise_iff_getElem]
  intro i j hi hj hij e
  have hi' : i < n := by rw [← hp.len]; exact hi
  have hj' : j < n := by rw [← hp.len]; exact hj
  have h1 := lab_at hp hi'
  have h2 := lab_at hp hj'
  rw [List.getElem?_eq_getElem hi, Option.some.injEq] at h1
  rw [List.getElem?_eq_getElem hj, Option.some.injEq] at h2
  exact h i j hi' hj' (by omega) (by rw [← h1, ← h2, e])
theorem tri_iff (hp : PtOk n p) : triE p = true ↔ ∃ a b c : Nat, a < n ∧ b < n ∧ c < n ∧ a ≠ b ∧ hasE p.edges a b = true ∧ hasE p.edges a c = true ∧ hasE p.edges b c = true := by
 unfold triE
 rw [List.any_eq_true]
 constructor
 ·rintro ⟨e, he, h⟩
  obtain ⟨c, hc, h⟩ := List.any_eq_true.1 h
  rw [Bool.and_eq_true] at h
  have g := hp.edge e he
  have hcn := List.mem_range.1 hc
  rw [hp.len] at hcn
  refine ⟨e.a.toNat, e.b.toNat, c, by omega, by omega, hcn, by omega, ?_, ?_, ?_⟩
  ·rw [Int.toNat_of_nonneg g.1, Int.toNat_of_nonneg (show 0 ≤ e.b by omega)]
   unfold hasE
   rw [show turn ⟨e.a, e.b⟩ = e by obtain ⟨xa, xb⟩ := e; simp only [turn, Edg.mk.injEq] at *; omega]
   exact decide_eq_true he
  ·rw [Int.toNat_of_nonneg g.1]; exact h.1
  ·rw [Int.toNat_of_nonneg (show 0 ≤ e.b by omega)]; exact h.2
 ·rintro ⟨a, b, c, ha, hb, hc, hne, h1, h2, h3⟩
  refine ⟨turn ⟨a, b⟩, of_decide_eq_true h1, List.any_eq_true.2 ⟨c, List.mem_range.2 (by rw [hp.len]; exact hc), ?_⟩⟩
  rw [Bool.and_eq_true]
  unfold turn
  simp only
  rcases Nat.lt_or_ge a b with h | h
  ·rw [show min (a : Int) b = a by omega, show max (a : Int) b = b by omega]; exact ⟨h2, h3⟩
  ·rw [show min (a : Int) b = b by omega, show max (a : Int) b = a by omega]; exact ⟨h3, h2⟩
theorem holds_ref (hp : PtOk n p) {o : Opp} (h1 : 1 ≤ o.kind) (h8 : o.kind ≤ 8) : holdsO o p = refO o p := by
 obtain ⟨k, m⟩ := o
 simp only at h1 h8
 have hk : k = 1 ∨ k = 2 ∨ k = 3 ∨ k = 4 ∨ k = 5 ∨ k = 6 ∨ k = 7 ∨ k = 8 := by omega
 rcases hk with rfl | rfl | rfl | rfl | rfl | rfl | rfl | rfl
 ·rw [Bool.eq_iff_iff]
  have := clique_iff hp
  simp [holdsO, refO, refA, refB, hp.len]
  rw [this]
  exact ⟨fun h a ha b hb => Classical.byCases .inl fun hne => .inr (h a b ha hb hne), fun h a b ha hb hne => (h a ha b hb).resolve_left hne⟩
 ·rw [Bool.eq_iff_iff]
  have := labs_iff hp fun l => decide (m < l)
  rw [show holdsO ⟨2, m⟩ p = !p.labels.any fun l => decide (m < l) from rfl, Bool.not_eq_true', Bool.eq_false_iff, ne_eq, this]
  simp [refO, refA, refB, hp.len]
 ·rw [Bool.eq_iff_iff]
  simp [holdsO, refO, refA, refB, hp.len, degP]
  exact ⟨fun h a ha => by rw [deg_eq hp ha]; exact h a ha, fun h a ha => by rw [← deg_eq hp ha]; exact h a ha⟩
 ·rw [Bool.eq_iff_iff]
  simp [holdsO, refO, refA, refB, hp.len]
 ·rw [Bool.eq_iff_iff]
  simp [holdsO, refO, refA, refB, hp.len]
 ·rw [Bool.eq_iff_iff]
  have := unlike_iff hp
  rw [show holdsO ⟨6, m⟩ p = decide ((setOf p.labels).length = p.labels.length) from rfl, decide_eq_true_eq, this]
  simp [refO, refA, refB, hp.len]
  exact ⟨fun h a ha b hb => Classical.byCases .inl fun hne => .inr (h a b ha hb hne), fun h a b ha hb hne => (h a ha b hb).resolve_left hne⟩
 ·rw [Bool.eq_iff_iff]
  have := labs_iff hp fun l => decide (l ≠ m)
  rw [show holdsO ⟨7, m⟩ p = !p.labels.any fun l => decide (l ≠ m) from rfl, Bool.not_eq_true', Bool.eq_false_iff, ne_eq, this]
  simp [refO, refA, refB, hp.len]
 ·rw [Bool.eq_iff_iff]
  have := tri_iff hp
  rw [show holdsO ⟨8, m⟩ p = !triE p from rfl, Bool.not_eq_true', Bool.eq_false_iff, ne_eq, this]
  simp [refO, refA, refB, hp.len]
  constructor
  ·intro h a ha b hb
   refine Classical.byCases .inl fun hne => .inr fun c hc => ?_
   have := h a ha b hb c hc hne
   revert this
   cases hasE p.edges a b <;> cases hasE p.edges a c <;> cases hasE p.edges b c <;> simp
  ·intro h a ha b hb c hc hne g1 g2
   have := (h a ha b hb).resolve_left hne c hc
   rw [g1, g2] at this
   simpa using this
end
end Go.Gr
end
section
namespace Go.Gr
theorem degE_snoc {E : List Edg} {v : Int} {i : Nat} {x : Edg} (h : E[i]? = some x) : degE (E.take (i + 1)) v = degE (E.take i) v + if x.a = v ∨ x.b = v then 1 else 0 := by
 unfold degE
 rw [List.take_add_one, h, Option.toList_some, List.countP_append]
 congr 1
 by_cases hc : x.a = v ∨ x.b = v <;> simp [hc]
theorem degE_le (E : List Edg) (v : Int) (i : Nat) : degE (E.take i) v ≤ i := by
 unfold degE
 exact Nat.le_trans List.countP_le_length (by rw [List.length_take]; omega)
end Go.Gr
namespace Go.Proofs.YtjejpdfldmempaaGreatDoor
open Go.Sx Go.RowKit Go.Reg Go.Gr
set_option maxRecDepth 100000
def pl_pdg : List (Nat × Plan) := []
def G_pdg : List FuncId := []
theorem cok_pdg : codeOk Tryz.prog G_pdg pl_pdg (Tryz.f283.body.getD .skip) = true := by kernel_rfl
theorem run_pdg (vs : Array Value) (w : World) : (callFunc 283 vs).run C1.P w = .ok (.enter 283 vs) w := by kernel_rfl
theorem pdegree_pure (p : Pt) (v : Int) (hme : p.edges.length ≤ 4294967296) : Pure C1 283 [dPt p, .int .i64 v] (fun y => y = .int .i64 (degE p.edges v : Nat)) := by
 have hde : (p.edges.map dE).length = p.edges.length := List.length_map _
 refine pure_of c1_ok (pl := pl_pdg) (G := G_pdg) Tryz.func283 rfl Tryz.ntmps283 run_pdg cok_pdg (by simp) ?_
 ((conv => whnf); repeat' ((first | refine odw ?_ | refine ify ?_ | refine ifn ?_ | refine i6 ?_ | refine ati ?_ | refine mst ?_ | refine rmd ?_ | refine ibo (fun _ => ?_) (fun _ => ?_)) <;> conv => whnf))
 refine loop_lo (ι := Nat) (fun i => i ≤ p.edges.length) (fun i => [(11, .d (.int .i64 i)), (10, .d (.int .i64 (p.edges.map dE).length)), (9, .d (dEs p.edges)), (5, .d (.int .i64 (degE (p.edges.take i) v : Nat))), (1, .d (.int .i64 v))]) (fun _ => []) (fun i => p.edges.length - i) 0 (fun _ => rfl) (Nat.zero_le _) (.refl _ _) ⟨rfl, rfl, rfl, rfl, rfl, trivial⟩ trivial ?_
 intro i hi
 refine sxCode_sound c1_ok (G := G_pdg) (pl := pl_pdg) _ _ _ _ (by kernel_rfl) ?_
 by_cases hil : i < p.edges.length
 ·have hx := List.getElem?_eq_getElem hil
  generalize p.edges[i] = x at hx
  have hxd : (p.edges.map dE)[i]? = some (.agg [.int .i64 x.a, .int .i64 x.b]) := by rw [List.getElem?_map, hx]; rfl
  have hst := degE_snoc (v := v) hx
  have hle := degE_le p.edges v i
  by_cases h1 : x.a = v
  ·rw [if_pos (.inl h1)] at hst
   (conv => whnf)
   (repeat' ((first | refine ord_ok ?_ ?_ | refine at_da hxd rfl ?_ | refine ify ?_ | refine ifn ?_ | refine i6 ?_ | refine ati ?_ | refine mst ?_ | refine rmd ?_ | refine ibo (fun _ => ?_) (fun _ => ?_) | exact oend) <;> conv => whnf))
   exact ⟨i + 1, _, _, hil, .refl _ _, ⟨rfl, rfl, rfl, int_is (by omega), rfl, trivial⟩, trivial, by omega⟩
  ·by_cases h2 : x.b = v
   ·rw [if_pos (.inr h2)] at hst
    (conv => whnf)
    (repeat' ((first | refine ord_ok ?_ ?_ | refine at_da hxd rfl ?_ | refine ify ?_ | refine ifn ?_ | refine i6 ?_ | refine ati ?_ | refine mst ?_ | refine rmd ?_ | refine ibo (fun _ => ?_) (fun _ => ?_) | exact oend) <;> conv => whnf))
    exact ⟨i + 1, _, _, hil, .refl _ _, ⟨rfl, rfl, rfl, int_is (by omega), rfl, trivial⟩, trivial, by omega⟩
   ·rw [if_neg (by omega)] at hst
    (conv => whnf)
    (repeat' ((first | refine ord_ok ?_ ?_ | refine at_da hxd rfl ?_ | refine ify ?_ | refine ifn ?_ | refine i6 ?_ | refine ati ?_ | refine mst ?_ | refine rmd ?_ | refine ibo (fun _ => ?_) (fun _ => ?_) | exact oend) <;> conv => whnf))
    exact ⟨i + 1, _, _, hil, .refl _ _, ⟨rfl, rfl, rfl, int_is (by omega), rfl, trivial⟩, trivial, by omega⟩
 ·have e : p.edges.take i = p.edges := List.take_of_length_le (by omega)
  rw [e]
  ((conv => whnf); repeat' ((first | refine odw ?_ | refine ify ?_ | refine ifn ?_ | refine i6 ?_ | refine ati ?_ | refine mst ?_ | refine rmd ?_ | refine ibo (fun _ => ?_) (fun _ => ?_)) <;> conv => whnf))
  exact rfl
end Go.Proofs.YtjejpdfldmempaaGreatDoor
end
section
namespace Go.Gr
theorem idxG_at {α : Type} {l : List α} {p : α → Bool} {i : Nat} {x : α} (h : l[i]? = some x) (hx : p x = true) (hn : ∀ y ∈ l.take i, p y = false) : l.findIdx? p = some i := by
 have hil : i < l.length := by
  rcases Nat.lt_or_ge i l.length with g | g
  ·exact g
  ·rw [List.getElem?_eq_none g] at h; cases h
 rw [List.findIdx?_eq_some_iff_getElem]
 rw [List.getElem?_eq_getElem hil, Option.some.injEq] at h
 refine ⟨hil, by rw [h]; exact hx, fun j hj => ?_⟩
 have := hn (l[j]'(by omega)) (List.mem_take_iff_getElem.2 ⟨j, by omega, rfl⟩)
 simp [this]
theorem idxG_none {α : Type} {l : List α} {p : α → Bool} (h : ∀ y ∈ l, p y = false) : l.findIdx? p = none := by
 rw [List.findIdx?_eq_none_iff]; exact h
end Go.Gr
namespace Go.Proofs.YtjejpdfldmempaaGreatDoor
open Go.Sx Go.RowKit Go.Reg Go.Gr
set_option maxRecDepth 100000
def dO (o : Opp) : Da := .agg [.int .i64 o.kind, .int .i64 o.n]
def dOs (l : List Opp) : Da := .list 2 (l.map dO)
def kindS : ByteArray := ⟨#[107, 105, 110, 100]⟩
def numS : ByteArray := ⟨#[110, 117, 109, 98, 101, 114]⟩
def nameO (k : Int) : List UInt8 := if k = 1 then [99, 108, 105, 113, 117, 101] else if k = 2 then [108, 97, 98, 101, 108, 115] else if k = 3 then [100, 101, 103, 114, 101, 101] else if k = 4 then [115, 105, 122, 101] else if k = 5 then [101, 100, 103, 101, 115] else if k = 6 then [117, 110, 108, 105, 107, 101] else if k = 7 then [111, 110, 108, 121] else if k = 8 then [102, 114, 101, 101] else []
def namesO : List Da := (List.range 8).map fun k : Nat => .str ⟨(nameO ((k : Int) + 1)).toArray⟩
theorem namesO_at {i : Nat} (h : i < 8) : namesO[i]? = some (.str ⟨(nameO ((i : Int) + 1)).toArray⟩) := by
 unfold namesO
 rw [List.getElem?_map, List.getElem?_range h]; rfl
def pl_pgnm : List (Nat × Plan) := []
def G_pgnm : List FuncId := []
theorem cok_pgnm : codeOk Tryz.prog G_pgnm pl_pgnm (Tryz.f254.body.getD .skip) = true := by kernel_rfl
theorem run_pgnm (vs : Array Value) (w : World) : (callFunc 254 vs).run C1.P w = .ok (.enter 254 vs) w := by kernel_rfl
theorem pnames_pure : Pure C1 254 [] (fun y => y = .list 1 namesO) := by
 refine pure_of c1_ok (pl := pl_pgnm) (G := G_pgnm) Tryz.func254 rfl Tryz.ntmps254 run_pgnm cok_pgnm (by simp) ?_
 ((conv => whnf); repeat' ((first | refine odw ?_ | refine ify ?_ | refine ifn ?_ | refine i6 ?_ | refine ati ?_ | refine mst ?_ | refine rmd ?_ | refine ibo (fun _ => ?_) (fun _ => ?_)) <;> conv => whnf))
 exact rfl
def pl_pgna : List (Nat × Plan) := []
def G_pgna : List FuncId := [254]
theorem cok_pgna : codeOk Tryz.prog G_pgna pl_pgna (Tryz.f227.body.getD .skip) = true := by kernel_rfl
theorem run_pgna (vs : Array Value) (w : World) : (callFunc 227 vs).run C1.P w = .ok (.enter 227 vs) w := by kernel_rfl
theorem pname_pure (k : Int) : Pure C1 227 [.int .i64 k] (fun y => y = .str ⟨(nameO k).toArray⟩) := by
 have hn := pnames_pure
 have hl : namesO.length = 8 := rfl
 refine pure_of c1_ok (pl := pl_pgna) (G := G_pgna) Tryz.func227 rfl Tryz.ntmps227 run_pgna cok_pgna (by simp) ?_
 by_cases hk : 1 ≤ k ∧ k ≤ 8
 ·have hx := namesO_at (i := (k - 1).toNat) (by omega)
  rw [show (((k - 1).toNat : Nat) : Int) + 1 = k by omega] at hx
  (conv => whnf)
  (repeat' ((first | refine ord_ok ?_ ?_ | refine call_eq rfl hn ?_ | refine at_da hx (by omega) ?_ | refine ify ?_ | refine ifn ?_ | refine i6 ?_ | refine ati ?_ | refine mst ?_ | refine rmd ?_ | refine ibo (fun _ => ?_) (fun _ => ?_) | exact oend) <;> conv => whnf))
  exact rfl
 ·have e : nameO k = [] := by unfold nameO; repeat rw [if_neg (by omega)]
  rw [e]
  (conv => whnf)
  (repeat' ((first | refine ord_ok ?_ ?_ | refine call_eq rfl hn ?_ | refine ify ?_ | refine ifn ?_ | refine i6 ?_ | refine ati ?_ | refine mst ?_ | refine rmd ?_ | refine ibo (fun _ => ?_) (fun _ => ?_) | exact oend) <;> conv => whnf))
  all_goals exact rfl
def pl_pgtk : List (Nat × Plan) := []
def G_pgtk : List FuncId := []
theorem cok_pgtk : codeOk Tryz.prog G_pgtk pl_pgtk (Tryz.f228.body.getD .skip) = true := by kernel_rfl
theorem run_pgtk (vs : Array Value) (w : World) : (callFunc 228 vs).run C1.P w = .ok (.enter 228 vs) w := by kernel_rfl
theorem ptakes_pure (k : Int) : Pure C1 228 [.int .i64 k] (fun y => y = .bool (takesO k)) := by
 refine pure_of c1_ok (pl := pl_pgtk) (G := G_pgtk) Tryz.func228 rfl Tryz.ntmps228 run_pgtk cok_pgtk (by simp) ?_
 by_cases h1 : k = 1
 ·subst h1; ((conv => whnf); repeat' ((first | refine odw ?_ | refine ify ?_ | refine ifn ?_ | refine i6 ?_ | refine ati ?_ | refine mst ?_ | refine rmd ?_ | refine ibo (fun _ => ?_) (fun _ => ?_)) <;> conv => whnf)); exact rfl
 by_cases h6 : k = 6
 ·subst h6; ((conv => whnf); repeat' ((first | refine odw ?_ | refine ify ?_ | refine ifn ?_ | refine i6 ?_ | refine ati ?_ | refine mst ?_ | refine rmd ?_ | refine ibo (fun _ => ?_) (fun _ => ?_)) <;> conv => whnf)); exact rfl
 by_cases h8 : k = 8
 ·subst h8; ((conv => whnf); repeat' ((first | refine odw ?_ | refine ify ?_ | refine ifn ?_ | refine i6 ?_ | refine ati ?_ | refine mst ?_ | refine rmd ?_ | refine ibo (fun _ => ?_) (fun _ => ?_)) <;> conv => whnf)); exact rfl
 have e : takesO k = true := by unfold takesO; simp [h1, h6, h8]
 rw [e]
 ((conv => whnf); repeat' ((first | refine odw ?_ | refine ify ?_ | refine ifn ?_ | refine i6 ?_ | refine ati ?_ | refine mst ?_ | refine rmd ?_ | refine ibo (fun _ => ?_) (fun _ => ?_)) <;> conv => whnf))
 exact rfl
def rightY (o : Opp) (at_ : Int) : Da := if codeO o = 0 then .nili else dF (codeO o) at_ (if codeO o = 1 then kindS else numS)
theorem name_ne {k : Int} (h : 1 ≤ k ∧ k ≤ 8) : ∃ c t, nameO k = c :: t := by
 have hk : k = 1 ∨ k = 2 ∨ k = 3 ∨ k = 4 ∨ k = 5 ∨ k = 6 ∨ k = 7 ∨ k = 8 := by omega
 rcases hk with rfl | rfl | rfl | rfl | rfl | rfl | rfl | rfl <;> exact ⟨_, _, rfl⟩
def pl_pgr : List (Nat × Plan) := []
def G_pgr : List FuncId := [227, 228]
theorem cok_pgr : codeOk Tryz.prog G_pgr pl_pgr (Tryz.f173.body.getD .skip) = true := by kernel_rfl
theorem run_pgr (vs : Array Value) (w : World) : (callFunc 173 vs).run C1.P w = .ok (.enter 173 vs) w := by kernel_rfl
theorem pright1_pure (o : Opp) (a : Int) : Pure C1 173 [dO o, .int .i64 a] (fun y => y = rightY o a) := by
 have hn := pname_pure o.kind
 have ht := ptakes_pure o.kind
 have hf1 := fnew_pure 1 a kindS
 have hf3 := fnew_pure 3 a numS
 refine pure_of c1_ok (pl := pl_pgr) (G := G_pgr) Tryz.func173 rfl Tryz.ntmps173 run_pgr cok_pgr (by simp) ?_
 by_cases hk : 1 ≤ o.kind ∧ o.kind ≤ 8
 ·obtain ⟨c, t, hct⟩ := name_ne hk
  rw [hct] at hn
  have hsn : ¬ ({ data := (c :: t).toArray } : ByteArray) = { data := #[] } := fun h => by simp at h
  by_cases hr : o.n < 0 ∨ 255 < o.n ∨ 0 < o.n ∧ takesO o.kind = false
  ·have e : rightY o a = dF 3 a numS := by
    unfold rightY codeO
    rw [if_neg (show ¬ (o.kind < 1 ∨ 8 < o.kind) by omega), if_pos hr]; rfl
   rw [e]
   cases htk : takesO o.kind <;> rw [htk] at ht hr <;>
   ·(conv => whnf)
    (repeat' ((first | refine ord_ok ?_ ?_ | refine if_no hsn ?_ | refine call_eq rfl hn ?_ | refine call_eq rfl ht ?_ | refine call_eq rfl hf3 ?_ | refine ify ?_ | refine ifn ?_ | refine i6 ?_ | refine ati ?_ | refine mst ?_ | refine rmd ?_ | refine ibo (fun _ => ?_) (fun _ => ?_) | exact oend) <;> conv => whnf))
    all_goals first | exact rfl | (exfalso; simp at hr; omega)
  ·have e : rightY o a = .nili := by
    unfold rightY codeO
    rw [if_neg (show ¬ (o.kind < 1 ∨ 8 < o.kind) by omega), if_neg hr]; rfl
   rw [e]
   cases htk : takesO o.kind <;> rw [htk] at ht hr <;>
   ·(conv => whnf)
    (repeat' ((first | refine ord_ok ?_ ?_ | refine if_no hsn ?_ | refine call_eq rfl hn ?_ | refine call_eq rfl ht ?_ | refine call_eq rfl hf3 ?_ | refine ify ?_ | refine ifn ?_ | refine i6 ?_ | refine ati ?_ | refine mst ?_ | refine rmd ?_ | refine ibo (fun _ => ?_) (fun _ => ?_) | exact oend) <;> conv => whnf))
    all_goals first | exact rfl | (exfalso; simp at hr; omega)
 ·have e1 : nameO o.kind = [] := by unfold nameO; repeat rw [if_neg (by omega)]
  have e : rightY o a = dF 1 a kindS := by
   unfold rightY codeO
   rw [if_pos (show (o.kind < 1 ∨ 8 < o.kind) by omega)]; rfl
  rw [e1] at hn
  rw [e]
  (conv => whnf)
  (repeat' ((first | refine ord_ok ?_ ?_ | refine call_eq rfl hn ?_ | refine call_eq rfl hf1 ?_ | refine ify ?_ | refine ifn ?_ | refine i6 ?_ | refine ati ?_ | refine mst ?_ | refine rmd ?_ | refine ibo (fun _ => ?_) (fun _ => ?_) | exact oend) <;> conv => whnf))
  all_goals exact rfl
end Go.Proofs.YtjejpdfldmempaaGreatDoor
end
