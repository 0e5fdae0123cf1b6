/- Merged: Cpd Cpe Alk Lca. -/
import Derived.Test.YthegabgbakckfaaGreatDoorZcp
import Derived.Test.YthegabgbakckfaaGreatDoorZtx
import Derived.Test.YthegabgbakckfaaGreatDoorZfm
import Derived.Test.YthegabgbakckfaaGreatDoorZga
section
/- Degrees, an edge less, orbits: plain laws. -/
namespace Go.Gr
open Go.Proofs.YthegabgbakckfaaGreatDoor
/-! ### degrees, edges, an edge less -/
def degE (E : List Edg) (v : Int) : Nat := E.countP fun e => decide (e.a = v ∨ e.b = v)
section
variable {n : Nat} {p q : Pt} {b : List Int}
theorem mv_ends (hb : IsOrd n b) {e : Edg} (h : 0 ≤ e.a ∧ e.a < e.b ∧ e.b < (n : Int)) {v : Nat} (hv : v < n) : ((mvE b e).a = (pl b v : Int) ∨ (mvE b e).b = (pl b v : Int)) ↔ (e.a = (v : Int) ∨ e.b = (v : Int)) := by
  obtain ⟨i, j, hij, hj, rfl⟩ := edge_nat h
  have hi : i < n := by omega
  rw [mv_is b hb hi hj]
  have h1 : pl b i = pl b v ↔ i = v := ⟨fun e => pl_inj hb hi hv e, fun e => by rw [e]⟩
  have h2 : pl b j = pl b v ↔ j = v := ⟨fun e => pl_inj hb hj hv e, fun e => by rw [e]⟩
  unfold turn
  simp only
  omega
theorem deg_turn (hb : IsOrd n b) (hp : PtOk n p) {v : Nat} (hv : v < n) : degE (turnP p b).edges (pl b v : Int) = degE p.edges v := by
  have hn := mv_nodup hb.2.2 (E := p.edges) (fun e he => by rw [hb.1]; exact hp.edge e he) hp.strict.nodup
  obtain ⟨h1, h2⟩ := fold_ins _ hn [] List.Pairwise.nil (by simp)
  rw [List.append_nil] at h2
  unfold degE
  rw [show (turnP p b).edges = (p.edges.map (mvE b)).foldl insE [] from rfl, h2.countP_eq, List.countP_map]
  refine List.countP_congr fun e he => ?_
  simp only [Function.comp_apply, decide_eq_true_eq]
  exact mv_ends hb (hp.edge e he) hv
theorem has_turn (hb : IsOrd n b) (hp : PtOk n p) {e : Edg} (he : e ∈ p.edges) : turn ⟨(b[e.a.toNat]?).getD 0, (b[e.b.toNat]?).getD 0⟩ ∈ (turnP p b).edges :=
  ((turnP_edges hb hp).2 _).2 ⟨e, he, rfl⟩
/-- without an edge -/
def lessP (p : Pt) (i : Nat) : Pt := ⟨p.labels, p.edges.take i ++ p.edges.drop (i + 1)⟩
theorem less_ok (hp : PtOk n p) (i : Nat) : PtOk n (lessP p i) := by
  have hs : (p.edges.take i ++ p.edges.drop (i + 1)).Sublist p.edges := by
    rw [← List.eraseIdx_eq_take_drop_succ]; exact List.eraseIdx_sublist _ _
  exact ⟨hp.len, fun e he => hp.edge e (hs.subset he), hp.strict.sublist hs⟩
theorem less_len {i : Nat} (h : i < p.edges.length) : (lessP p i).edges.length + 1 = p.edges.length := by
  unfold lessP
  simp only [List.length_append, List.length_take, List.length_drop]; omega
/-- one with an edge less is never alike -/
theorem less_no (hp : PtOk n p) {i : Nat} (h : i < p.edges.length) : mapsP p (lessP p i) = [] := by
  rw [List.eq_nil_iff_forall_not_mem]
  intro o ho
  obtain ⟨h1, h2⟩ := (mem_maps hp (less_ok hp i)).1 ho
  have h3 := turnP_edge_len h1 hp
  rw [h2] at h3
  have := less_len h; omega
theorem less_form (hp : PtOk n p) {i : Nat} (h : i < p.edges.length) : formP p ≠ formP (lessP p i) := fun e => by
  obtain ⟨m, hm⟩ := (alike_iff hp (less_ok hp i)).1 e
  rw [less_no hp h] at hm; simp at hm

/-! ### orbits -/
theorem own_ord (hp : PtOk n p) {o : List Int} (h : o ∈ mapsP p p) : IsOrd n o := ((mem_maps hp hp).1 h).1
theorem own_back (hp : PtOk n p) {o : List Int} (h : o ∈ mapsP p p) : backL o ∈ mapsP p p := by
  obtain ⟨h1, h2⟩ := (mem_maps hp hp).1 h
  refine (mem_maps hp hp).2 ⟨back_ord h1, ?_⟩
  have := turn_back h1 hp
  rwa [h2] at this
theorem own_then (hp : PtOk n p) {o u : List Int} (h : o ∈ mapsP p p) (hu : u ∈ mapsP p p) : thenL o u ∈ mapsP p p := by
  obtain ⟨h1, h2⟩ := (mem_maps hp hp).1 h
  obtain ⟨g1, g2⟩ := (mem_maps hp hp).1 hu
  exact (mem_maps hp hp).2 ⟨thenL_ord h1 g1, by rw [← turn_then h1 g1 hp, h2, g2]⟩
/-- where own orders lead a vertex -/
def InOrb (p : Pt) (v u : Nat) : Prop := ∃ o ∈ mapsP p p, pl o v = u
theorem orb_self (hp : PtOk n p) {v : Nat} (hv : v < n) : InOrb p v v := ⟨_, id_own hp, pl_id hv⟩
theorem orb_lt (hp : PtOk n p) {v u : Nat} (hv : v < n) (h : InOrb p v u) : u < n := by
  obtain ⟨o, ho, rfl⟩ := h; exact pl_lt (own_ord hp ho) hv
theorem orb_sym (hp : PtOk n p) {v u : Nat} (hv : v < n) (h : InOrb p v u) : InOrb p u v := by
  obtain ⟨o, ho, rfl⟩ := h
  exact ⟨backL o, own_back hp ho, back_at (own_ord hp ho) hv⟩
theorem orb_trans (hp : PtOk n p) {v u w : Nat} (hv : v < n) (h : InOrb p v u) (h' : InOrb p u w) : InOrb p v w := by
  obtain ⟨o, ho, rfl⟩ := h
  obtain ⟨o', ho', rfl⟩ := h'
  exact ⟨thenL o o', own_then hp ho ho', pl_then (own_ord hp ho) (own_ord hp ho') hv⟩
theorem orb_label (hp : PtOk n p) {v u : Nat} (hv : v < n) (h : InOrb p v u) : p.labels[u]? = p.labels[v]? := by
  obtain ⟨o, ho, rfl⟩ := h
  obtain ⟨h1, h2⟩ := (mem_maps hp hp).1 ho
  have := turnP_at h1 hp hv
  rwa [h2] at this
theorem orb_deg (hp : PtOk n p) {v u : Nat} (hv : v < n) (h : InOrb p v u) : degE p.edges u = degE p.edges v := by
  obtain ⟨o, ho, rfl⟩ := h
  obtain ⟨h1, h2⟩ := (mem_maps hp hp).1 ho
  have := deg_turn h1 hp hv
  rwa [h2] at this
/-- the own orders' number is a multiple of each orbit's -/
theorem orb_len (hp : PtOk n p) {v : Nat} (hv : v < n) {l : List Nat} (hl : l.Nodup) (hm : ∀ u, u ∈ l ↔ InOrb p v u) : ∃ k, (mapsP p p).length = l.length * k := by
  obtain ⟨c, h1, h2, h3⟩ := classes (fun o => pl o v) ((mapsP p p).filter fun o => decide (pl o v = v)).length (mapsP p p).length (mapsP p p) (Nat.le_refl _) (fun y hy => by
    have hyo := own_ord hp hy
    refine len_bij ((maps_nodup _ _).filter _) ((maps_nodup _ _).filter _) (fun o => thenL o (backL y)) (fun o => thenL o y) (fun o ho => ?_) (fun o ho => ?_)
    · obtain ⟨g1, g2⟩ := List.mem_filter.1 ho
      have g2' : pl o v = pl y v := by simpa using g2
      have go := own_ord hp g1
      refine ⟨List.mem_filter.2 ⟨own_then hp g1 (own_back hp hy), ?_⟩, ?_⟩
      · rw [decide_eq_true_eq, pl_then go (back_ord hyo) hv, g2', back_at hyo hv]
      · show thenL (thenL o (backL y)) y = o
        rw [then_assoc go (back_ord hyo) hyo, back_then hyo, then_id go]
    · obtain ⟨g1, g2⟩ := List.mem_filter.1 ho
      have g2' : pl o v = v := by simpa using g2
      have go := own_ord hp g1
      refine ⟨List.mem_filter.2 ⟨own_then hp g1 hy, ?_⟩, ?_⟩
      · rw [decide_eq_true_eq, pl_then go hyo hv, g2']
      · show thenL (thenL o y) (backL y) = o
        rw [then_assoc go hyo (back_ord hyo), then_back hyo, then_id go])
  have hc : c.Perm l := by
    refine perm_of_sub h1 (fun u hu => (hm u).2 ((h2 u).1 hu)) ?_
    exact nodup_len hl fun u hu => (h2 u).2 ((hm u).1 hu)
  exact ⟨_, by rw [h3, hc.length_eq]⟩
end
end Go.Gr
end

section
/- A pattern's text tells the pattern. -/
namespace Go.Gr
open Go.Proofs.YthegabgbakckfaaGreatDoor
open Go
/-! ### a pattern's text tells the pattern -/
theorem join_no {c : UInt8} {sep : List UInt8} (hs : c ∉ sep) : ∀ {xs : List (List UInt8)}, (∀ x ∈ xs, c ∉ x) → c ∉ Lib.join xs sep
  | [], _ => by rw [Lib.join_nil]; simp
  | [x], h => by rw [Lib.join_one]; exact h x (by simp)
  | x :: y :: r, h => by
    rw [join_two]
    simp only [List.mem_append, not_or]
    exact ⟨h x (by simp), hs, join_no hs fun z hz => h z (by simp [hz])⟩
theorem join_inj {c : UInt8} : ∀ {xs ys : List (List UInt8)}, (∀ x ∈ xs, c ∉ x ∧ x ≠ []) → (∀ x ∈ ys, c ∉ x ∧ x ≠ []) → Lib.join xs [c] = Lib.join ys [c] → xs = ys
  | [], [], _, _, _ => rfl
  | [], [y], _, h, e => by rw [Lib.join_nil, Lib.join_one] at e; exact absurd e.symm (h y (by simp)).2
  | [], y :: z :: r, _, h, e => by rw [Lib.join_nil, join_two] at e; simp at e
  | [x], [], h, _, e => by rw [Lib.join_nil, Lib.join_one] at e; exact absurd e (h x (by simp)).2
  | x :: z :: r, [], h, _, e => by rw [Lib.join_nil, join_two] at e; simp at e
  | [x], [y], _, _, e => by rw [Lib.join_one, Lib.join_one] at e; rw [e]
  | [x], y :: z :: r, h, _, e => by
    rw [Lib.join_one, join_two] at e
    exact absurd (show c ∈ x by rw [e]; simp) (h x (by simp)).1
  | x :: z :: r, [y], _, h, e => by
    rw [Lib.join_one, join_two] at e
    exact absurd (show c ∈ y by rw [← e]; simp) (h y (by simp)).1
  | x :: z :: r, y :: w :: s, h, h', e => by
    rw [join_two, join_two] at e
    obtain ⟨e1, e2⟩ := sep_uniq (h x (by simp)).1 (h' y (by simp)).1 e
    rw [e1, join_inj (fun u hu => h u (by simp [hu])) (fun u hu => h' u (by simp [hu])) e2]
theorem itoa_digit {x : Int} (h : 0 ≤ x) {c : UInt8} (hc : c ∈ Lib.itoa x) : 48 ≤ c.toNat ∧ c.toNat ≤ 57 := by
  obtain ⟨k, rfl⟩ := Int.eq_ofNat_of_zero_le h
  rw [itoa_nat] at hc
  exact dd_digit k c hc
theorem itoa_inj {x y : Int} (hx : 0 ≤ x) (hy : 0 ≤ y) (h : Lib.itoa x = Lib.itoa y) : x = y := by
  obtain ⟨k, rfl⟩ := Int.eq_ofNat_of_zero_le hx
  obtain ⟨j, rfl⟩ := Int.eq_ofNat_of_zero_le hy
  rw [itoa_nat, itoa_nat] at h
  have := congrArg val h
  rw [val_dd, val_dd] at this
  rw [this]
theorem itoa_ne {x : Int} (h : 0 ≤ x) : Lib.itoa x ≠ [] := by
  obtain ⟨k, rfl⟩ := Int.eq_ofNat_of_zero_le h
  rw [itoa_nat]; exact dd_ne k
theorem itoa_no {x : Int} (h : 0 ≤ x) {c : UInt8} (hc : c.toNat < 48 ∨ 57 < c.toNat) : c ∉ Lib.itoa x := fun hm => by have := itoa_digit h hm; omega
theorem map_inj_on {α β : Type} {f : α → β} : ∀ {l m : List α}, (∀ x ∈ l, ∀ y ∈ m, f x = f y → x = y) → l.map f = m.map f → l = m
  | [], [], _, _ => rfl
  | [], _ :: _, _, h => by simp at h
  | _ :: _, [], _, h => by simp at h
  | x :: l, y :: m, hf, h => by
    simp only [List.map_cons, List.cons.injEq] at h
    rw [hf x (by simp) y (by simp) h.1, map_inj_on (fun a ha b hb => hf a (by simp [ha]) b (by simp [hb])) h.2]
/-- no number below 0 -/
def PtNat (p : Pt) : Prop := (∀ x ∈ p.labels, 0 ≤ x) ∧ ∀ e ∈ p.edges, 0 ≤ e.a ∧ 0 ≤ e.b
theorem edgB_no {e : Edg} (h : 0 ≤ e.a ∧ 0 ≤ e.b) : (44 : UInt8) ∉ edgB e ∧ edgB e ≠ [] := by
  unfold edgB
  refine ⟨?_, by simp⟩
  simp only [List.mem_append, List.mem_cons, not_or]
  exact ⟨itoa_no h.1 (by decide), by decide, itoa_no h.2 (by decide)⟩
theorem edgB_inj {e f : Edg} (h : 0 ≤ e.a ∧ 0 ≤ e.b) (h' : 0 ≤ f.a ∧ 0 ≤ f.b) (hh : edgB e = edgB f) : e = f := by
  unfold edgB at hh
  obtain ⟨h1, h2⟩ := sep_uniq (itoa_no h.1 (by decide)) (itoa_no h'.1 (by decide)) hh
  cases e; cases f
  simp only [Edg.mk.injEq]
  exact ⟨itoa_inj h.1 h'.1 h1, itoa_inj h.2 h'.2 h2⟩
theorem patB_inj {p q : Pt} (hp : PtNat p) (hq : PtNat q) (h : patB p = patB q) : p = q := by
  unfold patB at h
  have no : ∀ {l : List Int}, (∀ x ∈ l, 0 ≤ x) → (124 : UInt8) ∉ Lib.join (l.map Lib.itoa) [44] := fun hl => join_no (by decide) fun x hx => by
    obtain ⟨y, hy, rfl⟩ := List.mem_map.1 hx
    exact itoa_no (hl y hy) (by decide)
  have no2 : ∀ {l : List Int}, (∀ x ∈ l, 0 ≤ x) → ∀ x ∈ l.map Lib.itoa, (44 : UInt8) ∉ x ∧ x ≠ [] := fun hl x hx => by
    obtain ⟨y, hy, rfl⟩ := List.mem_map.1 hx
    exact ⟨itoa_no (hl y hy) (by decide), itoa_ne (hl y hy)⟩
  have no3 : ∀ {l : List Edg}, (∀ e ∈ l, 0 ≤ e.a ∧ 0 ≤ e.b) → ∀ x ∈ l.map edgB, (44 : UInt8) ∉ x ∧ x ≠ [] := fun hl x hx => by
    obtain ⟨y, hy, rfl⟩ := List.mem_map.1 hx
    exact edgB_no (hl y hy)
  obtain ⟨h1, h2⟩ := sep_uniq (no hp.1) (no hq.1) h
  have e1 := map_inj_on (fun x hx y hy => itoa_inj (hp.1 x hx) (hq.1 y hy)) (join_inj (no2 hp.1) (no2 hq.1) h1)
  have e2 := map_inj_on (fun x hx y hy => edgB_inj (hp.2 x hx) (hq.2 y hy)) (join_inj (no3 hp.2) (no3 hq.2) h2)
  cases p; cases q
  simp only at e1 e2
  rw [e1, e2]
end Go.Gr
end

section
/- canon.Alike, Key, Is. -/
namespace Go.Proofs.YthegabgbakckfaaGreatDoor
open Go.Sx Go.RowKit Go.Reg Go.Gr

set_option maxRecDepth 100000
theorem pt_of {p : Pt} (hp : pErr p = none) : PtOk p.labels.length p := ⟨rfl, (pErr_none hp).2.1, (pErr_none hp).2.2⟩
theorem form_len {p : Pt} (hp : pErr p = none) : (formP p).labels.length = p.labels.length ∧ (formP p).edges.length = p.edges.length := by
  obtain ⟨_, h1, h2, _⟩ := form_spec (pt_of hp)
  rw [h2]
  exact ⟨turnP_len _ _, turnP_edge_len h1 (pt_of hp)⟩
def pl_cak : List (Nat × Plan) := []
def G_cak : List FuncId := [22, 26]
theorem cok_cak : codeOk Tryz.prog G_cak pl_cak (Tryz.f27.body.getD .skip) = true := by kernel_rfl
theorem run_cak (vs : Array Value) (w : World) : (callFunc 27 vs).run C1.P w = .ok (.enter 27 vs) w := by kernel_rfl
theorem alike_pure {p q : Pt} (hp : pErr p = none) (hq : pErr q = none) (hE : p.edges.length ≤ 1000) (hE' : q.edges.length ≤ 1000) : Pure C1 27 [dPt p, dPt q] (fun y => y = .bool (decide (formP p = formP q))) := by
  have h1 := form_pure p hp hE
  have h2 := form_pure q hq hE'
  have l1 := (lErr_none (pErr_none hp).1).1
  have l2 := (lErr_none (pErr_none hq).1).1
  obtain ⟨f1, f2⟩ := form_len hp
  obtain ⟨f3, f4⟩ := form_len hq
  have hc := ptcompare_pure (formP p) (formP q) (by omega) (by omega) (by omega) (by omega)
  refine pure_of c1_ok (pl := pl_cak) (G := G_cak) Tryz.func27 rfl Tryz.ntmps27 run_cak cok_cak (by simp) ?_
  by_cases h : formP p = formP q
  · rw [show cmpP (formP p) (formP q) = 0 from (torP.eq0 _ _).2 h] at hc
    rw [decide_eq_true h]
    (conv => whnf)
    (repeat' ((first | refine ord_ok (by (conv => whnf); (repeat' ((first | refine call_eq rfl h1 ?_ | refine call_eq rfl h2 ?_ | refine call_eq rfl hc ?_ | refine ify ?_ | refine ifn ?_ | refine i6 ?_ | refine ati ?_ | refine mst ?_ | refine rmd ?_ | refine ibo (fun _ => ?_) (fun _ => ?_)) <;> conv => whnf)); (all_goals (repeat' (first | exact trivial | exact rfl | refine And.intro ?_ ?_)))) ?_ | refine call_eq rfl h1 ?_ | refine call_eq rfl h2 ?_ | refine call_eq rfl hc ?_ | refine ify ?_ | refine ifn ?_ | refine i6 ?_ | refine ati ?_ | refine mst ?_ | refine rmd ?_ | refine ibo (fun _ => ?_) (fun _ => ?_)) <;> conv => whnf))
    exact rfl
  · have h0 : cmpP (formP p) (formP q) ≠ 0 := fun e => h ((torP.eq0 _ _).1 e)
    generalize cmpP (formP p) (formP q) = z at hc h0
    rw [decide_eq_false h]
    (conv => whnf)
    (repeat' ((first | refine ord_ok (by (conv => whnf); (repeat' ((first | refine call_eq rfl h1 ?_ | refine call_eq rfl h2 ?_ | refine call_eq rfl hc ?_ | refine ify ?_ | refine ifn ?_ | refine i6 ?_ | refine ati ?_ | refine mst ?_ | refine rmd ?_ | refine ibo (fun _ => ?_) (fun _ => ?_)) <;> conv => whnf)); (all_goals (repeat' (first | exact trivial | exact rfl | refine And.intro ?_ ?_)))) ?_ | refine call_eq rfl h1 ?_ | refine call_eq rfl h2 ?_ | refine call_eq rfl hc ?_ | refine ify ?_ | refine ifn ?_ | refine i6 ?_ | refine ati ?_ | refine mst ?_ | refine rmd ?_ | refine ibo (fun _ => ?_) (fun _ => ?_)) <;> conv => whnf))
    exact congrArg Da.bool (decide_eq_false h0)
def pl_cis : List (Nat × Plan) := []
def G_cis : List FuncId := [22, 26]
theorem cok_cis : codeOk Tryz.prog G_cis pl_cis (Tryz.f28.body.getD .skip) = true := by kernel_rfl
theorem run_cis (vs : Array Value) (w : World) : (callFunc 28 vs).run C1.P w = .ok (.enter 28 vs) w := by kernel_rfl
theorem is_pure {p : Pt} (hp : pErr p = none) (hE : p.edges.length ≤ 1000) : Pure C1 28 [dPt p] (fun y => y = .bool (decide (formP p = p))) := by
  have h1 := form_pure p hp hE
  have l1 := (lErr_none (pErr_none hp).1).1
  obtain ⟨f1, f2⟩ := form_len hp
  have hc := ptcompare_pure (formP p) p (by omega) (by omega) (by omega) (by omega)
  refine pure_of c1_ok (pl := pl_cis) (G := G_cis) Tryz.func28 rfl Tryz.ntmps28 run_cis cok_cis (by simp) ?_
  by_cases h : formP p = p
  · rw [show cmpP (formP p) p = 0 from (torP.eq0 _ _).2 h] at hc
    rw [decide_eq_true h]
    (conv => whnf)
    (repeat' ((first | refine ord_ok (by (conv => whnf); (repeat' ((first | refine call_eq rfl h1 ?_ | refine call_eq rfl hc ?_ | refine ify ?_ | refine ifn ?_ | refine i6 ?_ | refine ati ?_ | refine mst ?_ | refine rmd ?_ | refine ibo (fun _ => ?_) (fun _ => ?_)) <;> conv => whnf)); (all_goals (repeat' (first | exact trivial | exact rfl | refine And.intro ?_ ?_)))) ?_ | refine call_eq rfl h1 ?_ | refine call_eq rfl hc ?_ | refine ify ?_ | refine ifn ?_ | refine i6 ?_ | refine ati ?_ | refine mst ?_ | refine rmd ?_ | refine ibo (fun _ => ?_) (fun _ => ?_)) <;> conv => whnf))
    exact rfl
  · have h0 : cmpP (formP p) p ≠ 0 := fun e => h ((torP.eq0 _ _).1 e)
    generalize cmpP (formP p) p = z at hc h0
    rw [decide_eq_false h]
    (conv => whnf)
    (repeat' ((first | refine ord_ok (by (conv => whnf); (repeat' ((first | refine call_eq rfl h1 ?_ | refine call_eq rfl hc ?_ | refine ify ?_ | refine ifn ?_ | refine i6 ?_ | refine ati ?_ | refine mst ?_ | refine rmd ?_ | refine ibo (fun _ => ?_) (fun _ => ?_)) <;> conv => whnf)); (all_goals (repeat' (first | exact trivial | exact rfl | refine And.intro ?_ ?_)))) ?_ | refine call_eq rfl h1 ?_ | refine call_eq rfl hc ?_ | refine ify ?_ | refine ifn ?_ | refine i6 ?_ | refine ati ?_ | refine mst ?_ | refine rmd ?_ | refine ibo (fun _ => ?_) (fun _ => ?_)) <;> conv => whnf))
    exact congrArg Da.bool (decide_eq_false h0)
def pl_cky : List (Nat × Plan) := []
def G_cky : List FuncId := [22, 56]
theorem cok_cky : codeOk Tryz.prog G_cky pl_cky (Tryz.f25.body.getD .skip) = true := by kernel_rfl
theorem run_cky (vs : Array Value) (w : World) : (callFunc 25 vs).run C1.P w = .ok (.enter 25 vs) w := by kernel_rfl
theorem key_pure {p : Pt} (hp : pErr p = none) (hE : p.edges.length ≤ 1000) : Pure C3 25 [dPt p] (fun y => y = .tuple [.str (bs (patB (formP p))), .nili]) := by
  have h1 := Pure.up3 (form_pure p hp hE)
  have l1 := lErr_none (pErr_none hp).1
  obtain ⟨f1, f2⟩ := form_len hp
  have hf := form_ok (pt_of hp)
  have hl : ∀ x ∈ (formP p).labels, 0 ≤ x ∧ x ≤ 255 := fun x hx => by
    obtain ⟨_, h1, h2, _⟩ := form_spec (pt_of hp)
    rw [h2] at hx
    exact l1.2 x ((turnP_labels (pt_of hp) h1).mem_iff.1 hx)
  have ht := ptext_pure (formP p) (by omega) (fun x hx => by have := hl x hx; omega) (by omega) (fun e he => by have := hf.edge e he; omega)
  refine pure_of c3_ok (pl := pl_cky) (G := G_cky) Tryz.func25 rfl Tryz.ntmps25 run_cky cok_cky (by simp) ?_
  (conv => whnf)
  (repeat' ((first | refine ord_ok (by (conv => whnf); (repeat' ((first | refine call_eq rfl h1 ?_ | refine call_eq rfl ht ?_ | refine ify ?_ | refine ifn ?_ | refine i6 ?_ | refine ati ?_ | refine mst ?_ | refine rmd ?_ | refine ibo (fun _ => ?_) (fun _ => ?_)) <;> conv => whnf)); (all_goals (repeat' (first | exact trivial | exact rfl | refine And.intro ?_ ?_)))) ?_ | refine call_eq rfl h1 ?_ | refine call_eq rfl ht ?_ | refine ify ?_ | refine ifn ?_ | refine i6 ?_ | refine ati ?_ | refine mst ?_ | refine rmd ?_ | refine ibo (fun _ => ?_) (fun _ => ?_)) <;> conv => whnf))
  exact rfl
end Go.Proofs.YthegabgbakckfaaGreatDoor
end

section
/- law09: alive, small. -/
namespace Go.Sx
open Go Go.RowKit Go.Reg
theorem datas_repDs {η : Nat → Value} {I O : List Nat} {w : World} : ∀ {xs : List Da} {cs : List Value}, RepDs η I O w (datas xs) cs → RepCs O w xs cs
  | [], cs, h => by simpa only [datas, RepDs, RepCs] using h
  | x :: xs, cs, h => by
    simp only [datas, RepDs, RepD] at h
    obtain ⟨c1, c2, rfl, h1, h2⟩ := h
    simp only [RepCs]
    exact ⟨c1, c2, rfl, h1, datas_repDs h2⟩
/-- a struct of plain data among the arguments -/
theorem call_agg {C : Cx} {fr : Fr} {σ : Sg} {q : Bool} {f : FuncId} {ds : List Dat} {xs : List Da} {rest : List Dat} {K : KD} (h : allD ds = some xs) (hc : SxCall C q f (.d (.agg xs) :: rest) K fr σ) : SxCall C q f (.agg ds :: rest) K fr σ := by
  unfold SxCall at hc ⊢
  rintro B S w0 η φ n a w vs hM ⟨css, hr, rfl⟩
  simp only [RepDss] at hr
  obtain ⟨c1, c2, rfl, r1, r2⟩ := hr
  rw [allD_datas h] at r1
  simp only [RepD] at r1
  exact hc B S w0 η φ n a w _ hM ⟨c1 :: c2, by simp only [RepDss, RepD, RepC]; exact ⟨c1, c2, rfl, datas_repDs r1, r2⟩, rfl⟩
end Go.Sx
namespace Go.Proofs.YthegabgbakckfaaGreatDoor
open Go.Sx Go.RowKit Go.Reg Go.Gr

set_option maxRecDepth 100000
def exP : Pt := ⟨[5, 2], [⟨0, 1⟩]⟩
theorem exP_ok : pErr exP = none := by decide
theorem exP_sort : sortI exP.labels = [2, 5] :=
  (torF torI).antisymm (sorted_least (sortI_le _) ((List.Perm.swap 5 2 []).trans (sortI_perm _).symm)) (sorted_least (by decide) ((sortI_perm _).trans (List.Perm.swap 2 5 [])))
theorem exP_form : formP exP = ⟨[2, 5], [⟨0, 1⟩]⟩ ∧ byP exP = [1, 0] := by
  have h : formB exP = some (⟨[2, 5], [⟨0, 1⟩]⟩, [1, 0]) := by
    unfold formB formO
    rw [exP_sort, show ordL exP.labels [2, 5] exP.labels.length [] = [[1, 0]] by decide]
    rfl
  unfold formP byP
  rw [h]
  exact ⟨rfl, rfl⟩
theorem exP_text : patB ⟨[2, 5], [⟨0, 1⟩]⟩ = [50, 44, 53, 124, 48, 45, 49] := by
  have h0 : Lib.itoa 0 = [48] := by rw [show (0 : Int) = ((0 : Nat) : Int) from rfl, itoa_nat, Lib.decDigits_one (by omega)]; rfl
  have h1 : Lib.itoa 1 = [49] := by rw [show (1 : Int) = ((1 : Nat) : Int) from rfl, itoa_nat, Lib.decDigits_one (by omega)]; rfl
  have h2 : Lib.itoa 2 = [50] := by rw [show (2 : Int) = ((2 : Nat) : Int) from rfl, itoa_nat, Lib.decDigits_one (by omega)]; rfl
  have h5 : Lib.itoa 5 = [53] := by rw [show (5 : Int) = ((5 : Nat) : Int) from rfl, itoa_nat, Lib.decDigits_one (by omega)]; rfl
  unfold patB edgB
  simp only [List.map_cons, List.map_nil, h0, h1, h2, h5]
  rfl
def pl_lal : List (Nat × Plan) := []
def G_lal : List FuncId := [22, 56, 19]
theorem cok_lal : codeOk Tryz.prog G_lal pl_lal (Tryz.f20.body.getD .skip) = true := by kernel_rfl
theorem run_lal (vs : Array Value) (w : World) : (callFunc 20 vs).run C1.P w = .ok (.enter 20 vs) w := by kernel_rfl
set_option maxHeartbeats 4000000 in
theorem lalive_pure : Sx.Pure C3 20 [] (fun y => y = .bool true) := by
  have hf := Pure.up3 (form_pure exP exP_ok (by decide))
  rw [exP_form.1, exP_form.2] at hf
  have htx := ptext_pure ⟨[2, 5], [⟨0, 1⟩]⟩ (by decide) (by decide) (by decide) (by decide)
  rw [exP_text] at htx
  have hsm := Pure.up3 (same_pure [1, 0] [1, 0])
  rw [decide_eq_true rfl] at hsm
  refine pure_of c3_ok (pl := pl_lal) (G := G_lal) Tryz.func20 rfl Tryz.ntmps20 run_lal cok_lal (by simp) ?_
  (conv => whnf)
  (repeat' ((first | refine ord_ok (by (conv => whnf); (repeat' ((first | refine call_frz 5 rfl ?_ | refine call_frz 7 rfl ?_ | refine call_agg rfl ?_ | refine call_eq (xs := [dPt exP]) rfl hf ?_ | refine call_eq rfl htx ?_ | refine call_frz 22 rfl ?_ | refine call_eq (xs := [dIs [1, 0], dIs [1, 0]]) rfl hsm ?_ | refine ify ?_ | refine ifn ?_ | refine i6 ?_ | refine ati ?_ | refine mst ?_ | refine rmd ?_ | refine ibo (fun _ => ?_) (fun _ => ?_)) <;> conv => whnf)); (all_goals (repeat' (first | exact trivial | exact rfl | refine And.intro ?_ ?_)))) ?_ | refine call_frz 5 rfl ?_ | refine call_frz 7 rfl ?_ | refine call_agg rfl ?_ | refine call_eq (xs := [dPt exP]) rfl hf ?_ | refine call_eq rfl htx ?_ | refine call_frz 22 rfl ?_ | refine call_eq (xs := [dIs [1, 0], dIs [1, 0]]) rfl hsm ?_ | refine ify ?_ | refine ifn ?_ | refine i6 ?_ | refine ati ?_ | refine mst ?_ | refine rmd ?_ | refine ibo (fun _ => ?_) (fun _ => ?_)) <;> conv => whnf))
  exact rfl
/-- few pairs are there -/
theorem edges_le {n : Nat} {p : Pt} (hp : PtOk n p) (h8 : n ≤ 8) : p.edges.length ≤ 64 := by
  have hd : DecidableEq Edg := fun x y => decidable_of_iff (cmpE x y = 0) (cmpE_eq x y)
  have h := nodup_len hp.strict.nodup (m := (List.range 8).flatMap fun a : Nat => (List.range 8).map fun b : Nat => (⟨(a : Int), (b : Int)⟩ : Edg)) (fun e he => by
    obtain ⟨i, j, hij, hj, rfl⟩ := edge_nat (hp.edge e he)
    exact List.mem_flatMap.2 ⟨i, List.mem_range.2 (by omega), List.mem_map.2 ⟨j, List.mem_range.2 (by omega), rfl⟩⟩)
  refine Nat.le_trans h ?_
  rw [flatMap_len (k := 8) (fun x _ => by simp)]
  simp
theorem pt_edges {p : Pt} (hp : pErr p = none) : p.edges.length ≤ 64 := edges_le (pt_of hp) (lErr_none (pErr_none hp).1).1
theorem pErr_code9 {p : Pt} {c : Int} {i : Nat} (h : pErr p = some (c, i)) : c ≠ 0 := by
  unfold pErr at h
  split at h
  · rename_i x hl
    cases h
    unfold lErr at hl
    split at hl
    · simp at hl; omega
    · obtain ⟨l1, k, l2, _, h2, _⟩ := List.findSome?_eq_some_iff.1 hl
      split at h2 <;> simp at h2
      omega
  · unfold eErr at h
    obtain ⟨l1, k, l2, _, h2, _⟩ := List.findSome?_eq_some_iff.1 h
    unfold eAt at h2
    split at h2
    · cases h2
    · obtain ⟨d, h3, h4⟩ := Option.map_eq_some_iff.1 h2
      cases h4
      unfold eBad at h3
      repeat' split at h3
      all_goals (cases h3 <;> decide)
def pl_lsm : List (Nat × Plan) := []
def G_lsm : List FuncId := [17]
theorem cok_lsm : codeOk Tryz.prog G_lsm pl_lsm (Tryz.f21.body.getD .skip) = true := by kernel_rfl
theorem run_lsm (vs : Array Value) (w : World) : (callFunc 21 vs).run C1.P w = .ok (.enter 21 vs) w := by kernel_rfl
theorem lsmall_pure (p : Pt) (most : Int) : Pure C1 21 [dPt p, .int .i64 most] (fun y => y = .bool (decide (pErr p = none ∧ (p.labels.length : Int) ≤ most))) := by
  refine Pure.assume (P := p.labels.length ≤ maxLen ∧ p.edges.length ≤ maxLen) (fun O w us hr => ?_) fun hm => ?_
  · obtain ⟨v, vs, rfl, h1, h2⟩ := reps_inv hr
    obtain ⟨a1, c1, a2, c2, rfl, r1, r2⟩ := rep_pt h1
    have g1 := rep_len r1
    have g2 := rep_len r2
    rw [List.length_map] at g1 g2
    exact ⟨g1, g2⟩
  unfold maxLen at hm
  have hri := rright_pure p (by omega) (by omega)
  have hdl : (p.labels.map dI).length = p.labels.length := List.length_map _
  refine pure_of c1_ok (pl := pl_lsm) (G := G_lsm) Tryz.func21 rfl Tryz.ntmps21 run_lsm cok_lsm (by simp) ?_
  cases hp : pErr p with
  | some x =>
    obtain ⟨c, i⟩ := x
    have hc := pErr_code9 hp
    rw [hp] at hri
    rw [decide_eq_false (by simp)]
    (conv => whnf)
    (repeat' ((first | refine ord_ok (by (conv => whnf); (repeat' ((first | refine call_eq rfl hri ?_ | refine ify ?_ | refine ifn ?_ | refine i6 ?_ | refine ati ?_ | refine mst ?_ | refine rmd ?_ | refine ibo (fun _ => ?_) (fun _ => ?_)) <;> conv => whnf)); (all_goals (repeat' (first | exact trivial | exact rfl | refine And.intro ?_ ?_)))) ?_ | refine call_eq rfl hri ?_ | refine ify ?_ | refine ifn ?_ | refine i6 ?_ | refine ati ?_ | refine mst ?_ | refine rmd ?_ | refine ibo (fun _ => ?_) (fun _ => ?_)) <;> conv => whnf))
    exact rfl
  | none =>
    rw [hp] at hri
    by_cases hle : (p.labels.length : Int) ≤ most
    · rw [decide_eq_true ⟨rfl, hle⟩]
      have hle' : ((p.labels.map dI).length : Int) ≤ most := by rw [hdl]; exact hle
      (conv => whnf)
      (repeat' ((first | refine ord_ok (by (conv => whnf); (repeat' ((first | refine call_eq rfl hri ?_ | refine ify ?_ | refine ifn ?_ | refine i6 ?_ | refine ati ?_ | refine mst ?_ | refine rmd ?_ | refine ibo (fun _ => ?_) (fun _ => ?_)) <;> conv => whnf)); (all_goals (repeat' (first | exact trivial | exact rfl | refine And.intro ?_ ?_)))) ?_ | refine call_eq rfl hri ?_ | refine ify ?_ | refine ifn ?_ | refine i6 ?_ | refine ati ?_ | refine mst ?_ | refine rmd ?_ | refine ibo (fun _ => ?_) (fun _ => ?_)) <;> conv => whnf))
      exact congrArg Da.bool (decide_eq_true hle')
    · rw [decide_eq_false (fun h => hle h.2)]
      have hle' : ¬ ((p.labels.map dI).length : Int) ≤ most := by rw [hdl]; exact hle
      (conv => whnf)
      (repeat' ((first | refine ord_ok (by (conv => whnf); (repeat' ((first | refine call_eq rfl hri ?_ | refine ify ?_ | refine ifn ?_ | refine i6 ?_ | refine ati ?_ | refine mst ?_ | refine rmd ?_ | refine ibo (fun _ => ?_) (fun _ => ?_)) <;> conv => whnf)); (all_goals (repeat' (first | exact trivial | exact rfl | refine And.intro ?_ ?_)))) ?_ | refine call_eq rfl hri ?_ | refine ify ?_ | refine ifn ?_ | refine i6 ?_ | refine ati ?_ | refine mst ?_ | refine rmd ?_ | refine ibo (fun _ => ?_) (fun _ => ?_)) <;> conv => whnf))
      exact congrArg Da.bool (decide_eq_false hle')
end Go.Proofs.YthegabgbakckfaaGreatDoor
end
