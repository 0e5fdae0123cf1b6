/- Merged: Lvw Dlg. -/
import Derived.Test.YtjejpdfldmempaaGreatDoorOen
import Derived.Test.YtjejpdfldmempaaGreatDoorlgaz
import Derived.Test.YtjejpdfldmempaaGreatDoorlgba
import Derived.Test.YtjejpdfldmempaaGreatDoorlgax
import Derived.Test.YtjejpdfldmempaaGreatDoorlgav
import Derived.Test.YtjejpdfldmempaaGreatDoorlgas
section
namespace Go.Proofs.YtjejpdfldmempaaGreatDoor
open Go.Sx Go.RowKit Go.Reg Go.Gr
set_option maxRecDepth 100000
def dJ (G : Gr) (e : Bool) (d : Int) (l : List Opp) : Da := .agg [dG G, .bool e, .int .i64 d, dOs l]
structure JobOk (G : Gr) (e : Bool) (d : Int) (l : List Opp) : Prop where
 ok : G.Ok
 n : G.labels.length ≤ 7
 m : G.edges.length ≤ 30
 me : e = true → G.edges.length ≤ 8
 d : 1 ≤ d ∧ d ≤ 8
 l16 : l.length ≤ 16
 lok : ∀ o ∈ l, codeO o = 0
theorem jErr_of {n : Nat} {p : Pt} (hp : PtOk n p) (h8 : n ≤ 8) (hl : ∀ x ∈ p.labels, 0 ≤ x ∧ x ≤ 255) : pErr p = none := by
 unfold pErr
 have h1 : lErr p.labels = none := by
  refine lErr_no (by rw [hp.len]; omega) fun k y hk hy => ?_
  have := hl y (List.mem_of_getElem? hy)
  unfold badLabel
  simp; omega
 rw [h1]
 refine findSome_no fun i hi => ?_
 have hx := List.getElem?_eq_getElem hi
 have he := hp.edge _ (List.getElem_mem hi)
 generalize hE : p.edges[i] = e at hx he
 unfold eAt
 rw [hx]
 simp only
 rw [Option.map_eq_none_iff]
 unfold eBad
 rw [if_neg (by rw [hp.len]; simp; omega), if_neg (by omega)]
 by_cases h0 : i = 0
 ·rw [if_pos h0]
 ·rw [if_neg h0]
  have hj : i - 1 < p.edges.length := by omega
  rw [List.getElem?_eq_getElem hj]
  simp only
  rw [if_pos]
  have := List.pairwise_iff_getElem.1 hp.strict (i - 1) i hj hi (by omega)
  rwa [hE] at this
section
variable {G : Gr} {e : Bool} {d : Int} {l : List Opp}
def pl_lww : List (Nat × Plan) := []
def G_lww : List FuncId := [116, 117]
theorem cok_lww : codeOk Tryz.prog G_lww pl_lww (Tryz.f75.body.getD .skip) = true := by kernel_rfl
theorem run_lww (vs : Array Value) (w : World) : (callFunc 75 vs).run C1.P w = .ok (.enter 75 vs) w := by kernel_rfl
theorem words_pure (h : JobOk G e d l) : Pure C1 75 [dJ G e d l] (fun y => y = .tuple [dG (wordsG G e), .nili]) := by
 have hp := prights_pure l h.l16 h.lok
 have hlo := lof_pure G h.ok (by have := h.m; omega)
 rw [words_lof h.ok (by have := h.n; omega) h.m] at hlo
 have h1 := h.d.1
 have h2 := h.d.2
 refine pure_of c1_ok (pl := pl_lww) (G := G_lww) Tryz.func75 rfl Tryz.ntmps75 run_lww cok_lww (by simp) ?_
 cases e with
 | true =>
   (conv => whnf)
   (repeat' ((first | refine ord_ok ?_ ?_ | refine call_eq rfl hp ?_ | refine call_eq rfl hlo ?_ | refine ify ?_ | refine ifn ?_ | refine i6 ?_ | refine ati ?_ | refine mst ?_ | refine rmd ?_ | refine ibo (fun _ => ?_) (fun _ => ?_) | exact oend) <;> conv => whnf))
   exact rfl
 | false =>
   (conv => whnf)
   (repeat' ((first | refine ord_ok ?_ ?_ | refine call_eq rfl hp ?_ | refine call_eq rfl hlo ?_ | refine ify ?_ | refine ifn ?_ | refine i6 ?_ | refine ati ?_ | refine mst ?_ | refine rmd ?_ | refine ibo (fun _ => ?_) (fun _ => ?_) | exact oend) <;> conv => whnf))
   exact rfl
def pl_lwr : List (Nat × Plan) := []
def G_lwr : List FuncId := []
theorem cok_lwr : codeOk Tryz.prog G_lwr pl_lwr (Tryz.f25.body.getD .skip) = true := by kernel_rfl
theorem run_lwr (vs : Array Value) (w : World) : (callFunc 25 vs).run C1.P w = .ok (.enter 25 vs) w := by kernel_rfl
theorem lright_pure (h : JobOk G e d l) : Pure C1 25 [dJ G e d l] (fun y => y = .nili) := by
 have hw := words_pure h
 refine pure_of c1_ok (pl := pl_lwr) (G := G_lwr) Tryz.func25 rfl Tryz.ntmps25 run_lwr cok_lwr (by simp) ?_
 (conv => whnf)
 (repeat' ((first | refine ord_ok ?_ ?_ | refine call_eq rfl hw ?_ | refine ify ?_ | refine ifn ?_ | refine i6 ?_ | refine ati ?_ | refine mst ?_ | refine rmd ?_ | refine ibo (fun _ => ?_) (fun _ => ?_) | exact oend) <;> conv => whnf))
 exact rfl
theorem jclone_pure (x : Int) (X : List Int) (hl : (x :: X).length ≤ 2000000000) : Pure C1 60 [dIs (x :: X)] (fun y => y = dIs (x :: X)) := by
 have hlm : ((x :: X).map dI).length = (x :: X).length := List.length_map _
 refine pure_of c1_ok (pl := pl_clone) (G := G_clone) Tryz.func60 rfl Tryz.ntmps60 run_clone cok_clone (by simp) ?_
 have hlm2 : (([] : List Da).length + ((x :: X).map dI).length) ≤ 4294967296 := by rw [hlm]; simp at hl ⊢; omega
 ((conv => whnf); repeat' ((first | refine odw ?_ | refine ify ?_ | refine ifn ?_ | refine i6 ?_ | refine ati ?_ | refine mst ?_ | refine rmd ?_ | refine ibo (fun _ => ?_) (fun _ => ?_)) <;> conv => whnf))
 all_goals first | exact rfl | (refine most_ok hlm2 ?_; ((conv => whnf); repeat' ((first | refine odw ?_ | refine ify ?_ | refine ifn ?_ | refine i6 ?_ | refine ati ?_ | refine mst ?_ | refine rmd ?_ | refine ibo (fun _ => ?_) (fun _ => ?_)) <;> conv => whnf)); exact rfl)
theorem jclone_ne {X : List Int} (h0 : X ≠ []) (hl : X.length ≤ 1000) : Pure C1 60 [dIs X] (fun y => y = dIs X) := by
 cases X with
 | nil => exact absurd rfl h0
 | cons x X => exact jclone_pure x X (by omega)
def patJ (G : Gr) (e : Bool) (x : List Int) : Da := if e = true then edgeQ G x else if 8 < x.length then .tuple [dP0, .nils, dF 6 0 listS] else if linkedV G x = false then .tuple [dP0, .nils, dF 2 0 listS] else .tuple [dPt (vertP G x), dIs x, .nili]
def pl_lwp : List (Nat × Plan) := [(9, .split 0 2 (.leaf [1, 0, 3, 3, 0, 0] [1, 0, 2, 3, 4, 5] [0, 0, 3, 7, 15, 31]) (.leaf [1, 0, 3, 3, 0, 0] [1, 2, 0, 3, 4, 5] [6, 0, 2, 7, 15, 31]))]
def G_lwp : List FuncId := [25, 83, 84]
theorem cok_lwp : codeOk Tryz.prog G_lwp pl_lwp (Tryz.f34.body.getD .skip) = true := by kernel_rfl
theorem run_lwp (vs : Array Value) (w : World) : (callFunc 34 vs).run C1.P w = .ok (.enter 34 vs) w := by kernel_rfl
theorem lpattern_pure (h : JobOk G e d l) (X : List Int) (h0 : X ≠ []) (hx : X.length ≤ 1000) : Pure C1 34 [dJ G e d l, dIs X] (fun z => z = patJ G e X) := by
 have hr := lright_pure h
 have hcl := jclone_ne h0 hx
 have hq := qedge_pure G h.ok X hx
 have hv := qvertG_pure G h.ok X (by omega)
 refine pure_of c1_ok (pl := pl_lwp) (G := G_lwp) Tryz.func34 rfl Tryz.ntmps34 run_lwp cok_lwp (by simp) ?_
 cases e with
 | true =>
   unfold patJ
   rw [if_pos rfl]
   unfold edgeQ at hq ⊢
   by_cases h1 : linkedV (lnGr G) X = false
   ·rw [if_pos h1] at hq ⊢
    (conv => whnf)
    (repeat' ((first | refine ord_ok ?_ ?_ | refine call_eqb tab rfl hr rfl ?_ | refine call_eq rfl hq ?_ | refine ify ?_ | refine ifn ?_ | refine i6 ?_ | refine ati ?_ | refine mst ?_ | refine rmd ?_ | refine ibo (fun _ => ?_) (fun _ => ?_) | exact oend) <;> conv => whnf))
    exact rfl
   ·rw [if_neg h1] at hq ⊢
    by_cases h2 : 8 < (vertsOf (endsOf G.edges X)).length
    ·rw [if_pos h2] at hq ⊢
     (conv => whnf)
     (repeat' ((first | refine ord_ok ?_ ?_ | refine call_eqb tab rfl hr rfl ?_ | refine call_eq rfl hq ?_ | refine ify ?_ | refine ifn ?_ | refine i6 ?_ | refine ati ?_ | refine mst ?_ | refine rmd ?_ | refine ibo (fun _ => ?_) (fun _ => ?_) | exact oend) <;> conv => whnf))
     exact rfl
    ·rw [if_neg h2] at hq ⊢
     (conv => whnf)
     (repeat' ((first | refine ord_ok ?_ ?_ | refine call_eqb tab rfl hr rfl ?_ | refine call_eq rfl hq ?_ | refine ify ?_ | refine ifn ?_ | refine i6 ?_ | refine ati ?_ | refine mst ?_ | refine rmd ?_ | refine ibo (fun _ => ?_) (fun _ => ?_) | exact oend) <;> conv => whnf))
     exact rfl
 | false =>
   unfold patJ
   rw [if_neg (by decide)]
   by_cases h1 : 8 < X.length
   ·rw [if_pos h1] at hv ⊢
    (conv => whnf)
    (repeat' ((first | refine ord_ok ?_ ?_ | refine call_eqb tab rfl hr rfl ?_ | refine call_eq rfl hv ?_ | refine ify ?_ | refine ifn ?_ | refine i6 ?_ | refine ati ?_ | refine mst ?_ | refine rmd ?_ | refine ibo (fun _ => ?_) (fun _ => ?_) | exact oend) <;> conv => whnf))
    exact rfl
   ·rw [if_neg h1] at hv ⊢
    by_cases h2 : linkedV G X = false
    ·rw [if_pos h2] at hv ⊢
     (conv => whnf)
     (repeat' ((first | refine ord_ok ?_ ?_ | refine call_eqb tab rfl hr rfl ?_ | refine call_eq rfl hv ?_ | refine ify ?_ | refine ifn ?_ | refine i6 ?_ | refine ati ?_ | refine mst ?_ | refine rmd ?_ | refine ibo (fun _ => ?_) (fun _ => ?_) | exact oend) <;> conv => whnf))
     exact rfl
    ·rw [if_neg h2] at hv ⊢
     (conv => whnf)
     (repeat' ((first | refine ord_ok ?_ ?_ | refine call_eqb tab rfl hr rfl ?_ | refine call_eq rfl hv ?_ | refine call_eq rfl hcl ?_ | refine ify ?_ | refine ifn ?_ | refine i6 ?_ | refine ati ?_ | refine mst ?_ | refine rmd ?_ | refine ibo (fun _ => ?_) (fun _ => ?_) | exact oend) <;> conv => whnf))
     exact rfl
theorem small_len (h : JobOk G e d l) : (wordsG G e).labels.length ≤ 8 := by
 rw [words_len]
 split
 ·exact h.me (by assumption)
 ·have := h.n; omega
theorem jp_err (hG : G.Ok) {E : List Edg} {V : List Int} (h8 : V.length ≤ 8) (hr : ∀ x ∈ V, 0 ≤ x ∧ x < (G.labels.length : Int)) : pErr ⟨V.map (labelV G), madeE E V⟩ = none := by
 refine jErr_of (n := V.length) ⟨List.length_map _, fun e he => ?_, rowsF_strict _ _ _⟩ h8 fun x hx => ?_
 ·obtain ⟨j, x, hj, hx, hjx, _, rfl⟩ := mem_rowsF.1 he
  simp only; omega
 ·obtain ⟨y, hy, rfl⟩ := List.mem_map.1 hx
  exact labelV_ok hG (hr y hy)
theorem jedge_err (hG : G.Ok) {X : List Int} (h8 : (vertsOf (endsOf G.edges X)).length ≤ 8) : pErr (edgeP G X) = none := by
 refine jp_err hG h8 fun x hx => ?_
 obtain ⟨e, he, hxe⟩ := ((vertsOf_spec _).2 x).1 hx
 have := hG.edge e (ends_mem e he)
 omega
theorem jvert_err (hG : G.Ok) {X : List Int} (h8 : X.length ≤ 8) (hl : linkedV G X = true) : pErr (vertP G X) = none := jp_err hG h8 (link_range hl)
def pl_lws : List (Nat × Plan) := []
def G_lws : List FuncId := [34, 124]
theorem cok_lws : codeOk Tryz.prog G_lws pl_lws (Tryz.f82.body.getD .skip) = true := by kernel_rfl
theorem run_lws (vs : Array Value) (w : World) : (callFunc 82 vs).run C1.P w = .ok (.enter 82 vs) w := by kernel_rfl
theorem passes_pure (h : JobOk G e d l) (X : List Int) (h0 : X ≠ []) (hx : X.length ≤ 1000) : Pure C1 82 [dJ G e d l, dIs X] (fun z => z = .bool (psJ G e l X)) := by
 have hp := lpattern_pure h X h0 hx
 refine pure_of c1_ok (pl := pl_lws) (G := G_lws) Tryz.func82 rfl Tryz.ntmps82 run_lws cok_lws (by simp) ?_
 cases e with
 | true =>
   unfold patJ at hp
   rw [if_pos rfl] at hp
   unfold edgeQ at hp
   unfold psJ
   rw [show wordsG G true = lnGr G from rfl, if_pos rfl]
   by_cases h1 : linkedV (lnGr G) X = false
   ·rw [if_pos h1] at hp
    rw [h1]
    (conv => whnf)
    (repeat' ((first | refine ord_ok ?_ ?_ | refine call_eq rfl hp ?_ | refine ify ?_ | refine ifn ?_ | refine i6 ?_ | refine ati ?_ | refine mst ?_ | refine rmd ?_ | refine ibo (fun _ => ?_) (fun _ => ?_) | exact oend) <;> conv => whnf))
    exact rfl
   ·rw [if_neg h1] at hp
    rw [Bool.not_eq_false] at h1
    rw [h1]
    by_cases h2 : 8 < (vertsOf (endsOf G.edges X)).length
    ·rw [if_pos h2] at hp
     rw [decide_eq_false (by omega)]
     (conv => whnf)
     (repeat' ((first | refine ord_ok ?_ ?_ | refine call_eq rfl hp ?_ | refine ify ?_ | refine ifn ?_ | refine i6 ?_ | refine ati ?_ | refine mst ?_ | refine rmd ?_ | refine ibo (fun _ => ?_) (fun _ => ?_) | exact oend) <;> conv => whnf))
     exact rfl
    ·rw [if_neg h2] at hp
     rw [decide_eq_true (by omega)]
     have he := jedge_err (X := X) h.ok (by omega)
     have hk := keeps_pure l (edgeP G X) h.l16 h.lok he
     unfold keepsG
     rw [he]
     (conv => whnf)
     (repeat' ((first | refine ord_ok ?_ ?_ | refine call_eq rfl hp ?_ | refine call_eqb tab rfl hk rfl ?_ | refine ify ?_ | refine ifn ?_ | refine i6 ?_ | refine ati ?_ | refine mst ?_ | refine rmd ?_ | refine ibo (fun _ => ?_) (fun _ => ?_) | exact oend) <;> conv => whnf))
     exact congrArg Da.bool (by simp)
 | false =>
   unfold patJ at hp
   rw [if_neg (by decide)] at hp
   unfold psJ
   rw [show wordsG G false = G from rfl, if_neg (by decide)]
   by_cases h2 : 8 < X.length
   ·rw [if_pos h2] at hp
    rw [decide_eq_false (show ¬ X.length ≤ 8 by omega), Bool.false_and, Bool.and_false]
    (conv => whnf)
    (repeat' ((first | refine ord_ok ?_ ?_ | refine call_eq rfl hp ?_ | refine ify ?_ | refine ifn ?_ | refine i6 ?_ | refine ati ?_ | refine mst ?_ | refine rmd ?_ | refine ibo (fun _ => ?_) (fun _ => ?_) | exact oend) <;> conv => whnf))
    exact rfl
   ·rw [if_neg h2] at hp
    by_cases h1 : linkedV G X = false
    ·rw [if_pos h1] at hp
     rw [h1]
     (conv => whnf)
     (repeat' ((first | refine ord_ok ?_ ?_ | refine call_eq rfl hp ?_ | refine ify ?_ | refine ifn ?_ | refine i6 ?_ | refine ati ?_ | refine mst ?_ | refine rmd ?_ | refine ibo (fun _ => ?_) (fun _ => ?_) | exact oend) <;> conv => whnf))
     exact rfl
    ·rw [if_neg h1] at hp
     rw [Bool.not_eq_false] at h1
     rw [h1, decide_eq_true (show X.length ≤ 8 by omega)]
     have he := jvert_err h.ok (by omega) h1
     have hk := keeps_pure l (vertP G X) h.l16 h.lok he
     unfold keepsG
     rw [he]
     (conv => whnf)
     (repeat' ((first | refine ord_ok ?_ ?_ | refine call_eq rfl hp ?_ | refine call_eqb tab rfl hk rfl ?_ | refine ify ?_ | refine ifn ?_ | refine i6 ?_ | refine ati ?_ | refine mst ?_ | refine rmd ?_ | refine ibo (fun _ => ?_) (fun _ => ?_) | exact oend) <;> conv => whnf))
     exact congrArg Da.bool (by simp)
def pl_lwk : List (Nat × Plan) := []
def G_lwk : List FuncId := [82]
theorem cok_lwk : codeOk Tryz.prog G_lwk pl_lwk (Tryz.f136.body.getD .skip) = true := by kernel_rfl
theorem run_lwk (vs : Array Value) (w : World) : (callFunc 136 vs).run C1.P w = .ok (.enter 136 vs) w := by kernel_rfl
theorem kept1_pure (h : JobOk G e d l) (X : List Int) (h0 : X ≠ []) (hx : X.length ≤ 1000) : Pure C1 136 [dIs X, .ref (dJ G e d l)] (fun z => z = .bool (!psJ G e l X)) := by
 have hp := passes_pure h X h0 hx
 refine pure_of c1_ok (pl := pl_lwk) (G := G_lwk) Tryz.func136 rfl Tryz.ntmps136 run_lwk cok_lwk (by simp) ?_
 (conv => whnf)
 (repeat' ((first | refine ord_ok ?_ ?_ | refine call_eqb tab rfl hp rfl ?_ | refine ify ?_ | refine ifn ?_ | refine i6 ?_ | refine ati ?_ | refine mst ?_ | refine rmd ?_ | refine ibo (fun _ => ?_) (fun _ => ?_) | exact oend) <;> conv => whnf))
 exact rfl
end
end Go.Proofs.YtjejpdfldmempaaGreatDoor
end
section
namespace Go.Reg
open Go Go.RowKit Go.Sort Go.Proofs
abbrev encV (v : Value) : List Value := [v]
theorem flat_encV (l : List Value) : l.flatMap encV = l := by induction l with
 | nil => rfl
 | cons v l ih => rw [List.flatMap_cons, ih]; rfl
abbrev nilS : Value := .slice none 0 0
theorem Sl.zeroV {P : Program} {E : Nat} {w : World} {l : List Value} {g c : Nat} (h : Sl E 1 encV w (.slice (some ⟨g, 0, none⟩) l.length c) l) {m : Nat} (hm : m ≤ l.length) :
  ∃ w', (storeCells ⟨g, m, none⟩ (List.replicate (l.length - m) nilS)).run P w = .ok () w' ∧ Sl E 1 encV w' (.slice (some ⟨g, 0, none⟩) l.length c) (l.take m ++ List.replicate (l.length - m) nilS) ∧ Tch [g] w w' := by
 rcases h.2 with ⟨h1, _⟩ | ⟨g', cap', cur, h1, h0, hg, hc, hmx, hs, ht⟩
 ·cases h1
 ·cases h1
  rw [Nat.mul_one] at hs
  have hsz : l.length ≤ cur.size := by omega
  have hr := run_storeCells_at P g m E (List.replicate (l.length - m) nilS) 0 cur w hg (by rw [List.length_replicate]; omega) (by intro v hv; rw [List.eq_of_mem_replicate hv]; rfl)
  rw [Nat.add_zero, List.length_replicate] at hr
  have hl2 : (l.take m ++ List.replicate (l.length - m) nilS).length = l.length := by rw [List.length_append, List.length_take, List.length_replicate]; omega
  have e0 : m + (l.length - m) = l.length := by omega
  rw [e0] at hr
  refine ⟨_, hr, ?_, ⟨rfl, rfl, rfl, by simp [World.setRow], fun j hj hn => by
    have : g ≠ j := fun e => hn (by simp [e])
    simp [World.setRow, Array.getElem?_modify, this]⟩⟩
  unfold Sl
  rw [flat_encV, hl2]
  refine ⟨by omega, .inr ⟨g, c, (cur.toList.take m ++ List.replicate (l.length - m) nilS ++ cur.toList.drop l.length).toArray, rfl, Nat.zero_le _, setRow_heap w g cur _ E (0, 0) hg, hc, hmx, ?_, ?_⟩⟩
  ·simp; omega
  ·rw [flat_encV, Nat.mul_one] at ht
   rw [Nat.mul_one]
   have h1 : (cur.toList.take m ++ List.replicate (l.length - m) nilS).length = l.length := by simp; omega
   rw [List.take_append_of_le_length (by omega), List.take_of_length_le (by omega), ← ht, List.take_take, Nat.min_eq_left hm]
end Go.Reg
namespace Go.Sx
open Go Go.RowKit Go.Reg Go.Gr Go.Proofs Go.Proofs.YtjejpdfldmempaaGreatDoor
def tailC (E : Nat) (l : List Value) (m g c : Nat) : Absn where
 R w v F := v = .slice (if c = m then some ⟨g, 0, none⟩ else some ⟨g, m, none⟩) (l.length - m) (c - m) ∧ F = [g] ∧ m ≤ l.length ∧ Sl E 1 encV w (.slice (some ⟨g, 0, none⟩) l.length c) l
 keep := by
  rintro S w w' v F ⟨rfl, rfl, hm, h⟩ t hd
  exact ⟨rfl, rfl, hm, h.keep t (fun b hb => by simp [Value.ownBlock] at hb; subst hb; exact hd g (by simp))⟩
 lt := by
  rintro w v F ⟨rfl, rfl, hm, h⟩ x hx
  simp at hx; subst hx
  exact h.lt rfl
 one := by rintro w v F ⟨rfl, rfl, hm, h⟩; rfl
theorem one_vals {O : List Nat} {w : World} : ∀ {ds : List Da} {css : List (List Value)}, RepCss O w ds css → (∀ x ∈ css, RowOk 1 x) → ∃ vs : List Value, css = vs.map encV ∧ vs.length = ds.length
 | [], css, h, _ => by simp only [RepCss] at h; subst h; exact ⟨[], rfl, rfl⟩
 | d :: ds, css, h, hr => by
   simp only [RepCss] at h
   obtain ⟨c1, c2, rfl, _, h2⟩ := h
   obtain ⟨vs, rfl, hl⟩ := one_vals h2 fun x hx => hr x (List.mem_cons_of_mem _ hx)
   obtain ⟨v, rfl⟩ := List.length_eq_one_iff.1 (hr c1 List.mem_cons_self).1
   exact ⟨v :: vs, rfl, by rw [List.length_cons, List.length_cons, hl]⟩
theorem vals_sl {E : Nat} {w : World} {v : Value} {l : List Value} : Sl E 1 id w v (l.map encV) ↔ Sl E 1 encV w v l := by
 unfold Sl
 rw [List.length_map, List.flatMap_id, flat_encV]
 rw [show (l.map encV).flatten = l from by rw [← List.flatMap_def]; exact flat_encV l]
theorem vals_zip : ∀ {ds : List Da} {vs : List Value}, (∀ d ∈ ds, d.one = true) → vs.length = ds.length → List.zipWith toV ds (vs.map encV) = vs
 | [], [], _, _ => rfl
 | [], _ :: _, _, h => by cases h
 | _ :: _, [], _, h => by cases h
 | d :: ds, v :: vs, h1, h2 => by
   rw [List.map_cons, List.zipWith_cons_cons, vals_zip (fun d hd => h1 d (List.mem_cons_of_mem _ hd)) (by simpa using h2), toV_one (h1 d List.mem_cons_self)]; rfl
section
variable {C : Cx} {T : Tab} {n kd : Nat} {fr : Fr} {σ : Sg} {E i : Nat} {l : List Value} {o : Oper} {K : Fr → Sg → Prop} {B S : List Nat} {w0 w w' : World} {η : Nat → Value} {φ : Nat → List Nat} {a : Act}
theorem Models.pins (hM : Models C B S w0 n fr σ η φ a w) {g : Nat} (hg : sget g σ = none) {xs : List Da} {us : List Value} {css : List (List Value)} (hr : RepCss (B ++ blocks φ σ) w xs css) (hu : us = List.zipWith toV xs css) : Models C B S w0 n fr ((g, .ghost [.tuple us.toArray] [.d (.tuple xs)]) :: σ) (upd η g .nilFunc) (upd φ g []) a w := by
 have hi' := sget_none hg
 obtain ⟨hm, hl⟩ := hM.mem.add (Tch.refl [] w) hi' (v := .nilFunc) (F := []) (o := .ghost [.tuple us.toArray] [.d (.tuple xs)]) (by simp) ⟨rfl, rfl, [[.tuple us.toArray]], by simp only [RepDss, RepD, RepC]; exact ⟨_, _, rfl, ⟨css, hr, by rw [hu]⟩, rfl⟩, rfl⟩
 exact ⟨hm, hM.fr.add hi' hl, hM.defers, hM.size⟩
theorem sget_out : ∀ {σ : Sg} {i : Nat}, i ∉ ids σ → sget i σ = none
 | [], _, _ => rfl
 | (j, o) :: σ, i, h => by
   cases hs : sget i ((j, o) :: σ) with
   | none => rfl
   | some q => exact absurd (mem_ids (sget_mem hs)) h
theorem op_tailC (m gh : Nat) {ds : List Da} {t : TypeId} {x lo : Operand} {e ee : TyI} (hC : C.Ok T) (i : Nat) (ho : o.op = .slice t x (some lo) none none) (he : tyAt t T = some e) (hk2 : e.kd = 2) (hee : tyAt e.elem T = some ee) (h1 : ee.size = 1) (hx : ev C.Γ fr x = .own i) (hg : sget i σ = some (.slice E 1 ds)) (hgh : sget gh σ = none) (hone : ∀ d ∈ ds, d.one = true) {mi : Int} (hlo : ev C.Γ fr lo = .d (.int .i64 mi)) (hmi : mi = m) (hm : m ≤ ds.length) (hl : ds ≠ []) (hkd : kd ≠ 5 ∧ kd ≠ 2) (hd : dstOk o.dst n = true)
  (hK : ∀ g c vs, vs.length = ds.length → forceF (killF i (.raw (.slice (some ⟨g, 0, none⟩) ds.length c)) fr) fun fr => forceS (sins gh (.ghost [.tuple (vs.take m).toArray] [.d (.tuple (ds.take m))]) (sturn (killO i (.raw (.slice (some ⟨g, 0, none⟩) ds.length c))) i (tailC E vs m g c).own σ)) fun σ => K (putF o.dst (.own i) fr) σ) : OpSem C n kd o K fr σ := by
 subst hmi
 refine opSem_val hkd.1 hkd.2 fun B S w0 η φ a w hM => ⟨fun _ => by simp [dynPure, ho], .inl ?_⟩
 obtain ⟨css, hs, e2, hrr, hkk⟩ := own_slice_val hM.mem hg
 obtain ⟨vs, rfl, hvl⟩ := one_vals hrr hkk
 have hs1 := vals_sl.1 hs
 rcases hs1.shape with ⟨_, rfl⟩ | ⟨g, cap, e3, hc⟩
 ·exact absurd (List.eq_nil_of_length_eq_zero hvl.symm) hl
 have ex := rd_own (ev_rep hM x) hx
 have elo := rep_int (rd_da (ev_rep hM lo) hlo)
 rw [hvl] at e3 hc
 have hr := run_slice_ok (w := w) (hC.ty he) hk2 (hC.ty hee) (ad := some ⟨g, 0, none⟩) (len := ds.length) (cap := cap) hc (lo := some (.int .i64 m)) (hi := none) (l := m) (m := ds.length) ⟨_, rfl⟩ rfl hm (Nat.le_refl _)
 have hi := mem_ids (sget_mem hg)
 have hF : ∀ b ∈ [g], b ∈ φ i ∨ w.heap.size ≤ b := fun b hb => .inl (by rw [e2, e3]; simpa [Value.ownBlock] using hb)
 have hl2 := Later.turn (σ := σ) B (Tch.refl [] w) (X := []) (by simp) hi hF (killO i (.raw (.slice (some ⟨g, 0, none⟩) ds.length cap))) (tailC E vs m g cap).own
 have hM' := hM.turnRaw (Tch.refl [] w) (by simp) hi (v := .slice (if cap = m then some ⟨g, 0, none⟩ else some ⟨g, m, none⟩) (ds.length - m) (cap - m)) (F := [g]) hF (x := .raw (.slice (some ⟨g, 0, none⟩) ds.length cap)) rfl (fun O w => by simp only [RepC]; rw [e3]) (ow := (tailC E vs m g cap).own) (show (tailC E vs m g cap).R _ _ _ from ⟨by rw [hvl], rfl, by rw [hvl]; exact hm, by rw [hvl, ← e3]; exact hs1⟩)
 have hgh' : sget gh (sturn (killO i (.raw (.slice (some ⟨g, 0, none⟩) ds.length cap))) i (tailC E vs m g cap).own σ) = none := sget_out (by rw [ids_sturn]; exact sget_none hgh)
 have hne : i ≠ gh := fun e => by rw [e, hgh] at hg; cases hg
 have hM2 := (hM'.pins hgh' (xs := ds.take m) (us := vs.take m) (css := (vs.take m).map encV) (by rw [List.map_take]; exact repCss_take (RepCss.later hl2 _ _ hrr) m) (by rw [vals_zip (fun d hd => hone d (List.mem_of_mem_take hd)) (by rw [List.length_take, List.length_take, hvl])])).perm (sins_perm gh _ _)
 have hk := hK g cap vs hvl
 rw [forceF_eq, forceS_eq] at hk
 refine ⟨_, w, ?_, _, _, _, _, hM2.put hd (d := .own i) ⟨[.slice (if cap = m then some ⟨g, 0, none⟩ else some ⟨g, m, none⟩) (ds.length - m) (cap - m)], by simp only [RepD]; exact ⟨by unfold ids; rw [((sins_perm gh _ _).map _).mem_iff]; exact List.mem_cons_of_mem _ (by have := ids_sturn (killO i (.raw (.slice (some ⟨g, 0, none⟩) ds.length cap))) i (tailC E vs m g cap).own σ; unfold ids at this; rw [this]; exact hi), by rw [upd_ne _ _ _ hne, upd_eq]⟩, rfl⟩, hk⟩
 simp only [execOp, ho, Option.map_some, Option.map_none]
 rw [ex, elo, e3]
 refine run_v ?_
 rw [hr]
 congr 2
 split
 ·rfl
 ·simp [Addr.add_lit, h1]
theorem op_clearC {m g c : Nat} {cl : Call} {t : TypeId} {x : Operand} {e : TyI} (hC : C.Ok T) (i : Nat) (ho : o.op = .call cl) (hcl : cl.callee = .builtin .clear) (hxs : cl.args.toList = [x]) (hts : cl.argTypes.toList = [t]) (he : tyAt t T = some e) (hk2 : e.kd = 2) (hz : ∀ w, (zeroValue e.elem).run C.P w = .ok nilS w) (hx : ev C.Γ fr x = .own i) (hg : sget i σ = some (tailC E l m g c).own) (hkd : kd ≠ 5 ∧ kd ≠ 2) (hd : dstOk o.dst n = true)
  (hK : forceS (sturn id i (tailC E (l.take m ++ List.replicate (l.length - m) nilS) m g c).own σ) fun σ => K (putF o.dst (.d (.tuple [])) fr) σ) : OpSem C n kd o K fr σ := by
 rw [forceS_eq] at hK
 refine opSem_val hkd.1 hkd.2 fun B S w0 η φ a w hM => ⟨fun _ => by simp [dynPure, ho], .inl ?_⟩
 have ex := rd_own (ev_rep hM x) hx
 obtain ⟨ev1, ev2, hm, hs⟩ := abs_val hM hg
 have hi := mem_ids (sget_mem hg)
 have e1 : cl.args = #[x] := by apply Array.ext'; simpa using hxs
 have e2 : cl.argTypes = #[t] := by apply Array.ext'; simpa using hts
 obtain ⟨dd, g1, _, g3, _, _, _, _, g8⟩ := (hC.ty he).desc
 rw [hk2] at g8
 have hdd : ∃ el, dd = .slice el := by cases dd <;> simp at g8 <;> exact ⟨_, rfl⟩
 obtain ⟨el, rfl⟩ := hdd
 have hel := g3 _ rfl
 subst hel
 have hl2 : (l.take m ++ List.replicate (l.length - m) nilS).length = l.length := by rw [List.length_append, List.length_take, List.length_replicate]; omega
 have step : ∀ w1, Tch [g] w w1 → Sl E 1 encV w1 (.slice (some ⟨g, 0, none⟩) l.length c) (l.take m ++ List.replicate (l.length - m) nilS) → Good C B S w0 n K (a.put o.dst (.tuple #[])) w1 := fun w1 ht hs' => by
  have hX : ∀ b ∈ [g], b ∈ φ i := fun b hb => by rw [ev2]; exact hb
  have hF : ∀ b ∈ φ i, b ∈ φ i ∨ w.heap.size ≤ b := fun b hb => .inl hb
  have hlt := Later.turn (σ := σ) B ht hX hi hF id (tailC E (l.take m ++ List.replicate (l.length - m) nilS) m g c).own
  have hmm := hM.mem.turnSame (o := (tailC E (l.take m ++ List.replicate (l.length - m) nilS) m g c).own) ht hX hi hF (show (tailC E (l.take m ++ List.replicate (l.length - m) nilS) m g c).R _ _ _ from ⟨by rw [hl2]; exact ev1, ev2, by rw [hl2]; exact hm, by rw [hl2]; exact hs'⟩)
  rw [upd_self] at hmm hlt
  have M' : Models C B S w0 n fr _ η φ a w1 := ⟨hmm, hM.fr.later hlt (fun j hj => ⟨by rw [ids_sturn]; exact hj, rfl⟩), hM.defers, hM.size⟩
  exact ⟨_, _, _, _, M'.put hd (d := .d (.tuple [])) ⟨[.tuple #[]], by simp [RepD, RepC, RepCss], rfl⟩, hK⟩
 have exec : ∀ w1, (Builtin.clear_ #[t] o.type #[η i]).run C.P w = .ok (.tuple #[]) w1 → (execOp a.eval o).run C.P w = .ok (.value (.tuple #[])) w1 := fun w1 h => by
  simp only [execOp, ho, resolve, hcl, Sem.run_bind, Sem.run_pure, Result.andThen_ok, invoke, builtin, e1, e2, List.map_toArray, List.map_cons, List.map_nil, ex]
  rw [h]; rfl
 by_cases hml : m = l.length
 ·refine ⟨_, w, exec w ?_, step w (Tch.refl _ _) ?_⟩
  ·rw [ev1, hml, Nat.sub_self]
   generalize (if c = l.length then (some ⟨g, 0, none⟩ : Option Addr) else some ⟨g, l.length, none⟩) = ad
   cases ad <;> simp [Builtin.clear_, run_underlying g1]
  ·rw [hml, Nat.sub_self, List.take_length]; simpa using hs
 ·obtain ⟨w1, r1, r2, r3⟩ := hs.zeroV (P := C.P) hm
  refine ⟨_, w1, exec w1 ?_, step w1 r3 r2⟩
  have hcm : c ≠ m := by
   rcases hs.shape with ⟨h, _⟩ | ⟨_, _, h, h2⟩
   ·cases h
   ·cases h; omega
  obtain ⟨k, hk⟩ : ∃ k, l.length - m = k + 1 := ⟨l.length - m - 1, by omega⟩
  have hzc : (Builtin.zeroCells (nilS).cells (k + 1)).toList = List.replicate (k + 1) nilS := by
   apply List.ext_getElem
   ·simp [Builtin.zeroCells, Value.cells]
   ·intro j h1 h2
    simp [Builtin.zeroCells, Value.cells, Nat.mod_one]
  rw [ev1, if_neg hcm, hk]
  rw [hk] at r1
  simp [Builtin.clear_, run_underlying g1, hz, hzc, r1]
theorem rep_vals {O : List Nat} {w : World} : ∀ {ds : List Da} {css : List (List Value)}, RepCss O w ds css → (∀ d ∈ ds, d.one = true ∧ d.stor = true) → css = (List.zipWith toV ds css).map encV ∧ ∀ x ∈ css, RowOk 1 x
 | [], css, h, _ => by simp only [RepCss] at h; subst h; exact ⟨rfl, fun x hx => by cases hx⟩
 | d :: ds, css, h, ho => by
   simp only [RepCss] at h
   obtain ⟨c1, c2, rfl, h1, h2⟩ := h
   obtain ⟨g1, g2⟩ := rep_vals h2 fun d hd => ho d (List.mem_cons_of_mem _ hd)
   obtain ⟨o1, o2⟩ := ho d List.mem_cons_self
   have hlen : c1.length = 1 := by
    have := repC_len d c1 h1
    rw [this]
    cases d <;> first | rfl | cases o1
   have hrow : RowOk 1 c1 := ⟨hlen, repC_one d c1 o2 h1⟩
   obtain ⟨v, rfl⟩ := List.length_eq_one_iff.1 hlen
   rw [List.zipWith_cons_cons, List.map_cons, toV_one o1, ← g1]
   exact ⟨rfl, fun x hx => by
    rcases List.mem_cons.1 hx with e | e
    ·rw [e]; exact hrow
    ·exact g2 x e⟩
theorem op_headC {m g c gh : Nat} {us : List Value} {ds : List Da} {t : TypeId} {x hi : Operand} {e ee : TyI} (hC : C.Ok T) (i : Nat) (ho : o.op = .slice t x none (some hi) none) (he : tyAt t T = some e) (hk2 : e.kd = 2) (hee : tyAt e.elem T = some ee) {nn : Nat} (hx : ev C.Γ fr x = .d (.raw (.slice (some ⟨g, 0, none⟩) nn c))) (hnn : nn = l.length) (hg : sget i σ = some (tailC E l m g c).own) (hgh : sget gh σ = some (.ghost [.tuple us.toArray] [.d (.tuple ds)])) (hus : l.take m = us) (_hdl : ds.length = m) (hone : ∀ d ∈ ds, d.one = true ∧ d.stor = true) {mi : Int} (hhi : ev C.Γ fr hi = .d (.int .i64 mi)) (hmi : mi = m) (hkd : kd ≠ 5 ∧ kd ≠ 2) (hd : dstOk o.dst n = true)
  (hK : forceF (killF i .undef fr) fun fr => forceS (sturn (killO i .undef) i (.slice E 1 ds) σ) fun σ => K (putF o.dst (.own i) fr) σ) : OpSem C n kd o K fr σ := by
 subst hmi
 subst hnn
 rw [forceF_eq, forceS_eq] at hK
 refine opSem_val hkd.1 hkd.2 fun B S w0 η φ a w hM => ⟨fun _ => by simp [dynPure, ho], .inl ?_⟩
 obtain ⟨ev1, ev2, hm, hs⟩ := abs_val hM hg
 have hii := mem_ids (sget_mem hg)
 have ex : a.eval x = .slice (some ⟨g, 0, none⟩) l.length c := by
  obtain ⟨cs, h1, h2⟩ := rd_da (ev_rep hM x) hx
  simp only [RepC] at h1
  subst h1; exact h2
 have ehi := rep_int (rd_da (ev_rep hM hi) hhi)
 have hlc : l.length ≤ c := by
  rcases hs.shape with ⟨h, _⟩ | ⟨_, _, h, h2⟩
  ·cases h
  ·cases h; exact h2
 have hr := run_slice_ok (w := w) (hC.ty he) hk2 (hC.ty hee) (ad := some ⟨g, 0, none⟩) (len := l.length) (cap := c) hlc (lo := none) (hi := some (.int .i64 m)) (l := 0) (m := m) rfl ⟨_, rfl⟩ (Nat.zero_le _) hm
 have hs' : Sl E 1 encV w (.slice (some ⟨g, 0, none⟩) m c) (l.take m) := by
  have hlm : (l.take m).length = m := by rw [List.length_take]; omega
  rcases hs.2 with ⟨h1, _⟩ | ⟨g', cap', cur, h1, h0, hgg, hc, hmx, hsz, ht⟩
  ·cases h1
  ·cases h1
   unfold Sl
   rw [flat_encV, hlm]
   refine ⟨by omega, .inr ⟨g, c, cur, rfl, Nat.zero_le _, hgg, by omega, hmx, hsz, ?_⟩⟩
   rw [flat_encV] at ht
   rw [← ht, List.take_take, Nat.mul_one, Nat.mul_one, Nat.min_eq_left hm]
 obtain ⟨_, _, qss, hrr, huz⟩ := hM.mem.own _ (sget_mem hgh)
 simp only [RepDss, RepD, RepC] at hrr
 obtain ⟨_, _, rfl, ⟨css, hrr, rfl⟩, rfl⟩ := hrr
 have huz : us = List.zipWith toV ds css := by simpa [toVD, toV] using huz
 have hF : ∀ b ∈ (Value.slice (some ⟨g, 0, none⟩) m c).ownBlock.toList, b ∈ φ i ∨ w.heap.size ≤ b := fun b hb => .inl (by rw [ev2]; simpa [Value.ownBlock] using hb)
 have hl2 := Later.turn (σ := σ) B (Tch.refl [] w) (X := []) (by simp) hii hF (killO i .undef) (.slice E 1 ds)
 have hcss := rep_vals hrr hone
 rw [← huz, ← hus] at hcss
 have hM' := hM.turnRaw (Tch.refl [] w) (by simp) hii (v := .slice (some ⟨g, 0, none⟩) m c) hF (x := .undef) rfl (fun O w => RepC.undef_ex _ _ _) (ow := .slice E 1 ds) ⟨css, by rw [hcss.1]; exact vals_sl.2 hs', rfl, RepCss.later hl2 _ _ hrr, hcss.2⟩
 refine ⟨_, w, ?_, _, _, _, _, hM'.put hd (d := .own i) ⟨[.slice (some ⟨g, 0, none⟩) m c], by simp only [RepD]; exact ⟨by rw [ids_sturn]; exact hii, by rw [upd_eq]⟩, rfl⟩, hK⟩
 simp only [execOp, ho, Option.map_some, Option.map_none]
 rw [ex, ehi]
 refine run_v ?_
 rw [hr]
 congr 2
 split
 ·simp
 ·simp [Addr.add_lit]
end
end Go.Sx
end
