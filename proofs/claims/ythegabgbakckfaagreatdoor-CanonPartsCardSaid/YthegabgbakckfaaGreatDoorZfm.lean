/- Merged: Frm Mps Mpo Own. -/
import Derived.Test.YthegabgbakckfaaGreatDoorZsa
import Derived.Test.YthegabgbakckfaaGreatDoorZcp
import Derived.Test.YthegabgbakckfaaGreatDoorAts
import Derived.Test.YthegabgbakckfaaGreatDoorZga
import Derived.RangeFuncBox
import Derived.RangeFuncLeaves
import Derived.RangeFuncCalls
section
/- canon.Form: the walk. -/
namespace Go.Proofs.YthegabgbakckfaaGreatDoor
open Go.Sx Go.RowKit Go.Reg Go.Gr

set_option maxRecDepth 100000
attribute [local go_sem] Oper.semAt_some
def pl_cor : List (Nat × Plan) := []
def G_cor : List FuncId := []
theorem cok_cor : codeOk Tryz.prog G_cor pl_cor (Tryz.f66.body.getD .skip) = true := by kernel_rfl
theorem run_cor (vs : Array Value) (w : World) : (callFunc 66 vs).run C1.P w = .ok (.enter 66 vs) w := by kernel_rfl
theorem orders_pure (p : Pt) (labels : List Int) : Pure C1 66 [dPt p, dIs labels] (fun y => y = ordersD p labels) := by
  refine pure_of c1_ok (pl := pl_cor) (G := G_cor) Tryz.func66 rfl Tryz.ntmps66 run_cor cok_cor (by simp) ?_
  ((conv => whnf); repeat' ((first | refine odw ?_ | refine ify ?_ | refine ifn ?_ | refine i6 ?_ | refine ati ?_ | refine mst ?_ | refine rmd ?_ | refine ibo (fun _ => ?_) (fun _ => ?_)) <;> conv => whnf))
  exact rfl
theorem rep_list_val {O : List Nat} {w : World} {k : Nat} {ds : List Da} {cs : List Value} (h : RepC O w (.list k ds) cs) : ∃ a c, cs = [.slice a ds.length c] ∧ Rep O w (.list k ds) (.slice a ds.length c) ∧ ds.length ≤ c ∧ c ≤ maxLen := by
  have h' := h
  simp only [RepC] at h
  obtain ⟨a, c, css, rfl, h1, h2, _⟩ := h
  exact ⟨a, c, rfl, ⟨_, h', rfl⟩, h1, h2⟩
theorem rep_pt {O : List Nat} {w : World} {p : Pt} {v : Value} (h : Rep O w (dPt p) v) : ∃ a1 c1 a2 c2, v = .agg #[.slice a1 p.labels.length c1, .slice a2 p.edges.length c2] ∧ Rep O w (dIs p.labels) (.slice a1 p.labels.length c1) ∧ Rep O w (dEs p.edges) (.slice a2 p.edges.length c2) := by
  obtain ⟨cs, r, rfl⟩ := h
  simp only [dPt, RepC, RepCs] at r
  obtain ⟨k1, k2, rfl, r1, k3, k4, rfl, r2, rfl⟩ := r
  obtain ⟨a1, c1, rfl, g1, _⟩ := rep_list_val r1
  obtain ⟨a2, c2, rfl, g2, _⟩ := rep_list_val r2
  rw [List.length_map] at g1 g2
  exact ⟨a1, c1, a2, c2, by rw [List.length_map, List.length_map]; rfl, g1, g2⟩
theorem Pure.at' {C : Cx} {f : FuncId} {xs : List Da} {Q : Da → Prop} (h : Pure C f xs Q) (n : Nat) {O : List Nat} {W : World} {us : List Value} (hO : ∀ b ∈ O, b < W.heap.size) (hg : Glob C O W) (hr : Reps O W xs us) :
    CallsIn Fence.wide n C.P f us.toArray W fun e B => ∃ u y, e = .returned u ∧ Q y ∧ Rep O B y u ∧ Tch [] W B := callsIn_wide.2 (h O W us hO hg hr).2
theorem Tch.up {O : List Nat} {A B : World} (h : Tch [] A B) : Tch O A B := h.mono (by simp)
theorem heap_on {A B : World} (h : Tch [] A B) {b : Nat} {o : Obj} (hb : A.heap[b]? = some o) : B.heap[b]? = some o := by
  rw [h.blk b (Array.getElem?_eq_some_iff.1 hb).1 (by simp)]; exact hb
theorem later_new {O X : List Nat} {w W : World} (t : Tch [] w W) (hX : ∀ x ∈ X, w.heap.size ≤ x ∨ x ∈ O) : Later O w X W :=
  ⟨t.size, fun b hb _ => t.blk b hb (by simp), fun b hn hb hm => (hX b hm).elim (fun h => by omega) hn⟩
theorem glob_later {C : Cx} {O X : List Nat} {A B : World} (h : Later O A X B) (r : Glob C O A) : Glob C X B := fun g hg => (r g hg).later h
/-- what the loop of Form keeps -/
def FormI (p : Pt) (b6 b7 b8 : Nat) (O : List Nat) (W0 : World) (R : List Nat) (pre : List (List Int)) (W : World) : Prop :=
  Tch ([b6, b7, b8] ++ R) W0 W ∧ match pre.foldl (stepB p) none with
    | none => W.heap[b6]? = some (Obj.cells #[Value.slice none 0 0, Value.slice none 0 0] 35) ∧ W.heap[b7]? = some (Obj.cells #[Value.slice none 0 0] 22) ∧ W.heap[b8]? = some (Obj.cells #[Value.bool true] 4)
    | some (q, b) => ∃ u1 u2 u3, W.heap[b6]? = some (Obj.cells #[u1, u2] 35) ∧ W.heap[b7]? = some (Obj.cells #[u3] 22) ∧ W.heap[b8]? = some (Obj.cells #[Value.bool false] 4) ∧
        Rep ([b6, b7, b8] ++ O ++ R) W (dPt q) (.agg #[u1, u2]) ∧ Rep ([b6, b7, b8] ++ O ++ R) W (dIs b) u3 ∧ q.labels.length ≤ 1000 ∧ q.edges.length ≤ 1000
theorem rep_tup_pt {O : List Nat} {B : World} {q : Pt} {u : Value} (h : Rep O B (.tuple [dPt q, .nili]) u) : ∃ d1 m1 d2 m2, u = .tuple #[.agg #[.slice d1 q.labels.length m1, .slice d2 q.edges.length m2], .nilIface] ∧ Rep O B (dPt q) (.agg #[.slice d1 q.labels.length m1, .slice d2 q.edges.length m2]) := by
  obtain ⟨cs, r, rfl⟩ := h
  simp only [RepC, RepCss] at r
  obtain ⟨css, ⟨k1, k2, rfl, r1, k3, k4, rfl, r2, rfl⟩, rfl⟩ := r
  obtain ⟨d1, m1, d2, m2, e, _⟩ := rep_pt (v := toV (dPt q) k1) ⟨k1, r1, rfl⟩
  obtain rfl : k3 = [Value.nilIface] := r2
  refine ⟨d1, m1, d2, m2, ?_, k1, r1, e.symm⟩
  show Value.tuple #[toV (dPt q) k1, Value.nilIface] = _
  rw [e]
theorem heap_ne {S : List Nat} {A B : World} (h : Tch S A B) {b : Nat} {o : Obj} (hb : A.heap[b]? = some o) (hn : b ∉ S) : B.heap[b]? = some o := by
  rw [h.blk b (Array.getElem?_eq_some_iff.1 hb).1 hn]; exact hb
theorem formI_abides {p : Pt} {b6 b7 b8 : Nat} {O : List Nat} {W0 : World} {R : List Nat} {pre : List (List Int)} {A B : World} (h6 : b6 < W0.heap.size) (h7 : b7 < W0.heap.size) (h8 : b8 < W0.heap.size) (hR : ∀ r ∈ R, W0.heap.size ≤ r) (h : FormI p b6 b7 b8 O W0 R pre A) (t : Tch R A B) :
    FormI p b6 b7 b8 O W0 R pre B := by
  obtain ⟨h1, h2⟩ := h
  have n6 : b6 ∉ R := fun hm => by have := hR _ hm; omega
  have n7 : b7 ∉ R := fun hm => by have := hR _ hm; omega
  have n8 : b8 ∉ R := fun hm => by have := hR _ hm; omega
  refine ⟨h1.trans0 (t.mono (by simp +contextual)), ?_⟩
  split at h2
  · obtain ⟨g1, g2, g3⟩ := h2
    exact ⟨heap_ne t g1 n6, heap_ne t g2 n7, heap_ne t g3 n8⟩
  · obtain ⟨u1, u2, u3, g1, g2, g3, g4, g5, g6⟩ := h2
    exact ⟨u1, u2, u3, heap_ne t g1 n6, heap_ne t g2 n7, heap_ne t g3 n8, rep_on (t.mono (by simp +contextual)) g4, rep_on (t.mono (by simp +contextual)) g5, g6⟩
theorem cells2_set {W : World} {b : Nat} {t : TypeId} {x y : Value} (h : W.heap[b]? = some (Obj.cells #[x, y] t)) (u v : Value) : ((W.setCell ⟨b, 0, none⟩ u).setCell ⟨b, 1, none⟩ v).heap[b]? = some (Obj.cells #[u, v] t) := by
  have one : ∀ {W : World} {cs : Array Value} (i : Nat) (z : Value), W.heap[b]? = some (Obj.cells cs t) → (W.setCell ⟨b, i, none⟩ z).heap[b]? = some (Obj.cells (cs.setIfInBounds i z) t) := fun {W cs} i z h => by
    obtain ⟨hlt, hk⟩ := Array.getElem?_eq_some_iff.1 h
    show (W.heap.modify b _)[b]? = _
    rw [Array.getElem?_eq_getElem (by rw [Array.size_modify]; exact hlt), Array.getElem_modify_self, hk]
    rfl
  exact one 1 v (one 0 u h)
theorem heap_set {W : World} {b i k : Nat} {v : Value} {o : Obj} (hne : ¬ b = k) (h : W.heap[k]? = some o) : (W.setCell ⟨b, i, none⟩ v).heap[k]? = some o := (Below.heap_setCell W ⟨b, i, none⟩ v k (fun e => hne e.symm)).trans h
/-- the round's three stores -/
theorem form_store {p : Pt} {b6 b7 b8 : Nat} {O R : List Nat} {W7 A2 A4 : World} {pre : List (List Int)} {x : List Int} {t6 t6' t7 t8 u v z : Value} (q4 : ¬ b6 = b7) (q5 : ¬ b6 = b8) (q6 : ¬ b7 = b8)
    (tA : Tch ([b6, b7, b8] ++ R) W7 A2) (T : Tch [] A2 A4) (G6 : A4.heap[b6]? = some (Obj.cells #[t6, t6'] 35)) (G7 : A4.heap[b7]? = some (Obj.cells #[t7] 22)) (G8 : A4.heap[b8]? = some (Obj.cells #[t8] 4))
    (hf : (pre ++ [x]).foldl (stepB p) none = some (turnP p x, x)) (r1 : Rep ([b6, b7, b8] ++ O ++ R) A4 (dPt (turnP p x)) (.agg #[u, v])) (r2 : Rep ([b6, b7, b8] ++ O ++ R) A4 (dIs x) z) (hl : (turnP p x).labels.length ≤ 1000 ∧ (turnP p x).edges.length ≤ 1000) :
    FormI p b6 b7 b8 O W7 R (pre ++ [x]) ((((A4.setCell ⟨b6, 0, none⟩ u).setCell ⟨b6, 1, none⟩ v).setCell ⟨b7, 0, none⟩ z).setCell ⟨b8, 0, none⟩ (.bool false)) ∧
    Tch ([b6, b7, b8] ++ O) A2 ((((A4.setCell ⟨b6, 0, none⟩ u).setCell ⟨b6, 1, none⟩ v).setCell ⟨b7, 0, none⟩ z).setCell ⟨b8, 0, none⟩ (.bool false)) := by
  have TS : Tch [b6, b7, b8] A4 ((((A4.setCell ⟨b6, 0, none⟩ u).setCell ⟨b6, 1, none⟩ v).setCell ⟨b7, 0, none⟩ z).setCell ⟨b8, 0, none⟩ (.bool false)) :=
    ((((Tch.refl [b6, b7, b8] A4).andSet (.inl (by simp)) u).andSet (.inl (by simp)) v).andSet (.inl (by simp)) z).andSet (.inl (by simp)) _
  have E6 := heap_set (i := 0) (v := .bool false) (fun e => q5 e.symm) (heap_set (i := 0) (v := z) (fun e => q4 e.symm) (cells2_set G6 u v))
  have E7 : ((((A4.setCell ⟨b6, 0, none⟩ u).setCell ⟨b6, 1, none⟩ v).setCell ⟨b7, 0, none⟩ z).setCell ⟨b8, 0, none⟩ (.bool false)).heap[b7]? = some (Obj.cells #[z] 22) :=
    heap_set (fun e => q6 e.symm) (Boxed.set z (heap_set q4 (heap_set q4 G7)))
  have E8 : ((((A4.setCell ⟨b6, 0, none⟩ u).setCell ⟨b6, 1, none⟩ v).setCell ⟨b7, 0, none⟩ z).setCell ⟨b8, 0, none⟩ (.bool false)).heap[b8]? = some (Obj.cells #[.bool false] 4) :=
    Boxed.set (.bool false) (heap_set q6 (heap_set q5 (heap_set q5 G8)))
  refine ⟨⟨(tA.then0 T).trans0 (TS.mono (by simp +contextual)), ?_⟩, T.ahead0 (TS.mono (by simp +contextual))⟩
  rw [hf]
  exact ⟨u, v, z, E6, E7, E8, rep_on (TS.mono (by simp +contextual)) r1, rep_on (TS.mono (by simp +contextual)) r2, hl⟩
theorem turn_facts {A2 A3 : World} (T3 : Tch [] A2 A3) {b6 b8 : Nat} {t t' ty : TypeId} {x6 x6' x8 : Value} (g6 : A2.heap[b6]? = some (Obj.cells #[x6, x6'] t)) (g8 : A2.heap[b8]? = some (Obj.cells #[x8] t')) (y y' : Value) :
    (A3.alloc (Obj.cells #[y, y'] ty)).cell? ⟨b8, 0, none⟩ = some x8 ∧ (A3.alloc (Obj.cells #[y, y'] ty)).cell? ⟨b6, 0, none⟩ = some x6 ∧ (A3.alloc (Obj.cells #[y, y'] ty)).cell? ⟨b6, 1, none⟩ = some x6' ∧
    (A3.alloc (Obj.cells #[y, y'] ty)).cell? ⟨A3.heap.size, 0, none⟩ = some y ∧ (A3.alloc (Obj.cells #[y, y'] ty)).cell? ⟨A3.heap.size, 1, none⟩ = some y' := by
  have G6 := heap_on (T3.andAlloc (Obj.cells #[y, y'] ty)) g6
  have G8 := heap_on (T3.andAlloc (Obj.cells #[y, y'] ty)) g8
  have G10 := World.alloc_heap_new A3 (Obj.cells #[y, y'] ty)
  refine ⟨?_, ?_, ?_, ?_, ?_⟩
  · simp only [World.cell?, G8]; rfl
  · simp only [World.cell?, G6]; rfl
  · simp only [World.cell?, G6]; rfl
  · simp only [World.cell?, G10]; rfl
  · simp only [World.cell?, G10]; rfl
theorem results_ctt {fn : Func} {P : Program} {t u v ty : Nat} (h : fn.results = #[.cell t ty, .tmp u, .tmp v]) {tmps : Array Value} {W : World} {b : Nat} {x : Value} (ht : tmps.getD t undef = .pointer (some ⟨b, 0, none⟩)) (hl : (loadVar ty ⟨b, 0, none⟩).run P W = .ok x W) :
    (results fn tmps).run P W = .ok (.tuple #[x, tmps.getD u undef, tmps.getD v undef]) W := by
  have hm : (fn.results.mapM (resV tmps)).run P W = .ok #[x, tmps.getD u undef, tmps.getD v undef] W := by
    rw [h, Array.mapM_eq_mapM_toList, Sem.run_map]
    have : (List.mapM (resV tmps) #[ResultVar.cell t ty, ResultVar.tmp u, ResultVar.tmp v].toList).run P W = .ok [x, tmps.getD u undef, tmps.getD v undef] W := by
      simp only [List.mapM_cons, List.mapM_nil, resV, Sem.run_bind, Sem.run_pure, ht, asAddr, Result.andThen_ok, hl]
    rw [this]; rfl
  rw [results_eq, Sem.run_bind, hm]
  simp
/-- the end of Form -/
theorem form_end {q : Pt} {by' : List Int} {O X : List Nat} {w W V : World} {b2 D : Nat} {tmps : Array Value} {u v z x2 x2' : Value} (hX : ∀ b ∈ O, b ∈ X) (hb2X : b2 ∈ X) (hb2w : w.heap.size ≤ b2) (hDR : D ∈ X) (hDw : w.heap.size ≤ D) (hD2 : ¬ b2 = D)
    (TW : Tch [] w W) (TV : Tch [] W V) (r1 : Rep X W (dPt q) (.agg #[u, v])) (r2 : Rep X W (dIs by') z) (hDef : W.heap[D]? = some (.deferred (some []))) (g2 : W.heap[b2]? = some (Obj.cells #[x2, x2'] 35))
    (e2 : tmps.getD 2 undef = .pointer (some ⟨b2, 0, none⟩)) (e3 : tmps.getD 3 undef = z) (e4 : tmps.getD 4 undef = .nilIface) :
    bodyPostM Fence.wide 4 Tryz.prog Tryz.f22 (fun e w' => ∃ v y, e = Ending.returned v ∧ y = Da.tuple [dPt q, dIs by', Da.nili] ∧ Rep O w' y v ∧ Tch [] w w') Exit.ret { tmps := tmps, defers := [{ target := .collected D, args := #[] }] } ((V.setCell ⟨b2, 0, none⟩ u).setCell ⟨b2, 1, none⟩ v) := by
  have G2 := cells2_set (heap_on TV g2) u v
  have GD : ((V.setCell ⟨b2, 0, none⟩ u).setCell ⟨b2, 1, none⟩ v).heap[D]? = some (.deferred (some [])) := heap_set hD2 (heap_set hD2 (heap_on TV hDef))
  obtain ⟨Y, hY⟩ : ∃ Y, (V.setCell ⟨b2, 0, none⟩ u).setCell ⟨b2, 1, none⟩ v = Y := ⟨_, rfl⟩
  have TY : Tch [b2] V Y := by rw [← hY]; exact ((Tch.refl [b2] V).andSet (.inl (by simp)) u).andSet (.inl (by simp)) v
  rw [hY] at G2 GD
  rw [hY]
  have TE : Tch [b2, D] W (Y.putObj D (.deferred none)) := ((Tch.up (O := [b2, D]) TV).trans0 (TY.mono (by simp))).trans0 ((tch_putObj _ _ _).mono (by simp))
  have hbW := (Array.getElem?_eq_some_iff.1 g2).1
  have G2' : (Y.putObj D (.deferred none)).heap[b2]? = some (Obj.cells #[u, v] 35) := (World.putObj_heap_other (fun e => hD2 e)).trans G2
  have LX : Later X W O (Y.putObj D (.deferred none)) := ⟨TE.size, fun b hb hn => TE.blk b hb (fun hm => by
    simp only [List.mem_cons, List.not_mem_nil, or_false] at hm
    rcases hm with rfl | rfl
    · exact hn hb2X
    · exact hn hDR), fun b hn _ hm => hn (hX b hm)⟩
  have TF : Tch [] w (Y.putObj D (.deferred none)) := TW.trans TE (fun _ h => h) (fun x hx => by
    simp only [List.mem_cons, List.not_mem_nil, or_false] at hx
    rcases hx with rfl | rfl
    · exact .inr hb2w
    · exact .inr hDw)
  refine ⟨by simp, .inl ⟨D, _, rfl, run_takeDeferred GD, ?_⟩⟩
  have hload : (loadVar 35 ⟨b2, 0, none⟩).run Tryz.prog (Y.putObj D (.deferred none)) = .ok (.agg #[u, v]) (Y.putObj D (.deferred none)) := by
    have := run_loadVar_ok (P := Tryz.prog) (c1_ok.ty (t := 35) rfl) (w := Y.putObj D (.deferred none)) (b := b2) (o := 0) (cs := [u, v]) (fun j x hj => by
      cases j with
      | zero => simp only [World.cell?, G2']; simpa using hj
      | succ j =>
        cases j with
        | zero => simp only [World.cell?, G2']; simpa using hj
        | succ j => simp at hj) rfl (by decide)
    exact this
  refine ⟨_, results_ctt Tryz.results22 e2 hload, _, _, rfl, rfl, ?_, TF⟩
  rw [e3, e4]
  obtain ⟨k1, h1, e1⟩ := r1.later LX
  obtain ⟨k2, h2, e2'⟩ := r2.later LX
  refine ⟨[_], by simp only [RepC]; exact ⟨[k1, k2, [.nilIface]], by simp only [RepCss]; exact ⟨k1, _, rfl, h1, k2, _, rfl, h2, [.nilIface], _, rfl, by simp only [RepC], rfl⟩, rfl⟩, ?_⟩
  simp only [List.zipWith_cons_cons, List.zipWith_nil_left]
  rw [← e1, ← e2']
  rfl
set_option maxHeartbeats 1000000 in
theorem form_pure (p : Pt) (hp : pErr p = none) (hE : p.edges.length ≤ 1000) : Pure C1 22 [dPt p] (fun y => y = .tuple [dPt (formP p), dIs (byP p), .nili]) := by
  intro O w vs hO hg hr
  obtain ⟨v, vs', rfl, hv, hr'⟩ := reps_inv hr
  obtain rfl := reps_inv0 hr'
  obtain ⟨a1, c1, a2, c2, rfl, g1, g2⟩ := rep_pt hv
  refine ⟨by kernel_rfl, ?_⟩
  show Calls Tryz.prog _ _ _ _
  refine callsIn_wide.1 (callsIn_of_wp_marks (n := 4) Tryz.func22 rfl trivial ?_ rfl)
  simp only [Tryz.ntmps22, List.size_toArray, List.length_cons, List.length_nil, Nat.reduceAdd, Nat.reduceSub, Array.replicate_succ, Array.replicate_zero, List.push_toArray, List.append_toArray, List.nil_append, List.cons_append]
  have hri := pright_pure p (by have := (lErr_none (pErr_none hp).1).1; omega) (by omega)
  rw [rightP_none hp] at hri
  have T0 : Tch [] w ((w.alloc (Obj.cells #[Value.slice a1 p.labels.length c1, Value.slice a2 p.edges.length c2] 35)).alloc (Obj.cells #[Value.slice none 0 0, Value.slice none 0 0] 35)) := (Tch.alloc w _ []).andAlloc _
  have hR := Pure.at' hri 3 (below_on (Tch.up T0) hO) (glob_on (Tch.up T0) hg) (reps_cons (rep_on (Tch.up T0) hv) reps_nil)
  have B1 : ((w.alloc (Obj.cells #[Value.slice a1 p.labels.length c1, Value.slice a2 p.edges.length c2] 35)).alloc (Obj.cells #[Value.slice none 0 0, Value.slice none 0 0] 35)).heap[w.heap.size]? = some (Obj.cells #[Value.slice a1 p.labels.length c1, Value.slice a2 p.edges.length c2] 35) := heap_on (Tch.alloc _ _ []) (World.alloc_heap_new w _)
  have B2 : ((w.alloc (Obj.cells #[Value.slice a1 p.labels.length c1, Value.slice a2 p.edges.length c2] 35)).alloc (Obj.cells #[Value.slice none 0 0, Value.slice none 0 0] 35)).heap[w.heap.size + 1]? = some (Obj.cells #[Value.slice none 0 0, Value.slice none 0 0] 35) := by
    have := World.alloc_heap_new (w.alloc (Obj.cells #[Value.slice a1 p.labels.length c1, Value.slice a2 p.edges.length c2] 35)) (Obj.cells #[Value.slice none 0 0, Value.slice none 0 0] 35)
    rwa [World.size_alloc] at this
  gi_wp2_with (refine ⟨trivial, ?_⟩; gi_at_call 49; refine hR.mono ?_; rintro e W1 ⟨u, y, rfl, rfl, hu, T1⟩; obtain ⟨cu, hcu, rfl⟩ := hu; simp only [RepC] at hcu; subst hcu; simp only [toV, List.headD_cons])
  have B1' := heap_on T1 B1
  have B2' := heap_on T1 B2
  have T01 := T0.then0 T1
  clear hR B1 B2 T1 T0
  have hw1 := T01.size
  have hb2lt := (Array.getElem?_eq_some_iff.1 B2').1
  obtain ⟨W3, hW3⟩ : ∃ W3, ((W1.alloc (Obj.cells #[Value.slice none 0 0, Value.slice none 0 0] 35)).alloc (Obj.cells #[Value.slice none 0 0] 22)).alloc (Obj.cells #[Value.bool true] 4) = W3 := ⟨_, rfl⟩
  have T13 : Tch [] W1 W3 := by rw [← hW3]; exact ((Tch.alloc _ _ []).andAlloc _).andAlloc _
  have hs3 : W3.heap.size = W1.heap.size + 3 := by rw [← hW3]; simp
  have H1 := heap_on T13 B1'
  have H2 := heap_on T13 B2'
  have H6 : W3.heap[W1.heap.size]? = some (Obj.cells #[Value.slice none 0 0, Value.slice none 0 0] 35) := by
    rw [← hW3]; exact heap_on ((Tch.alloc _ _ []).andAlloc _) (World.alloc_heap_new _ _)
  have H7 : W3.heap[W1.heap.size + 1]? = some (Obj.cells #[Value.slice none 0 0] 22) := by
    rw [← hW3]; refine heap_on (Tch.alloc _ _ []) ?_
    have := World.alloc_heap_new (W1.alloc (Obj.cells #[Value.slice none 0 0, Value.slice none 0 0] 35)) (Obj.cells #[Value.slice none 0 0] 22)
    rwa [World.size_alloc] at this
  have H8 : W3.heap[W1.heap.size + 1 + 1]? = some (Obj.cells #[Value.bool true] 4) := by
    rw [← hW3]
    have := World.alloc_heap_new ((W1.alloc (Obj.cells #[Value.slice none 0 0, Value.slice none 0 0] 35)).alloc (Obj.cells #[Value.slice none 0 0] 22)) (Obj.cells #[Value.bool true] 4)
    rwa [World.size_alloc, World.size_alloc] at this
  have T3 := T01.then0 T13
  rw [hW3]
  clear hW3 T13 B1' B2'
  obtain ⟨b1, hb1⟩ : ∃ b, w.heap.size = b := ⟨_, rfl⟩
  obtain ⟨b6, hb6⟩ : ∃ b, W1.heap.size = b := ⟨_, rfl⟩
  obtain ⟨b2, hb2⟩ : ∃ b, b1 + 1 = b := ⟨_, rfl⟩
  obtain ⟨b7, hb7⟩ : ∃ b, b6 + 1 = b := ⟨_, rfl⟩
  obtain ⟨b8, hb8⟩ : ∃ b, b7 + 1 = b := ⟨_, rfl⟩
  rw [hb6, hb7, hb8] at H8
  rw [hb1, hb2] at H2
  rw [hb1, hb2] at hb2lt
  rw [hb1] at H1
  rw [hb6, hb7] at H7
  rw [hb6] at H6
  rw [hb6] at hb2lt
  simp only [hb1, hb6]
  simp only [hb2, hb7]
  simp only [hb8]
  have hSl := sortI_len p.labels
  have h8 := (lErr_none (pErr_none hp).1).1
  have d6 : b6 < W3.heap.size := by omega
  have d7 : b7 < W3.heap.size := by omega
  have d8 : b8 < W3.heap.size := by omega
  obtain ⟨O3, hO3⟩ : ∃ O3, [b6, b7, b8] ++ (b2 :: O) = O3 := ⟨_, rfl⟩
  have LO : Later O w O3 W3 := later_new T3 (fun x hx => by
    rw [← hO3] at hx
    simp only [List.cons_append, List.nil_append, List.mem_cons] at hx
    rcases hx with rfl | rfl | rfl | rfl | hx
    · left; omega
    · left; omega
    · left; omega
    · left; omega
    · exact .inr hx)
  have hO' : ∀ b ∈ O3, b < W3.heap.size := fun b hb => by
    rw [← hO3] at hb
    simp only [List.cons_append, List.nil_append, List.mem_cons] at hb
    rcases hb with rfl | rfl | rfl | rfl | hb
    · exact d6
    · exact d7
    · exact d8
    · omega
    · have := hO b hb; have := T3.size; omega
  have hg' : Glob C1 O3 W3 := glob_later LO hg
  have hv' : Rep O3 W3 (dPt p) _ := hv.later LO
  have g1' : Rep O3 W3 (dIs p.labels) _ := g1.later LO
  refine wpIn_wide.2 ?_
  refine wp_region_g [68, 67, 66] [1, 0, 1, 2, 2, 2] [1, 0, 2, 3, 4, 5] [0, 0, 2, 6, 14, 31] (by kernel_rfl) (by kernel_rfl) ?_
  intro W4 T4
  have T34 := T4
  have G1 := heap_on T4 H1
  have e1 : W4.cell? ⟨b1, 0, none⟩ = some (Value.slice a1 p.labels.length c1) := by simp only [World.cell?, G1]; rfl
  have e2 : W4.cell? ⟨b1, 1, none⟩ = some (Value.slice a2 p.edges.length c2) := by simp only [World.cell?, G1]; rfl
  have hV := Pure.at' (values_pure p.labels) 3 (below_on (Tch.up T34) hO') (glob_on (Tch.up T34) hg') (reps_cons (rep_on (Tch.up T34) g1') reps_nil)
  go_wp2_with (first | (refine wpT_pure rfl rfl rfl rfl (fun _ _ => ?_)) | (refine wpT_look rfl rfl rfl (fun _ _ => ?_)))
  refine wpT_call rfl rfl rfl (fun K1 hK1 => ?_)
  go_wp2_with (go_at_call 68; refine (callsIn_wide.1 hV).mono ?_; rintro e W5 ⟨u5, y, rfl, rfl, hu5, T5⟩)
  refine hK1 _ _ T5.ext ?_
  have T35 := T34.then0 T5
  have hS := Pure.at' (sorted_pure p.labels (by omega)) 3 (below_on (Tch.up T35) hO') (glob_on (Tch.up T35) hg') (reps_cons hu5 reps_nil)
  refine wpT_call rfl rfl rfl (fun K2 hK2 => ?_)
  go_wp2_with (go_at_call 67; refine (callsIn_wide.1 hS).mono ?_; rintro e W6 ⟨u6, y, rfl, rfl, hu6, T6⟩)
  refine hK2 _ _ T6.ext ?_
  have T36 := T35.then0 T6
  have hOr := Pure.at' (orders_pure p (sortI p.labels)) 3 (below_on (Tch.up T36) hO') (glob_on (Tch.up T36) hg') (reps_cons (rep_on (Tch.up T36) hv') (reps_cons hu6 reps_nil))
  refine wpT_call rfl rfl rfl (fun K3 hK3 => ?_)
  go_wp2_with (go_at_call 66; refine (callsIn_wide.1 hOr).mono ?_; rintro e W7 ⟨u7, y, rfl, rfl, hu7, T7⟩)
  refine hK3 _ _ T7.ext ?_
  go_wp2_with (first | (refine wpT_pure rfl rfl rfl rfl (fun _ _ => ?_)) | refine wpT_nil ?_)
  have T37 := T36.then0 T7
  have F1 := heap_on T37 H1
  have F2 := heap_on T37 H2
  have F6 := heap_on T37 H6
  have F7 := heap_on T37 H7
  have F8 := heap_on T37 H8
  have hs7 := T37.size
  have hO7 := below_on (Tch.up T37) hO'
  have hg7 := glob_on (Tch.up (O := O3) T37) hg'
  have hv7 := rep_on (Tch.up (O := O3) T37) hv'
  have TW := T3.then0 T37
  clear hV hS hOr hK1 hK2 hK3 e1 e2 G1
  refine wpIn_block ?_
  refine wpIn_itr (C := C1) (formO p) O3 hO7 rfl (fun W t hs => ?_) (fun R S pre W => S = O3 ∧ FormI p b6 b7 b8 (b2 :: O) W7 R pre W) (fun _ _ _ _ => False) (fun R S pre A B hR h t => ⟨h.1, formI_abides (by omega) (by omega) (by omega) hR h.2 t⟩) (fun _ _ _ _ _ _ h _ => h) (fun R W hR t => ⟨rfl, ?_⟩) ?_ ?_ (fun _ _ _ _ _ _ _ _ _ _ h => h.elim)
  · have LW : Later O3 W7 (W7.heap.size :: (W7.heap.size + 1) :: O3) W := later_new t (fun x hx => by
      rcases List.mem_cons.1 hx with rfl | hx
      · left; omega
      rcases List.mem_cons.1 hx with rfl | hx
      · left; omega
      · exact .inr hx)
    exact orders_seq h8 (by omega) (fun b hb => by
      rcases List.mem_cons.1 hb with rfl | hb
      · omega
      rcases List.mem_cons.1 hb with rfl | hb
      · omega
      · have := hO7 b hb; omega) (glob_later LW hg7) (hu7.later LW)
  · exact ⟨t.mono (by simp), heap_on t F6, heap_on t F7, heap_on t F8⟩
  · intro l R S pre x v A hl hlR hR hSA hSR hI hpx hrep hsz hRA
    obtain ⟨hSO, hI⟩ := hI
    rw [hSO] at hrep
    rw [hSO]
    clear hSA hSR hSO
    rw [show C1.P = Tryz.prog from rfl]
    obtain ⟨av, cv, rfl, _, _⟩ := rep_list_shape hrep
    gi_wp2
    refine ⟨Tch.refl _ _, fun A2 TA2 => ?_⟩
    have hI2 := formI_abides (by omega) (by omega) (by omega) hR hI (TA2.mono (T := R) (by simpa using hlR))
    have hrep2 := rep_on (TA2.mono (T := O3 ++ R) (by simp [hlR])) hrep
    have hRA2 : ∀ r ∈ R, r < A2.heap.size := fun r hr => Nat.lt_of_lt_of_le (hRA r hr) TA2.size
    clear hI hrep hRA TA2 hsz
    obtain ⟨tA, hst⟩ := hI2
    have n1 : b1 ∉ [b6, b7, b8] ++ R := fun hm => by
      simp only [List.cons_append, List.nil_append, List.mem_cons] at hm
      rcases hm with hm | hm | hm | hm
      · omega
      · omega
      · omega
      · have := hR _ hm; omega
    have A1 := heap_ne tA F1 n1
    have LA : Later O3 W7 (O3 ++ R) A2 := ⟨tA.size, fun b hb hn => tA.blk b hb (fun hm => by
      rcases List.mem_append.1 hm with hm | hm
      · exact hn (by rw [← hO3]; exact List.mem_append_left _ hm)
      · have := hR _ hm; omega), fun b hn hb hm => by
      rcases List.mem_append.1 hm with hm | hm
      · exact hn hm
      · have := hR _ hm; omega⟩
    have hOA : ∀ b ∈ O3 ++ R, b < A2.heap.size := fun b hb => by
      rcases List.mem_append.1 hb with hb | hb
      · have := hO7 b hb; have := tA.size; omega
      · exact hRA2 b hb
    have hxm : x ∈ formO p := hpx.subset (by simp)
    have hord := (mem_formO (n := p.labels.length) ⟨rfl, (pErr_none hp).2.1, (pErr_none hp).2.2⟩).1 hxm
    have hTu := Pure.at' (pturn_pure p hp hE x ((ordR_is (by rw [hord.1.1]; omega)).2 (by rw [hord.1.1]; exact hord.1)) hord.1.1) 1 hOA (glob_later LA hg7) (reps_cons (hv7.later LA) (reps_cons hrep2 reps_nil))
    have e1 : A2.cell? ⟨b1, 0, none⟩ = some (Value.slice a1 p.labels.length c1) := by simp only [World.cell?, A1]; rfl
    have e2 : A2.cell? ⟨b1, 1, none⟩ = some (Value.slice a2 p.edges.length c2) := by simp only [World.cell?, A1]; rfl
    have hTu : CallsIn Fence.wide 1 Tryz.prog 24 _ A2 _ := hTu.mono (R' := fun e B => ∃ d1 m1 d2 m2, e = .returned (.tuple #[.agg #[.slice d1 (turnP p x).labels.length m1, .slice d2 (turnP p x).edges.length m2], .nilIface]) ∧ Rep (O3 ++ R) B (dPt (turnP p x)) (.agg #[.slice d1 (turnP p x).labels.length m1, .slice d2 (turnP p x).edges.length m2]) ∧ Tch [] A2 B) (by
      rintro e B ⟨u, y, rfl, rfl, hu, t⟩
      obtain ⟨d1, m1, d2, m2, rfl, h⟩ := rep_tup_pt hu
      exact ⟨d1, m1, d2, m2, rfl, h, t⟩)
    split at hst
    · rename_i hfold
      obtain ⟨g6, g7, g8⟩ := hst
      gi_wp2_with (refine ⟨trivial, ?_⟩; gi_at_call 24; refine (CallsIn.inRound l hTu).mono ?_; rintro e A3 ⟨d1, m1, d2, m2, rfl, huT, T3⟩; have G6 := heap_on (T3.andAlloc (Obj.cells #[Value.slice d1 (turnP p x).labels.length m1, Value.slice d2 (turnP p x).edges.length m2] 35)) g6; have G7 := heap_on (T3.andAlloc (Obj.cells #[Value.slice d1 (turnP p x).labels.length m1, Value.slice d2 (turnP p x).edges.length m2] 35)) g7; have G8 := heap_on (T3.andAlloc (Obj.cells #[Value.slice d1 (turnP p x).labels.length m1, Value.slice d2 (turnP p x).edges.length m2] 35)) g8; have E8 : (A3.alloc (Obj.cells #[Value.slice d1 (turnP p x).labels.length m1, Value.slice d2 (turnP p x).edges.length m2] 35)).cell? ⟨b8, 0, none⟩ = some (Value.bool true) := by (simp only [World.cell?, G8]; rfl))
      refine ⟨trivial, ?_⟩
      obtain ⟨A4, hA4⟩ : ∃ A4, A3.alloc (Obj.cells #[Value.slice d1 (turnP p x).labels.length m1, Value.slice d2 (turnP p x).edges.length m2] 35) = A4 := ⟨_, rfl⟩
      have T4 : Tch [] A3 A4 := by rw [← hA4]; exact Tch.alloc _ _ _
      have G10 : A4.heap[A3.heap.size]? = some (Obj.cells #[Value.slice d1 (turnP p x).labels.length m1, Value.slice d2 (turnP p x).edges.length m2] 35) := by rw [← hA4]; exact World.alloc_heap_new _ _
      rw [hA4] at G6 G7 G8 E8
      rw [hA4]
      obtain ⟨b10, hb10⟩ : ∃ b, A3.heap.size = b := ⟨_, rfl⟩
      rw [hb10] at G10
      simp only [hb10]
      have hs23 := T3.size
      have hsA := tA.size
      have q1 : ¬ b10 = b6 := by omega
      have q2 : ¬ b10 = b7 := by omega
      have q3 : ¬ b10 = b8 := by omega
      have q4 : ¬ b6 = b7 := by omega
      have q5 : ¬ b6 = b8 := by omega
      have q6 : ¬ b7 = b8 := by omega
      have q4' : ¬ b7 = b6 := by omega
      have q5' : ¬ b8 = b6 := by omega
      have q6' : ¬ b8 = b7 := by omega
      have c10 : A4.cell? ⟨b10, 0, none⟩ = some (Value.slice d1 (turnP p x).labels.length m1) := by simp only [World.cell?, G10]; rfl
      have c10' : A4.cell? ⟨b10, 1, none⟩ = some (Value.slice d2 (turnP p x).edges.length m2) := by simp only [World.cell?, G10]; rfl
      have c6 : A4.cell? ⟨b6, 0, none⟩ = some (Value.slice none 0 0) := by simp only [World.cell?, G6]; rfl
      have c6' : A4.cell? ⟨b6, 1, none⟩ = some (Value.slice none 0 0) := by simp only [World.cell?, G6]; rfl
      have c7 : A4.cell? ⟨b7, 0, none⟩ = some (Value.slice none 0 0) := by simp only [World.cell?, G7]; rfl
      have f6 : A4.frozen? ⟨b6, 0, none⟩ = false := by simp [World.frozen?, G6]
      have f6' : A4.frozen? ⟨b6, 1, none⟩ = false := by simp [World.frozen?, G6]
      have f7 : A4.frozen? ⟨b7, 0, none⟩ = false := by simp [World.frozen?, G7]
      have f8 : A4.frozen? ⟨b8, 0, none⟩ = false := by simp [World.frozen?, G8]
      clear hA4
      gi_wp2
      have hfold2 : (pre ++ [x]).foldl (stepB p) none = some (turnP p x, x) := by rw [List.foldl_append, hfold]; rfl
      have hpo : PtOk p.labels.length p := ⟨rfl, (pErr_none hp).2.1, (pErr_none hp).2.2⟩
      have := form_store (O := b2 :: O) q4 q5 q6 tA (T3.then0 T4) G6 G7 G8 hfold2 (by rw [hO3]; exact rep_on (Tch.up T4) huT) (by rw [hO3]; exact rep_on (Tch.up (T3.then0 T4)) hrep2) ⟨by rw [turnP_len]; omega, by rw [turnP_edge_len hord.1 hpo]; exact hE⟩
      rw [hO3] at this
      exact ⟨O3, Grow.same this.2 (fun b hb => hOA b (List.mem_append_left _ hb)), rfl, this.1⟩
    · rename_i q b hfold
      obtain ⟨u1, u2, u3, g6, g7, g8, r6, r7, hq1, hq2⟩ := hst
      obtain ⟨s1, n1', s2, n2', eu, _⟩ := rep_pt r6
      simp only [Value.agg.injEq, Array.mk.injEq, List.cons.injEq, and_true] at eu
      obtain ⟨rfl, rfl⟩ := eu
      gi_wp2_with (refine ⟨trivial, ?_⟩; gi_at_call 24; refine (CallsIn.inRound l hTu).mono ?_; rintro e A3 ⟨d1, m1, d2, m2, rfl, huT, T3⟩; obtain ⟨E8, E6, E6', E10, E10'⟩ := turn_facts (ty := 35) T3 g6 g8 (Value.slice d1 (turnP p x).labels.length m1) (Value.slice d2 (turnP p x).edges.length m2))
      obtain ⟨A4, hA4⟩ : ∃ A4, A3.alloc (Obj.cells #[Value.slice d1 (turnP p x).labels.length m1, Value.slice d2 (turnP p x).edges.length m2] 35) = A4 := ⟨_, rfl⟩
      have T4 : Tch [] A3 A4 := by rw [← hA4]; exact Tch.alloc _ _ _
      have T24 := T3.then0 T4
      have G10 : A4.heap[A3.heap.size]? = some (Obj.cells #[Value.slice d1 (turnP p x).labels.length m1, Value.slice d2 (turnP p x).edges.length m2] 35) := by rw [← hA4]; exact World.alloc_heap_new _ _
      rw [hA4]
      rw [hO3] at r6 r7
      have hTuA : Tch (O3 ++ R) A2 A4 := Tch.up T24
      have hpo : PtOk p.labels.length p := ⟨rfl, (pErr_none hp).2.1, (pErr_none hp).2.2⟩
      have hl1 : (turnP p x).labels.length ≤ 1000 := by rw [turnP_len]; omega
      have hl2 : (turnP p x).edges.length ≤ 1000 := by rw [turnP_edge_len hord.1 hpo]; exact hE
      have hCm := Pure.at' (ptcompare_pure (turnP p x) q (by omega) (by omega) (by omega) (by omega)) 1 (below_on hTuA hOA) (glob_on hTuA (glob_later LA hg7)) (reps_cons (rep_on (Tch.up T4) huT) (reps_cons (rep_on hTuA r6) reps_nil))
      have hCm : CallsIn Fence.wide 1 Tryz.prog 26 _ A4 _ := hCm.mono (R' := fun e B => e = .returned (.int .i64 (cmpP (turnP p x) q)) ∧ Tch [] A4 B) (by
        rintro e B ⟨u, y, rfl, rfl, hu, t⟩
        obtain ⟨cs, hcs, rfl⟩ := hu
        simp only [RepC] at hcs
        subst hcs
        exact ⟨rfl, t⟩)
      refine ⟨trivial, (CallsIn.inRound l hCm).mono ?_⟩
      rintro e A5 ⟨rfl, T5⟩
      have T25 := T24.then0 T5
      have G6 := heap_on T25 g6
      have G7 := heap_on T25 g7
      have G8 := heap_on T25 g8
      have G10 := heap_on T5 G10
      obtain ⟨b10, hb10⟩ : ∃ b, A3.heap.size = b := ⟨_, rfl⟩
      rw [hb10] at G10
      simp only [hb10]
      have hs23 := T3.size
      have hsA := tA.size
      have q1 : ¬ b10 = b6 := by omega
      have q2 : ¬ b10 = b7 := by omega
      have q3 : ¬ b10 = b8 := by omega
      have q4 : ¬ b6 = b7 := by omega
      have q5 : ¬ b6 = b8 := by omega
      have q6 : ¬ b7 = b8 := by omega
      have q4' : ¬ b7 = b6 := by omega
      have q5' : ¬ b8 = b6 := by omega
      have q6' : ¬ b8 = b7 := by omega
      have c10 : A5.cell? ⟨b10, 0, none⟩ = some (Value.slice d1 (turnP p x).labels.length m1) := by simp only [World.cell?, G10]; rfl
      have c10' : A5.cell? ⟨b10, 1, none⟩ = some (Value.slice d2 (turnP p x).edges.length m2) := by simp only [World.cell?, G10]; rfl
      have f6 : A5.frozen? ⟨b6, 0, none⟩ = false := by simp [World.frozen?, G6]
      have f6' : A5.frozen? ⟨b6, 1, none⟩ = false := by simp [World.frozen?, G6]
      have f7 : A5.frozen? ⟨b7, 0, none⟩ = false := by simp [World.frozen?, G7]
      have f8 : A5.frozen? ⟨b8, 0, none⟩ = false := by simp [World.frozen?, G8]
      have c6 : A5.cell? ⟨b6, 0, none⟩ = some (Value.slice s1 q.labels.length n1') := by simp only [World.cell?, G6]; rfl
      have c6' : A5.cell? ⟨b6, 1, none⟩ = some (Value.slice s2 q.edges.length n2') := by simp only [World.cell?, G6]; rfl
      have c7 : A5.cell? ⟨b7, 0, none⟩ = some u3 := by simp only [World.cell?, G7]; rfl
      have c8 : A5.cell? ⟨b8, 0, none⟩ = some (Value.bool false) := by simp only [World.cell?, G8]; rfl
      clear hA4 E8 E6 E6' E10 E10'
      by_cases hlt : cmpP (turnP p x) q < 0
      · have hfold2 : (pre ++ [x]).foldl (stepB p) none = some (turnP p x, x) := by rw [List.foldl_append, hfold]; simp only [List.foldl_cons, List.foldl_nil, stepB]; rw [if_pos hlt]
        gi_wp2
        have := form_store (O := b2 :: O) q4 q5 q6 tA T25 G6 G7 G8 hfold2 (by rw [hO3]; exact rep_on (Tch.up (T4.then0 T5)) huT) (by rw [hO3]; exact rep_on (Tch.up T25) hrep2) ⟨hl1, hl2⟩
        rw [hO3] at this
        exact ⟨O3, Grow.same this.2 (fun b hb => hOA b (List.mem_append_left _ hb)), rfl, this.1⟩
      · have hfold2 : (pre ++ [x]).foldl (stepB p) none = some (q, b) := by rw [List.foldl_append, hfold]; simp only [List.foldl_cons, List.foldl_nil, stepB]; rw [if_neg hlt]
        gi_wp2
        refine ⟨O3, Grow.same (Tch.up T25) (fun b hb => hOA b (List.mem_append_left _ hb)), rfl, tA.then0 T25, ?_⟩
        rw [hfold2]
        rw [hO3]
        exact ⟨_, _, _, G6, G7, G8, rep_on (Tch.up T25) r6, rep_on (Tch.up T25) r7, hq1, hq2⟩
  · intro D R S W hD hDR hR hSR hI ht hDef
    gi_wp2
    have hpo : PtOk p.labels.length p := ⟨rfl, (pErr_none hp).2.1, (pErr_none hp).2.2⟩
    obtain ⟨_, tW, hst⟩ := hI
    rw [show (formO p).foldl (stepB p) none = some (formP p, byP p) from (form_spec hpo).1] at hst
    obtain ⟨u1, u2, u3, g6, g7, g8, r6, r7, _, _⟩ := hst
    obtain ⟨s1, n1', s2, n2', eu, _⟩ := rep_pt r6
    simp only [Value.agg.injEq, Array.mk.injEq, List.cons.injEq, and_true] at eu
    obtain ⟨rfl, rfl⟩ := eu
    obtain ⟨s3, n3', rfl, _, _⟩ := rep_list_shape (l := byP p) r7
    have n2 : b2 ∉ [b6, b7, b8] ++ R := fun hm => by
      simp only [List.cons_append, List.nil_append, List.mem_cons] at hm
      rcases hm with hm | hm | hm | hm
      · omega
      · omega
      · omega
      · have := hR _ hm; omega
    have g2' := heap_ne tW F2 n2
    refine wpIn_wide.2 ?_
    refine wp_region_2g [] [1, 1, 3, 0, 0] 1 2 [0, 1, 2, 3, 4] [0, 0, 3, 7, 15] [0, 2, 1, 3, 4] [0, 5, 1, 7, 15] (by kernel_rfl) (by decide) (by kernel_rfl) (by kernel_rfl) ?_ ?_
    · intro V TV
      have c6 : V.cell? ⟨b6, 0, none⟩ = some (Value.slice s1 (formP p).labels.length n1') := by simp only [World.cell?, heap_on TV g6]; rfl
      have c6' : V.cell? ⟨b6, 1, none⟩ = some (Value.slice s2 (formP p).edges.length n2') := by simp only [World.cell?, heap_on TV g6]; rfl
      have c7 : V.cell? ⟨b7, 0, none⟩ = some (Value.slice s3 (byP p).length n3') := by simp only [World.cell?, heap_on TV g7]; rfl
      have c2 : V.cell? ⟨b2, 0, none⟩ = some (Value.slice none 0 0) := by simp only [World.cell?, heap_on TV g2']; rfl
      have c2' : V.cell? ⟨b2, 1, none⟩ = some (Value.slice none 0 0) := by simp only [World.cell?, heap_on TV g2']; rfl
      have f2 : V.frozen? ⟨b2, 0, none⟩ = false := by simp [World.frozen?, heap_on TV g2']
      have f2' : V.frozen? ⟨b2, 1, none⟩ = false := by simp [World.frozen?, heap_on TV g2']
      have q27 : ¬ b2 = b7 := by omega
      have q72 : ¬ b7 = b2 := by omega
      have HTV := hid TV
      clear TV
      go_wp2_with (first | (refine wpT_pure rfl rfl rfl rfl (fun _ _ => ?_)) | (refine wpT_look rfl rfl rfl (fun _ _ => ?_)))
      refine wpT_one rfl rfl rfl (fun K1 hK1 => ?_)
      go_wp2_with (first | (refine wpT_pure rfl rfl rfl rfl (fun _ _ => ?_)) | (refine wpT_look rfl rfl rfl (fun _ _ => ?_)) | refine wpT_nil ?_)
      gi_wp2
      exact form_end (X := O3 ++ R) (fun b hb => List.mem_append_left _ (by rw [← hO3]; simp [hb])) (List.mem_append_left _ (by rw [← hO3]; simp)) (by omega) (List.mem_append_right _ hDR) (by omega) (by omega) (TW.trans tW (fun _ h => h) (fun x hx => by
        simp only [List.cons_append, List.nil_append, List.mem_cons] at hx
        rcases hx with hx | hx | hx | hx
        · right; omega
        · right; omega
        · right; omega
        · right; have := hR _ hx; omega)) HTV.out (by rw [← hO3]; exact r6) (by rw [← hO3]; exact r7) hDef g2' rfl rfl rfl
    · intro V TV
      have c6 : V.cell? ⟨b6, 0, none⟩ = some (Value.slice s1 (formP p).labels.length n1') := by simp only [World.cell?, heap_on TV g6]; rfl
      have c6' : V.cell? ⟨b6, 1, none⟩ = some (Value.slice s2 (formP p).edges.length n2') := by simp only [World.cell?, heap_on TV g6]; rfl
      have c7 : V.cell? ⟨b7, 0, none⟩ = some (Value.slice s3 (byP p).length n3') := by simp only [World.cell?, heap_on TV g7]; rfl
      have c2 : V.cell? ⟨b2, 0, none⟩ = some (Value.slice none 0 0) := by simp only [World.cell?, heap_on TV g2']; rfl
      have c2' : V.cell? ⟨b2, 1, none⟩ = some (Value.slice none 0 0) := by simp only [World.cell?, heap_on TV g2']; rfl
      have f2 : V.frozen? ⟨b2, 0, none⟩ = false := by simp [World.frozen?, heap_on TV g2']
      have f2' : V.frozen? ⟨b2, 1, none⟩ = false := by simp [World.frozen?, heap_on TV g2']
      have q27 : ¬ b2 = b7 := by omega
      have q72 : ¬ b7 = b2 := by omega
      have HTV := hid TV
      clear TV
      go_wp2_with (first | (refine wpT_pure rfl rfl rfl rfl (fun _ _ => ?_)) | (refine wpT_look rfl rfl rfl (fun _ _ => ?_)))
      refine wpT_one rfl rfl rfl (fun K1 hK1 => ?_)
      go_wp2_with (first | (refine wpT_pure rfl rfl rfl rfl (fun _ _ => ?_)) | (refine wpT_look rfl rfl rfl (fun _ _ => ?_)) | refine wpT_nil ?_)
      gi_wp2
      exact form_end (X := O3 ++ R) (fun b hb => List.mem_append_left _ (by rw [← hO3]; simp [hb])) (List.mem_append_left _ (by rw [← hO3]; simp)) (by omega) (List.mem_append_right _ hDR) (by omega) (by omega) (TW.trans tW (fun _ h => h) (fun x hx => by
        simp only [List.cons_append, List.nil_append, List.mem_cons] at hx
        rcases hx with hx | hx | hx | hx
        · right; omega
        · right; omega
        · right; omega
        · right; have := hR _ hx; omega)) HTV.out (by rw [← hO3]; exact r6) (by rw [← hO3]; exact r7) hDef g2' rfl rfl rfl
end Go.Proofs.YthegabgbakckfaaGreatDoor
end

section
/- canon.maps: what its iterator owes. -/
namespace Go.Proofs.YthegabgbakckfaaGreatDoor
open Go.Sx Go.RowKit Go.Reg Go.Gr

set_option maxRecDepth 100000
attribute [local go_sem] Oper.semAt_some
/-- the iterator of canon.maps -/
def mapsD (p q : Pt) : Da := .func (.func 145) [] [.ref (dPt p), .ref (dPt q)]
def pl_cmp : List (Nat × Plan) := []
def G_cmp : List FuncId := []
theorem cok_cmp : codeOk Tryz.prog G_cmp pl_cmp (Tryz.f95.body.getD .skip) = true := by kernel_rfl
theorem run_cmp (vs : Array Value) (w : World) : (callFunc 95 vs).run C1.P w = .ok (.enter 95 vs) w := by kernel_rfl
theorem maps_pure (p q : Pt) : Pure C1 95 [dPt p, dPt q] (fun y => y = mapsD p q) := by
  refine pure_of c1_ok (pl := pl_cmp) (G := G_cmp) Tryz.func95 rfl Tryz.ntmps95 run_cmp cok_cmp (by simp) ?_
  ((conv => whnf); repeat' ((first | refine odw ?_ | refine ify ?_ | refine ifn ?_ | refine i6 ?_ | refine ati ?_ | refine mst ?_ | refine rmd ?_ | refine ibo (fun _ => ?_) (fun _ => ?_)) <;> conv => whnf))
  exact rfl
theorem right_at {p : Pt} (hp : pErr p = none) (hE : p.edges.length ≤ 1000) (n : Nat) {O : List Nat} {W : World} {v : Value} (hO : ∀ b ∈ O, b < W.heap.size) (hg : Glob C1 O W) (hv : Rep O W (dPt p) v) :
    CallsIn Fence.wide n Tryz.prog 49 #[v] W fun e B => e = .returned .nilIface ∧ Tch [] W B := by
  have hri := pright_pure p (by have := (lErr_none (pErr_none hp).1).1; omega) (by omega)
  rw [rightP_none hp] at hri
  refine (Pure.at' hri n hO hg (reps_cons hv reps_nil)).mono ?_
  rintro e B ⟨u, y, rfl, rfl, ⟨cs, hcs, rfl⟩, t⟩
  simp only [RepC] at hcs
  subst hcs
  exact ⟨rfl, t⟩
theorem turn_at {p : Pt} (hp : pErr p = none) (hE : p.edges.length ≤ 1000) {x : List Int} (hx : IsOrd p.labels.length x) (n : Nat) {O : List Nat} {W : World} {v u : Value} (hO : ∀ b ∈ O, b < W.heap.size) (hg : Glob C1 O W) (hv : Rep O W (dPt p) v) (hu : Rep O W (dInts x) u) :
    CallsIn Fence.wide n Tryz.prog 24 #[v, u] W fun e B => ∃ d1 m1 d2 m2, e = .returned (.tuple #[.agg #[.slice d1 (turnP p x).labels.length m1, .slice d2 (turnP p x).edges.length m2], .nilIface]) ∧ Rep O B (dPt (turnP p x)) (.agg #[.slice d1 (turnP p x).labels.length m1, .slice d2 (turnP p x).edges.length m2]) ∧ Tch [] W B := by
  have h8 := (lErr_none (pErr_none hp).1).1
  refine (Pure.at' (pturn_pure p hp hE x ((ordR_is (by rw [hx.1]; omega)).2 (by rw [hx.1]; exact hx)) hx.1) n hO hg (reps_cons hv (reps_cons hu reps_nil))).mono ?_
  rintro e B ⟨u, y, rfl, rfl, hu, t⟩
  obtain ⟨d1, m1, d2, m2, rfl, h⟩ := rep_tup_pt hu
  exact ⟨d1, m1, d2, m2, rfl, h, t⟩
theorem cmp_at {p q : Pt} (h1 : p.labels.length ≤ 1000) (h2 : q.labels.length ≤ 1000) (h3 : p.edges.length ≤ 1000) (h4 : q.edges.length ≤ 1000) (n : Nat) {O : List Nat} {W : World} {v u : Value} (hO : ∀ b ∈ O, b < W.heap.size) (hg : Glob C1 O W) (hv : Rep O W (dPt p) v) (hu : Rep O W (dPt q) u) :
    CallsIn Fence.wide n Tryz.prog 26 #[v, u] W fun e B => e = .returned (.int .i64 (cmpP p q)) ∧ Tch [] W B := by
  refine (Pure.at' (ptcompare_pure p q (by omega) (by omega) (by omega) (by omega)) n hO hg (reps_cons hv (reps_cons hu reps_nil))).mono ?_
  rintro e B ⟨u, y, rfl, rfl, ⟨cs, hcs, rfl⟩, t⟩
  simp only [RepC] at hcs
  subst hcs
  exact ⟨rfl, t⟩
theorem ref_pt {O : List Nat} {W : World} {p : Pt} {c : List Value} (h : ∃ b o c', c = [Value.pointer (some ⟨b, o, none⟩)] ∧ b ∉ O ∧ b < W.heap.size ∧ RepC O W (dPt p) c' ∧ Cells W b o c') :
    ∃ b o a1 c1 a2 c2, c = [Value.pointer (some ⟨b, o, none⟩)] ∧ b ∉ O ∧ b < W.heap.size ∧ W.cell? ⟨b, o, none⟩ = some (.slice a1 p.labels.length c1) ∧ W.cell? ⟨b, o + 1, none⟩ = some (.slice a2 p.edges.length c2) ∧
      Rep O W (dPt p) (.agg #[.slice a1 p.labels.length c1, .slice a2 p.edges.length c2]) ∧ Rep O W (dIs p.labels) (.slice a1 p.labels.length c1) := by
  obtain ⟨b, o, c', rfl, hb, hbl, hr, hc⟩ := h
  have hr' := hr
  simp only [dPt, RepC, RepCs] at hr
  obtain ⟨k1, k2, rfl, r1, k3, k4, rfl, r2, rfl⟩ := hr
  obtain ⟨a1, c1, rfl, g1, _⟩ := rep_list_val r1
  obtain ⟨a2, c2, rfl, g2, _⟩ := rep_list_val r2
  rw [List.length_map] at g1 g2
  have e1 := hc 0 _ rfl
  have e2 := hc 1 _ rfl
  rw [List.length_map] at e1 e2
  refine ⟨b, o, a1, c1, a2, c2, rfl, hb, hbl, e1, e2, ⟨_, hr', ?_⟩, g1⟩
  rw [List.length_map, List.length_map]; rfl
theorem round_wide {n m l l' : Nat} {P : Program} {f : FuncId} {tmps : Array Value} {assign body : Code} {w : World} {R : Ending → World → Prop} (h : RoundIn Fence.wide n P l f tmps assign body w R) : RoundIn (Fence.wide.inRound l') m P l f tmps assign body w R :=
  ⟨trivial, fun c cs _ => h.2 c cs (room_wide _)⟩
theorem maps_nil {p q : Pt} (h : p.labels.length ≠ q.labels.length) : mapsP p q = [] := by
  unfold mapsP
  rw [List.filter_eq_nil_iff]
  intro o _ hd
  have := (torP.eq0 _ _).1 (of_decide_eq_true hd)
  exact h (by rw [← this, turnP_len])
set_option maxHeartbeats 1000000 in
theorem maps_seq {p q : Pt} (hp : pErr p = none) (hq : pErr q = none) (hE : p.edges.length ≤ 1000) (hE' : q.edges.length ≤ 1000) {O : List Nat} {l : Nat} {W : World} {fv : Value} (hO : ∀ b ∈ O, b < W.heap.size) (hg : Glob C1 O W) (hr : Rep O W (mapsD p q) fv) :
    SeqAt C1 fv (mapsP p q) O l W := by
  obtain ⟨cs, r, rfl⟩ := hr
  rw [mapsD, RepC] at r
  simp only [RepCss] at r
  obtain ⟨fs, cs', rfl, ⟨k1, k2, rfl, r1, k3, k4, rfl, r2, rfl⟩, rfl⟩ := r
  rw [RepC] at r1 r2
  obtain ⟨b1, o1, a1, c1, a2, c2, rfl, hb1, hs1, e1, e1', rp, rp1⟩ := ref_pt r1
  obtain ⟨b2, o2, a3, c3, a4, c4, rfl, hb2, hs2, e2, e2', rq, rq1⟩ := ref_pt r2
  refine ⟨145, #[.pointer (some ⟨b1, o1, none⟩), .pointer (some ⟨b2, o2, none⟩)], rfl, fun _ _ => rfl, ?_⟩
  intro J Jx hJ hJx hY hj
  show CallsIn Fence.wide 3 Tryz.prog 145 _ W _
  refine callsIn_of_wp_marks (n := 3) Tryz.func145 rfl trivial ?_ rfl
  simp only [Tryz.ntmps145, List.size_toArray, List.length_cons, List.length_nil, Nat.reduceAdd, Nat.reduceSub, Array.replicate_succ, Array.replicate_zero, List.push_toArray, List.append_toArray, List.nil_append, List.cons_append]
  have T0 : Tch [] W (W.alloc (Obj.cells #[Value.func (.yield l) #[] #[]] 148)) := Tch.alloc _ _ _
  gi_wp2
  refine ⟨trivial, (right_at hp hE 2 (below_on (Tch.up T0) hO) (glob_on (Tch.up T0) hg) (rep_on (Tch.up T0) rp)).mono ?_⟩
  rintro e W1 ⟨rfl, T1⟩
  have T01 := T0.then0 T1
  have f1 := T01.cell e1 (by simp)
  have f1' := T01.cell e1' (by simp)
  have f2 := T01.cell e2 (by simp)
  have f2' := T01.cell e2' (by simp)
  have B3 := heap_on T1 (World.alloc_heap_new W (Obj.cells #[Value.func (.yield l) #[] #[]] 148))
  clear T0 T1
  gi_wp2
  refine ⟨trivial, (right_at hq hE' 2 (below_on (Tch.up T01) hO) (glob_on (Tch.up T01) hg) (rep_on (Tch.up T01) rq)).mono ?_⟩
  rintro e W2 ⟨rfl, T2⟩
  have T02 := T01.then0 T2
  have B3 := heap_on T2 B3
  clear f1 f1' f2 f2' T2 T01
  have f1 := T02.cell e1 (by simp)
  have f1' := T02.cell e1' (by simp)
  have f2 := T02.cell e2 (by simp)
  have f2' := T02.cell e2' (by simp)
  by_cases hl : p.labels.length = q.labels.length
  · have hl2 : ((p.labels.length : Int) != (q.labels.length : Int)) = false := by simp [hl]
    have HL := hid hl
    clear hl
    gi_wp2
    have hOr := Pure.at' (orders_pure p q.labels) 2 (below_on (Tch.up T02) hO) (glob_on (Tch.up T02) hg) (reps_cons (rep_on (Tch.up T02) rp) (reps_cons (rep_on (Tch.up T02) rq1) reps_nil))
    refine ⟨trivial, hOr.mono ?_⟩
    rintro e W3 ⟨u7, y, rfl, rfl, hu7, T3⟩
    have T03 := T02.then0 T3
    have B3 := heap_on T3 B3
    clear f1 f1' f2 f2' T3 T02 hOr
    obtain ⟨b3, hb3⟩ : ∃ b, W.heap.size = b := ⟨_, rfl⟩
    rw [hb3] at B3
    simp only [hb3]
    have hb3lt := (Array.getElem?_eq_some_iff.1 B3).1
    have hO3 := below_on (Tch.up T03) hO
    have hg3 := glob_on (Tch.up (O := O) T03) hg
    have rp3 := rep_on (Tch.up (O := O) T03) rp
    have rq3 := rep_on (Tch.up (O := O) T03) rq
    have h8 := (lErr_none (pErr_none hp).1).1
    have h8' := (lErr_none (pErr_none hq).1).1
    gi_wp2
    refine wpIn_itr (C := C1) (ordL p.labels q.labels p.labels.length []) O hO3 rfl (fun V t hs => ?_) (fun R S pre A => ((∀ b ∈ S, b ∈ O ∨ W3.heap.size ≤ b) ∧ Tch (O ++ R) W3 A) ∧ J R S (pre.filter fun o => decide (cmpP (turnP p o) q = 0)) A) (fun R S pre A => ((∀ b ∈ S, b ∈ O ∨ W3.heap.size ≤ b) ∧ Tch (O ++ R) W3 A) ∧ ∃ pre', pre' <+: mapsP p q ∧ Jx R S pre' A)
      (fun R S pre A B hR h t => ⟨⟨h.1.1, h.1.2.trans0 (t.mono (by simp +contextual))⟩, hJ _ _ _ _ _ (fun r hr => by have := hR r hr; have := T03.size; omega) h.2 t⟩)
      (fun R S pre A B hR h t => ⟨⟨h.1.1, h.1.2.trans0 (t.mono (by simp +contextual))⟩, h.2.imp fun pre' h' => ⟨h'.1, hJx _ _ _ _ _ (fun r hr => by have := hR r hr; have := T03.size; omega) h'.2 t⟩⟩)
      (fun R V hR t => ⟨⟨fun b hb => .inl hb, t.mono (by simp)⟩, hJ _ _ _ _ _ (fun r hr => by have := hR r hr; have := T03.size; omega) (hj R (fun r hr => by have := hR r hr; have := T03.size; omega)) ((T03.then0 t).mono (by simp))⟩) ?_ ?_ ?_
    · have LW : Later O W3 (W3.heap.size :: (W3.heap.size + 1) :: O) V := later_new t (fun x hx => by
        rcases List.mem_cons.1 hx with rfl | hx
        · left; omega
        rcases List.mem_cons.1 hx with rfl | hx
        · left; omega
        · exact .inr hx)
      exact orders_seq h8 h8' (fun b hb => by
        rcases List.mem_cons.1 hb with rfl | hb
        · omega
        rcases List.mem_cons.1 hb with rfl | hb
        · omega
        · have := hO3 b hb; omega) (glob_later LW hg3) (hu7.later LW)
    · intro l' R S pre x v A hl hlR hR hSA hSR hI hpx hrep hsz hRA
      rw [show C1.P = Tryz.prog from rfl]
      obtain ⟨av, cv, rfl, _, _⟩ := rep_list_shape hrep
      gi_wp2
      refine ⟨Tch.refl _ _, fun A2 TA2 => ?_⟩
      have hR' : ∀ r ∈ R, W.heap.size ≤ r := fun r hr => by have := hR r hr; have := T03.size; omega
      have hSn := hI.1.1
      have hSA2 : ∀ b ∈ S, b < A2.heap.size := fun b hb => Nat.lt_of_lt_of_le (hSA b hb) TA2.size
      have TA : Tch (O ++ R) W3 A2 := hI.1.2.trans0 (TA2.mono (by simp [hlR]))
      have hJ2 := hJ _ _ _ _ _ hR' hI.2 (TA2.mono (T := R) (by simpa using hlR))
      have hrep2 := rep_on (TA2.mono (T := S ++ R) (by simp [hlR])) hrep
      have hRA2 : ∀ r ∈ R, r < A2.heap.size := fun r hr => Nat.lt_of_lt_of_le (hRA r hr) TA2.size
      clear hI hrep hRA TA2 hsz hSA
      have nOR : ∀ b, b ∉ O → b < W3.heap.size → b ∉ O ++ R := fun b h1 h2 hm => by
        rcases List.mem_append.1 hm with hm | hm
        · exact h1 hm
        · have := hR b hm; omega
      have hs03 := T03.size
      have n1 := nOR b1 hb1 (by omega)
      have n2 := nOR b2 hb2 (by omega)
      have n3 := nOR b3 (fun hm => by have := hO b3 hm; omega) hb3lt
      have LA : Later O W3 (S ++ R) A2 := ⟨TA.size, fun b hb hn => TA.blk b hb (nOR b hn hb), fun b hn hb hm => by
        rcases List.mem_append.1 hm with hm | hm
        · rcases hSn b hm with h | h
          · exact hn h
          · omega
        · have := hR b hm; omega⟩
      have hOA : ∀ b ∈ S ++ R, b < A2.heap.size := fun b hb => by
        rcases List.mem_append.1 hb with hb | hb
        · exact hSA2 b hb
        · exact hRA2 b hb
      have f1 := TA.cell (T03.cell e1 (by simp)) n1
      have f1' := TA.cell (T03.cell e1' (by simp)) n1
      have f2 := TA.cell (T03.cell e2 (by simp)) n2
      have f2' := TA.cell (T03.cell e2' (by simp)) n2
      have C3 := heap_ne TA B3 n3
      have hxm : x ∈ ordL p.labels q.labels p.labels.length [] := hpx.subset (by simp)
      have hord := ((mem_ords (n := p.labels.length) HL.out.symm).1 hxm).1
      have hpo : PtOk p.labels.length p := ⟨rfl, (pErr_none hp).2.1, (pErr_none hp).2.2⟩
      gi_wp2
      refine ⟨trivial, (CallsIn.inRound l' (turn_at hp hE hord 1 hOA (glob_later LA hg3) (rp3.later LA) hrep2)).mono ?_⟩
      rintro e A3 ⟨d1, m1, d2, m2, rfl, huT, TT⟩
      have TT4 : Tch [] A2 (A3.alloc (Obj.cells #[Value.slice d1 (turnP p x).labels.length m1, Value.slice d2 (turnP p x).edges.length m2] 35)) := TT.andAlloc _
      have G10 := World.alloc_heap_new A3 (Obj.cells #[Value.slice d1 (turnP p x).labels.length m1, Value.slice d2 (turnP p x).edges.length m2] 35)
      have E10 : (A3.alloc (Obj.cells #[Value.slice d1 (turnP p x).labels.length m1, Value.slice d2 (turnP p x).edges.length m2] 35)).cell? ⟨A3.heap.size, 0, none⟩ = some (Value.slice d1 (turnP p x).labels.length m1) := by simp only [World.cell?, G10]; rfl
      have E10' : (A3.alloc (Obj.cells #[Value.slice d1 (turnP p x).labels.length m1, Value.slice d2 (turnP p x).edges.length m2] 35)).cell? ⟨A3.heap.size, 1, none⟩ = some (Value.slice d2 (turnP p x).edges.length m2) := by simp only [World.cell?, G10]; rfl
      have f2 := TT4.cell f2 (by simp)
      have f2' := TT4.cell f2' (by simp)
      have C3 := heap_on TT4 C3
      gi_wp2
      refine ⟨trivial, (CallsIn.inRound l' (cmp_at (p := turnP p x) (q := q) (by rw [turnP_len]; omega) (by omega) (by rw [turnP_edge_len hord hpo]; exact hE) hE' 1 (below_on (Tch.up TT4) hOA) (glob_on (Tch.up TT4) (glob_later LA hg3)) (rep_on (Tch.up (Tch.alloc _ _ _)) huT) (rep_on (Tch.up TT4) (rq3.later LA)))).mono ?_⟩
      rintro e A5 ⟨rfl, T5⟩
      have T25 := TT4.then0 T5
      have C3 := heap_on T5 C3
      have c3 : A5.cell? ⟨b3, 0, none⟩ = some (Value.func (.yield l) #[] #[]) := by simp only [World.cell?, C3]; rfl
      clear G10 E10 E10' f1 f1' f2 f2' T5 TT
      by_cases heq : cmpP (turnP p x) q = 0
      · have heq2 : (cmpP (turnP p x) q == 0) = true := by simpa using heq
        have hfl : (pre ++ [x]).filter (fun o => decide (cmpP (turnP p o) q = 0)) = pre.filter (fun o => decide (cmpP (turnP p o) q = 0)) ++ [x] := by rw [List.filter_append]; simp [heq]
        have hpm : pre.filter (fun o => decide (cmpP (turnP p o) q = 0)) ++ [x] <+: mapsP p q := by rw [← hfl]; exact hpx.filter _
        have hYA : YieldAt Fence.wide 2 Tryz.prog l #[Value.slice av x.length cv] A5 _ := hY R S _ x _ A5 hR' (fun b hb => Nat.lt_of_lt_of_le (hSA2 b hb) T25.size) (hJ _ _ _ _ _ hR' hJ2 (T25.mono (by simp))) hpm (rep_on (Tch.up T25) hrep2) ⟨by have := TA.size; have := T25.size; omega, fun r hr => Nat.lt_of_lt_of_le (hRA2 r hr) T25.size⟩
        obtain ⟨fn, tmps, assign, body, hy, hRd⟩ := hYA
        gi_wp2
        refine (round_wide hRd).mono ?_
        rintro e B ⟨S', hg2, hor⟩
        have TB : Tch (O ++ R) W3 B := (TA.then0 T25).trans hg2.tch (fun _ h => h) (fun b hb => (hSn b hb).imp (fun h => List.mem_append_left _ h) id)
        have hSn' : ∀ b ∈ S', b ∈ O ∨ W3.heap.size ≤ b := fun b hb => (hg2.new b hb).elim (fun h => hSn b h) (fun h => .inr (by have := TA.size; have := T25.size; omega))
        have hgr : Grow S A2 S' B := (Grow.same (Tch.up T25) hSA2).trans hg2
        rcases hor with ⟨rfl, hj2⟩ | ⟨rfl, hx2⟩
        · gi_wp2
          have hres : ((∀ b ∈ S', b ∈ O ∨ W3.heap.size ≤ b) ∧ Tch (O ++ R) W3 B) ∧ J R S' ((pre ++ [x]).filter fun o => decide (cmpP (turnP p o) q = 0)) B := ⟨⟨hSn', TB⟩, by rw [hfl]; exact hj2⟩
          exact ⟨S', hgr, hres⟩
        · gi_wp2
          have hres : ((∀ b ∈ S', b ∈ O ∨ W3.heap.size ≤ b) ∧ Tch (O ++ R) W3 B) ∧ ∃ pre', pre' <+: mapsP p q ∧ Jx R S' pre' B := ⟨⟨hSn', TB⟩, _, hpm, hx2⟩
          exact ⟨S', hgr, hres⟩
      · have heq2 : (cmpP (turnP p x) q == 0) = false := by simpa using heq
        have hfl : (pre ++ [x]).filter (fun o => decide (cmpP (turnP p o) q = 0)) = pre.filter (fun o => decide (cmpP (turnP p o) q = 0)) := by rw [List.filter_append]; simp [heq]
        gi_wp2
        refine ⟨(fun f hf => by cases hf), ?_⟩
        gi_wp2
        have hres : ((∀ b ∈ S, b ∈ O ∨ W3.heap.size ≤ b) ∧ Tch (O ++ R) W3 A5) ∧ J R S ((pre ++ [x]).filter fun o => decide (cmpP (turnP p o) q = 0)) A5 := ⟨⟨hSn, TA.then0 T25⟩, by rw [hfl]; exact hJ _ _ _ _ _ hR' hJ2 (T25.mono (by simp))⟩
        exact ⟨S, Grow.same (Tch.up T25) hSA2, hres⟩
    · intro D R S V hD hDR hR hSR hI ht hDef
      have hR' : ∀ r ∈ R, W.heap.size ≤ r := fun r hr => by have := hR r hr; have := T03.size; omega
      have TP : Tch (O ++ R) V (V.putObj D (.deferred none)) := (tch_putObj _ _ _).mono (by simp [hDR])
      gi_wp2
      refine ⟨by simp, .inl ⟨D, _, rfl, run_takeDeferred hDef, ?_⟩⟩
      exact ⟨_, results_none rfl _ _ _, ⟨_, rfl⟩, R, S, hR', (T03.ahead0 hI.1.2).trans0 TP, fun b hb => (hI.1.1 b hb).imp id (fun h => by have := T03.size; omega), .inl (hJ _ _ _ _ _ hR' hI.2 ((tch_putObj _ _ _).mono (by simp [hDR])))⟩
    · intro D R S pre V hD hDR hR hSR hpre hI ht hDef
      have hR' : ∀ r ∈ R, W.heap.size ≤ r := fun r hr => by have := hR r hr; have := T03.size; omega
      have TP : Tch (O ++ R) V (V.putObj D (.deferred none)) := (tch_putObj _ _ _).mono (by simp [hDR])
      gi_wp2
      refine ⟨by simp, .inl ⟨D, _, rfl, run_takeDeferred hDef, ?_⟩⟩
      obtain ⟨pre', h1, h2⟩ := hI.2
      exact ⟨_, results_none rfl _ _ _, ⟨_, rfl⟩, R, S, hR', (T03.ahead0 hI.1.2).trans0 TP, fun b hb => (hI.1.1 b hb).imp id (fun h => by have := T03.size; omega), .inr ⟨pre', h1, hJx _ _ _ _ _ hR' h2 ((tch_putObj _ _ _).mono (by simp [hDR]))⟩⟩
  · have hl2 : ((p.labels.length : Int) != (q.labels.length : Int)) = true := by simp; omega
    gi_wp2
    exact ⟨_, results_none rfl _ _ _, ⟨_, rfl⟩, [], O, by simp, Tch.up T02, fun b hb => .inl hb, .inl (by rw [maps_nil hl]; exact hJ [] O [] W W2 (by simp) (hj [] (by simp)) T02)⟩
end Go.Proofs.YthegabgbakckfaaGreatDoor
end

section
/- canon.Map. -/
namespace Go.Proofs.YthegabgbakckfaaGreatDoor
open Go.Sx Go.RowKit Go.Reg Go.Gr

set_option maxRecDepth 100000
attribute [local go_sem] Oper.semAt_some
def mapY (p q : Pt) : Da := match mapsP p q with
  | [] => .tuple [.nils, .bool false]
  | m :: _ => .tuple [dIs m, .bool true]
theorem results_cc {fn : Func} {P : Program} {t u ty ty' : Nat} (h : fn.results = #[.cell t ty, .cell u ty']) {tmps : Array Value} {W : World} {b b' : Nat} {x y : Value} (ht : tmps.getD t undef = .pointer (some ⟨b, 0, none⟩)) (hl : (loadVar ty ⟨b, 0, none⟩).run P W = .ok x W)
    (hu : tmps.getD u undef = .pointer (some ⟨b', 0, none⟩)) (hl' : (loadVar ty' ⟨b', 0, none⟩).run P W = .ok y W) :
    (results fn tmps).run P W = .ok (.tuple #[x, y]) W := by
  have hm : (fn.results.mapM (resV tmps)).run P W = .ok #[x, y] W := by
    rw [h, Array.mapM_eq_mapM_toList, Sem.run_map]
    have : (List.mapM (resV tmps) #[ResultVar.cell t ty, ResultVar.cell u ty'].toList).run P W = .ok [x, y] W := by
      simp only [List.mapM_cons, List.mapM_nil, resV, Sem.run_bind, Sem.run_pure, ht, hu, asAddr, Result.andThen_ok, hl, hl']
    rw [this]; rfl
  rw [results_eq, Sem.run_bind, hm]
  simp
/-- the end of Map -/
theorem map_end {d : Da} {O X : List Nat} {w W V : World} {b4 b5 D : Nat} {tmps : Array Value} {u : Value} {ok : Bool} (hX : ∀ b ∈ O, b ∈ X) (hDR : D ∈ X) (hDw : w.heap.size ≤ D) (hn4 : ¬ b4 = D) (hn5 : ¬ b5 = D)
    (TW : Tch [] w W) (TV : Tch [b4, b5] W V) (h4X : b4 ∈ X) (h5X : b5 ∈ X) (h4w : w.heap.size ≤ b4) (h5w : w.heap.size ≤ b5) (_r : Rep X W d u) (hd1 : toV d [u] = u) (hd2 : RepC X W d [u]) (hDef : W.heap[D]? = some (.deferred (some []))) (g4 : V.heap[b4]? = some (Obj.cells #[u] 22)) (g5 : V.heap[b5]? = some (Obj.cells #[.bool ok] 4))
    (e4 : tmps.getD 4 undef = .pointer (some ⟨b4, 0, none⟩)) (e5 : tmps.getD 5 undef = .pointer (some ⟨b5, 0, none⟩)) :
    bodyPostM Fence.wide 4 Tryz.prog Tryz.f38 (fun e w' => ∃ v y, e = Ending.returned v ∧ y = Da.tuple [d, .bool ok] ∧ Rep O w' y v ∧ Tch [] w w') Exit.ret { tmps := tmps, defers := [{ target := .collected D, args := #[] }] } V := by
  have hDV : V.heap[D]? = some (.deferred (some [])) := heap_ne TV hDef (fun hm => by
    simp only [List.mem_cons, List.not_mem_nil, or_false] at hm
    rcases hm with rfl | rfl
    · exact hn4 rfl
    · exact hn5 rfl)
  have TE : Tch [b4, b5, D] W (V.putObj D (.deferred none)) := (TV.mono (by simp +contextual)).trans0 ((tch_putObj _ _ _).mono (by simp))
  have G4 : (V.putObj D (.deferred none)).heap[b4]? = some (Obj.cells #[u] 22) := (World.putObj_heap_other (fun e => hn4 e)).trans g4
  have G5 : (V.putObj D (.deferred none)).heap[b5]? = some (Obj.cells #[.bool ok] 4) := (World.putObj_heap_other (fun e => hn5 e)).trans g5
  have LX : Later X W O (V.putObj D (.deferred none)) := ⟨TE.size, fun b hb hn => TE.blk b hb (fun hm => by
    simp only [List.mem_cons, List.not_mem_nil, or_false] at hm
    rcases hm with rfl | rfl | rfl
    · exact hn h4X
    · exact hn h5X
    · exact hn hDR), fun b hn _ hm => hn (hX b hm)⟩
  have TF : Tch [] w (V.putObj D (.deferred none)) := TW.trans TE (fun _ h => h) (fun x hx => by
    simp only [List.mem_cons, List.not_mem_nil, or_false] at hx
    rcases hx with rfl | rfl | rfl
    · exact .inr h4w
    · exact .inr h5w
    · exact .inr hDw)
  have l4 : (loadVar 22 ⟨b4, 0, none⟩).run Tryz.prog (V.putObj D (.deferred none)) = .ok u (V.putObj D (.deferred none)) := by
    have := run_loadVar_ok (P := Tryz.prog) (c1_ok.ty (t := 22) rfl) (w := V.putObj D (.deferred none)) (b := b4) (o := 0) (cs := [u]) (fun j x hj => by
      cases j with
      | zero => simp only [World.cell?, G4]; simpa using hj
      | succ j => simp at hj) rfl (fun _ => rfl)
    exact this
  have l5 : (loadVar 4 ⟨b5, 0, none⟩).run Tryz.prog (V.putObj D (.deferred none)) = .ok (.bool ok) (V.putObj D (.deferred none)) := by
    have := run_loadVar_ok (P := Tryz.prog) (c1_ok.ty (t := 4) rfl) (w := V.putObj D (.deferred none)) (b := b5) (o := 0) (cs := [.bool ok]) (fun j x hj => by
      cases j with
      | zero => simp only [World.cell?, G5]; simpa using hj
      | succ j => simp at hj) rfl (fun _ => rfl)
    exact this
  refine ⟨by simp, .inl ⟨D, _, rfl, run_takeDeferred hDV, ?_⟩⟩
  refine ⟨_, results_cc Tryz.results38 e4 l4 e5 l5, _, _, rfl, rfl, ?_, TF⟩
  refine ⟨[_], by simp only [RepC]; exact ⟨[[u], [.bool ok]], by simp only [RepCss]; exact ⟨[u], _, rfl, RepC.later LX _ _ hd2, [.bool ok], _, rfl, by simp only [RepC], rfl⟩, rfl⟩, ?_⟩
  simp only [List.zipWith_cons_cons, List.zipWith_nil_left]
  rw [hd1]
  rfl
set_option maxHeartbeats 1000000 in
theorem map_pure {p q : Pt} (hp : pErr p = none) (hq : pErr q = none) (hE : p.edges.length ≤ 1000) (hE' : q.edges.length ≤ 1000) : Pure C1 38 [dPt p, dPt q] (fun y => y = mapY p q) := by
  intro O w vs hO hg hr
  obtain ⟨v, vs', rfl, hv, hr'⟩ := reps_inv hr
  obtain ⟨v', vs'', rfl, hv', hr''⟩ := reps_inv hr'
  obtain rfl := reps_inv0 hr''
  obtain ⟨a1, c1, a2, c2, rfl, g1, _⟩ := rep_pt hv
  obtain ⟨a3, c3, a4, c4, rfl, g2, _⟩ := rep_pt hv'
  refine ⟨by kernel_rfl, ?_⟩
  show Calls Tryz.prog _ _ _ _
  refine callsIn_wide.1 (callsIn_of_wp_marks (n := 4) Tryz.func38 rfl trivial ?_ rfl)
  simp only [Tryz.ntmps38, List.size_toArray, List.length_cons, List.length_nil, Nat.reduceAdd, Nat.reduceSub, Array.replicate_succ, Array.replicate_zero, List.push_toArray, List.append_toArray, List.nil_append, List.cons_append]
  gi_wp2
  obtain ⟨W0, hW0⟩ : ∃ W0, (((w.alloc (Obj.cells #[Value.slice a1 p.labels.length c1, Value.slice a2 p.edges.length c2] 35)).alloc (Obj.cells #[Value.slice a3 q.labels.length c3, Value.slice a4 q.edges.length c4] 35)).alloc (Obj.cells #[Value.slice none 0 0] 22)).alloc (Obj.cells #[Value.bool false] 4) = W0 := ⟨_, rfl⟩
  have T0 : Tch [] w W0 := by rw [← hW0]; exact (((Tch.alloc _ _ []).andAlloc _).andAlloc _).andAlloc _
  have hs0 : W0.heap.size = w.heap.size + 4 := by rw [← hW0]; simp
  have H4 : W0.heap[w.heap.size + 1 + 1]? = some (Obj.cells #[Value.slice none 0 0] 22) := by
    rw [← hW0]; refine heap_on (Tch.alloc _ _ []) ?_
    have := World.alloc_heap_new ((w.alloc (Obj.cells #[Value.slice a1 p.labels.length c1, Value.slice a2 p.edges.length c2] 35)).alloc (Obj.cells #[Value.slice a3 q.labels.length c3, Value.slice a4 q.edges.length c4] 35)) (Obj.cells #[Value.slice none 0 0] 22)
    rwa [World.size_alloc, World.size_alloc] at this
  have H5 : W0.heap[w.heap.size + 1 + 1 + 1]? = some (Obj.cells #[Value.bool false] 4) := by
    rw [← hW0]
    have := World.alloc_heap_new (((w.alloc (Obj.cells #[Value.slice a1 p.labels.length c1, Value.slice a2 p.edges.length c2] 35)).alloc (Obj.cells #[Value.slice a3 q.labels.length c3, Value.slice a4 q.edges.length c4] 35)).alloc (Obj.cells #[Value.slice none 0 0] 22)) (Obj.cells #[Value.bool false] 4)
    rwa [World.size_alloc, World.size_alloc, World.size_alloc] at this
  rw [hW0]
  clear hW0
  obtain ⟨b4, hb4⟩ : ∃ b, w.heap.size + 1 + 1 = b := ⟨_, rfl⟩
  obtain ⟨b5, hb5⟩ : ∃ b, b4 + 1 = b := ⟨_, rfl⟩
  rw [hb4, hb5] at H5
  rw [hb4] at H4
  simp only [hb4]
  simp only [hb5]
  obtain ⟨O3, hO3⟩ : ∃ O3, [b4, b5] ++ O = O3 := ⟨_, rfl⟩
  have LO : Later O w O3 W0 := later_new T0 (fun x hx => by
    rw [← hO3] at hx
    simp only [List.cons_append, List.nil_append, List.mem_cons] at hx
    rcases hx with rfl | rfl | hx
    · left; omega
    · left; omega
    · exact .inr hx)
  have hO' : ∀ b ∈ O3, b < W0.heap.size := fun b hb => by
    rw [← hO3] at hb
    simp only [List.cons_append, List.nil_append, List.mem_cons] at hb
    rcases hb with rfl | rfl | hb
    · omega
    · omega
    · have := hO b hb; omega
  have hg' : Glob C1 O3 W0 := glob_later LO hg
  have hM := Pure.at' (maps_pure p q) 3 hO' hg' (reps_cons (hv.later LO) (reps_cons (hv'.later LO) reps_nil))
  refine ⟨trivial, hM.mono ?_⟩
  rintro e W1 ⟨u9, y, rfl, rfl, hu9, T1⟩
  have H4 := heap_on T1 H4
  have H5 := heap_on T1 H5
  have hs1 := T1.size
  have T01 := T0.then0 T1
  have hO1 := below_on (Tch.up T1) hO'
  have hg1 := glob_on (Tch.up (O := O3) T1) hg'
  have m4 : b4 ∈ O3 := by rw [← hO3]; simp
  have m5 : b5 ∈ O3 := by rw [← hO3]; simp
  have q45 : ¬ b4 = b5 := by omega
  have q54 : ¬ b5 = b4 := by omega
  clear hM hg'
  gi_wp2
  refine wpIn_itr (C := C1) (mapsP p q) O3 hO1 rfl (fun V t hs => ?_) (fun R S pre V => S = O3 ∧ Tch ([b4, b5] ++ R) W1 V ∧ pre = [] ∧ V.heap[b4]? = some (Obj.cells #[Value.slice none 0 0] 22) ∧ V.heap[b5]? = some (Obj.cells #[Value.bool false] 4))
    (fun R S pre V => Tch ([b4, b5] ++ R) W1 V ∧ ∃ m u, pre = [m] ∧ V.heap[b4]? = some (Obj.cells #[u] 22) ∧ V.heap[b5]? = some (Obj.cells #[Value.bool true] 4) ∧ Rep (O3 ++ R) V (dInts m) u)
    (fun R S pre A B hR h t => ⟨h.1, h.2.1.trans0 (t.mono (by simp +contextual)), h.2.2.1, heap_ne t h.2.2.2.1 (fun hm => by have := hR _ hm; omega), heap_ne t h.2.2.2.2 (fun hm => by have := hR _ hm; omega)⟩)
    (fun R S pre A B hR h t => ⟨h.1.trans0 (t.mono (by simp +contextual)), h.2.imp fun m h' => h'.imp fun u h'' => ⟨h''.1, heap_ne t h''.2.1 (fun hm => by have := hR _ hm; omega), heap_ne t h''.2.2.1 (fun hm => by have := hR _ hm; omega), rep_on (t.mono (by simp +contextual)) h''.2.2.2⟩⟩)
    (fun R V hR t => ⟨rfl, t.mono (by simp), rfl, heap_on t H4, heap_on t H5⟩) ?_ ?_ ?_
  · have LW : Later O3 W1 (W1.heap.size :: (W1.heap.size + 1) :: O3) V := later_new t (fun x hx => by
      rcases List.mem_cons.1 hx with rfl | hx
      · left; omega
      rcases List.mem_cons.1 hx with rfl | hx
      · left; omega
      · exact .inr hx)
    exact maps_seq hp hq hE hE' (fun b hb => by
      rcases List.mem_cons.1 hb with rfl | hb
      · omega
      rcases List.mem_cons.1 hb with rfl | hb
      · omega
      · have := hO1 b hb; omega) (glob_later LW hg1) (hu9.later LW)
  · intro l R S pre x v A hl hlR hR hSA hSR hI hpx hrep hsz hRA
    rw [show C1.P = Tryz.prog from rfl]
    obtain ⟨rfl, tA, rfl, g4, g5⟩ := hI
    obtain ⟨av, cv, rfl, _, _⟩ := rep_list_shape hrep
    gi_wp2
    refine ⟨Tch.refl _ _, fun A2 TA2 => ?_⟩
    have n4 : b4 ∉ R := fun hm => by have := hR _ hm; omega
    have n5 : b5 ∉ R := fun hm => by have := hR _ hm; omega
    have tA := tA.trans0 (TA2.mono (T := [b4, b5] ++ R) (by simp [hlR]))
    have g4 := heap_ne TA2 g4 (fun hm => n4 (by simp at hm; rw [hm]; exact hlR))
    have g5 := heap_ne TA2 g5 (fun hm => n5 (by simp at hm; rw [hm]; exact hlR))
    have hrep2 := rep_on (TA2.mono (T := S ++ R) (by simp [hlR])) hrep
    have hSA2 : ∀ b ∈ S, b < A2.heap.size := fun b hb => Nat.lt_of_lt_of_le (hSA b hb) TA2.size
    clear hrep hRA TA2 hsz
    have c4 : A2.cell? ⟨b4, 0, none⟩ = some (Value.slice none 0 0) := by simp only [World.cell?, g4]; rfl
    have c5 : A2.cell? ⟨b5, 0, none⟩ = some (Value.bool false) := by simp only [World.cell?, g5]; rfl
    have f4 : A2.frozen? ⟨b4, 0, none⟩ = false := by simp [World.frozen?, g4]
    have f5 : A2.frozen? ⟨b5, 0, none⟩ = false := by simp [World.frozen?, g5]
    gi_wp2
    have TS : Tch [b4, b5] A2 ((A2.setCell ⟨b4, 0, none⟩ (Value.slice av x.length cv)).setCell ⟨b5, 0, none⟩ (Value.bool true)) := ((Tch.refl [b4, b5] A2).andSet (.inl (by simp)) _).andSet (.inl (by simp)) _
    have hpost : Tch ([b4, b5] ++ R) W1 ((A2.setCell ⟨b4, 0, none⟩ (Value.slice av x.length cv)).setCell ⟨b5, 0, none⟩ (Value.bool true)) ∧ ∃ m u, ([] ++ [x]) = [m] ∧ ((A2.setCell ⟨b4, 0, none⟩ (Value.slice av x.length cv)).setCell ⟨b5, 0, none⟩ (Value.bool true)).heap[b4]? = some (Obj.cells #[u] 22) ∧ ((A2.setCell ⟨b4, 0, none⟩ (Value.slice av x.length cv)).setCell ⟨b5, 0, none⟩ (Value.bool true)).heap[b5]? = some (Obj.cells #[Value.bool true] 4) ∧ Rep (S ++ R) ((A2.setCell ⟨b4, 0, none⟩ (Value.slice av x.length cv)).setCell ⟨b5, 0, none⟩ (Value.bool true)) (dInts m) u :=
      ⟨tA.trans0 (TS.mono (by simp +contextual)), x, _, rfl, heap_set q54 (Boxed.set _ g4), Boxed.set _ (heap_set q45 g5), rep_on (TS.mono (by simp [m4, m5])) hrep2⟩
    exact ⟨S, Grow.same (TS.mono (by simp [m4, m5])) hSA2, hpost⟩
  · intro D R S V hD hDR hR hSR hI ht hDef
    obtain ⟨_, tV, hnil, g4, g5⟩ := hI
    have hy : mapY p q = .tuple [.nils, .bool false] := by unfold mapY; rw [hnil]
    have c4 : V.cell? ⟨b4, 0, none⟩ = some (Value.slice none 0 0) := by simp only [World.cell?, g4]; rfl
    have c5 : V.cell? ⟨b5, 0, none⟩ = some (Value.bool false) := by simp only [World.cell?, g5]; rfl
    have f4 : V.frozen? ⟨b4, 0, none⟩ = false := by simp [World.frozen?, g4]
    have f5 : V.frozen? ⟨b5, 0, none⟩ = false := by simp [World.frozen?, g5]
    gi_wp2
    rw [hy]
    exact map_end (X := O3 ++ R) (b4 := b4) (b5 := b5) (fun b hb => List.mem_append_left _ (by rw [← hO3]; simp [hb])) (List.mem_append_right _ hDR) (by omega) (by omega) (by omega) (T01.trans tV (fun _ h => h) (fun x hx => by
      simp only [List.cons_append, List.nil_append, List.mem_cons] at hx
      rcases hx with hx | hx | hx
      · right; omega
      · right; omega
      · right; have := hR _ hx; omega)) (((Tch.refl [b4, b5] V).andSet (.inl (by simp)) _).andSet (.inl (by simp)) _) (List.mem_append_left _ m4) (List.mem_append_left _ m5) (by omega) (by omega) ⟨[.slice none 0 0], by simp only [RepC], rfl⟩ rfl (by simp only [RepC]; rfl) hDef (heap_set q54 (Boxed.set _ g4)) (Boxed.set _ (heap_set q45 g5)) rfl rfl
  · intro D R S pre V hD hDR hR hSR hpre hI ht hDef
    obtain ⟨tV, m, u, rfl, g4, g5, r⟩ := hI
    have hy : mapY p q = .tuple [dInts m, .bool true] := by
      unfold mapY
      obtain ⟨t, e⟩ := hpre
      rw [← e]; rfl
    rw [show C1.P = Tryz.prog from rfl]
    gi_wp2
    rw [hy]
    obtain ⟨su, nu, rfl, _, _⟩ := rep_list_shape r
    obtain ⟨cu, hcu, ecu⟩ := id r
    obtain ⟨a9, c9, rfl, _⟩ := rep_list_val hcu
    exact map_end (X := O3 ++ R) (b4 := b4) (b5 := b5) (fun b hb => List.mem_append_left _ (by rw [← hO3]; simp [hb])) (List.mem_append_right _ hDR) (by omega) (by omega) (by omega) (T01.trans tV (fun _ h => h) (fun x hx => by
      simp only [List.cons_append, List.nil_append, List.mem_cons] at hx
      rcases hx with hx | hx | hx
      · right; omega
      · right; omega
      · right; have := hR _ hx; omega)) (Tch.refl _ _) (List.mem_append_left _ m4) (List.mem_append_left _ m5) (by omega) (by omega) r rfl (by rw [ecu]; exact hcu) hDef g4 g5 rfl rfl
end Go.Proofs.YthegabgbakckfaaGreatDoor
end

section
/- slices.AppendSeq, Collect of an iterator that yields lists of ints; canon.Own. -/
namespace Go.Proofs.YthegabgbakckfaaGreatDoor
open Go.Sx Go.RowKit Go.Reg Go.Gr

set_option maxRecDepth 100000
attribute [local go_sem] Oper.semAt_some
theorem wpListIn_append_run {F : Fence} {n : Nat} {P : Program} {w w' : World} {ops : Array Oper} {rest : List Oper} {o : Oper} {a : Act} {Q : Exit → Act → World → Prop} (hg : o.guard = none) (s x : Operand) (t : TypeId)
    (hop : o.op = Op.call { callee := Callee.builtin Builtin.append, args := #[s, x], argTypes := #[t, t] }) {v y v' : Value} (hs : a.eval s = v) (hx : a.eval x = y) (hrun : (Builtin.append_ #[t, t] o.type #[v, y]).run P w = .ok v' w')
    (hK : wpListIn F n P ops Q rest (a.put o.dst v') w') : wpListIn F n P ops Q (o :: rest) a w := by
  refine wpListIn_plain hg fun K hK' => ?_
  unfold Oper.wpIn
  refine ⟨?_, ?_⟩
  · simp [Oper.about, hop, resolve, Target.leads, Sem.run_pure]
  · rw [Oper.semAt_plain F _ _ (by rw [hop]; intro c hc'; cases hc')]
    simp [execOp, hop, resolve, invoke, builtin, hs, hx, hrun, Result.andThen]
    exact hK' _ _ hK
theorem rep_cell {O : List Nat} {w : World} {l : List Int} {v : Value} (h : Rep O w (dInts l) v) : RepC O w (dInts l) [v] := by
  obtain ⟨cs, h1, rfl⟩ := h
  obtain ⟨a, c, rfl, _⟩ := rep_list_val h1
  exact h1
/-- what the loop of AppendSeq keeps -/
def ColI (b2 : Nat) (O : List Nat) (W1 : World) (R S : List Nat) (pre : List (List Int)) (A : World) : Prop :=
  (∀ b ∈ b2 :: O, b ∈ S) ∧ Tch (b2 :: R) W1 A ∧ ∃ v css, A.heap[b2]? = some (Obj.cells #[v] 31) ∧ Sl 22 1 id A v css ∧ (∀ b, v.ownBlock = some b → b ∈ S ∧ b ∉ R ∧ W1.heap.size ≤ b) ∧ RepCss (S ++ R) A (pre.map dInts) css ∧ ∀ x ∈ css, RowOk 1 x
theorem colI_abides {b2 : Nat} {O : List Nat} {W1 : World} {R S : List Nat} {pre : List (List Int)} {A B : World} (hb2 : b2 < W1.heap.size) (hR : ∀ r ∈ R, W1.heap.size ≤ r) (h : ColI b2 O W1 R S pre A) (t : Tch R A B) : ColI b2 O W1 R S pre B := by
  obtain ⟨h1, h2, v, css, h3, h4, h5, h6, h7⟩ := h
  exact ⟨h1, h2.trans0 (t.mono (by simp +contextual)), v, css, heap_ne t h3 (fun hm => by have := hR _ hm; omega), h4.keep t (fun b hb => (h5 b hb).2.1), h5, RepCss.later (Tch.later (t.mono (T := S ++ R) (by simp +contextual))) _ _ h6, h7⟩
set_option maxHeartbeats 1000000 in
theorem append_seq (xs : List (List Int)) (hxs : xs.length ≤ 1000000) {O : List Nat} {w : World} {fv : Value} (hO : ∀ b ∈ O, b < w.heap.size)
    (hseq : ∀ (O' : List Nat) (l : Nat) (W : World), Later O w O' W → (∀ b ∈ O', b < W.heap.size) → SeqAt C1 fv xs O' l W) :
    CallsIn Fence.wide 4 Tryz.prog 146 #[.slice none 0 0, fv] w fun e B => ∃ v, e = .returned v ∧ Rep O B (.list 1 (xs.map dInts)) v ∧ Tch [] w B := by
  refine callsIn_of_wp_marks (n := 4) Tryz.func146 rfl trivial ?_ rfl
  simp only [Tryz.ntmps146, List.size_toArray, List.length_cons, List.length_nil, Nat.reduceAdd, Nat.reduceSub, Array.replicate_succ, Array.replicate_zero, List.push_toArray, List.append_toArray, List.nil_append, List.cons_append]
  gi_wp2
  obtain ⟨W1, hW1⟩ : ∃ W1, w.alloc (Obj.cells #[Value.slice none 0 0] 31) = W1 := ⟨_, rfl⟩
  have T1 : Tch [] w W1 := by rw [← hW1]; exact Tch.alloc _ _ _
  have H2 : W1.heap[w.heap.size]? = some (Obj.cells #[Value.slice none 0 0] 31) := by rw [← hW1]; exact World.alloc_heap_new _ _
  rw [hW1]
  clear hW1
  obtain ⟨b2, hb2⟩ : ∃ b, w.heap.size = b := ⟨_, rfl⟩
  rw [hb2] at H2
  simp only [hb2]
  have hb2lt := (Array.getElem?_eq_some_iff.1 H2).1
  have hs1 := T1.size
  have hO1 : ∀ b ∈ b2 :: O, b < W1.heap.size := fun b hb => by
    rcases List.mem_cons.1 hb with rfl | hb
    · exact hb2lt
    · have := hO b hb; omega
  refine wpIn_itr (C := C1) xs (b2 :: O) hO1 rfl (fun V t hs => ?_) (ColI b2 O W1) (fun _ _ _ _ => False) (fun R S pre A B hR h t => colI_abides hb2lt hR h t) (fun _ _ _ _ _ _ h _ => h)
    (fun R V hR t => ⟨fun b hb => hb, t.mono (by simp), _, [], heap_on t H2, Sl.nil _ _ _ _, (fun b hb => by cases hb), by simp [RepCss], by simp⟩) ?_ ?_ (fun _ _ _ _ _ _ _ _ _ _ h => h.elim)
  · exact hseq _ _ _ (later_new (T1.then0 t) (fun x hx => by
      rcases List.mem_cons.1 hx with rfl | hx
      · left; omega
      rcases List.mem_cons.1 hx with rfl | hx
      · left; omega
      rcases List.mem_cons.1 hx with rfl | hx
      · left; omega
      · exact .inr hx)) (fun b hb => by
      rcases List.mem_cons.1 hb with rfl | hb
      · omega
      rcases List.mem_cons.1 hb with rfl | hb
      · omega
      · have := hO1 b hb; omega)
  · intro l R S pre x v A hl hlR hR hSA hSR hI hpx hrep hsz hRA
    rw [show C1.P = Tryz.prog from rfl]
    obtain ⟨av, cv, rfl, _, _⟩ := rep_list_shape hrep
    gi_wp2
    refine ⟨Tch.refl _ _, fun A2 TA2 => ?_⟩
    have hI := colI_abides hb2lt hR hI (TA2.mono (T := R) (by simpa using hlR))
    have hrep2 := rep_on (TA2.mono (T := S ++ R) (by simp [hlR])) hrep
    have hSA2 : ∀ b ∈ S, b < A2.heap.size := fun b hb => Nat.lt_of_lt_of_le (hSA b hb) TA2.size
    have hRA2 : ∀ r ∈ R, r < A2.heap.size := fun r hr => Nat.lt_of_lt_of_le (hRA r hr) TA2.size
    clear hrep TA2 hsz
    obtain ⟨h1, tA, u, css, g2, hsl, hown, hcss, hrow⟩ := hI
    have c2 : A2.cell? ⟨b2, 0, none⟩ = some u := by simp only [World.cell?, g2]; rfl
    have hb2S : b2 ∈ S := h1 b2 (by simp)
    have hpl : pre.length ≤ 1000000 := by
      have := hpx.length_le
      simp only [List.length_append, List.length_singleton] at this
      omega
    have hcl : css.length = pre.length := by rw [css_len hcss, List.length_map]
    have hcx := rep_cell hrep2
    have TA1 : Tch [] A2 (A2.alloc (Obj.cells #[Value.slice av x.length cv] 22)) := Tch.alloc _ _ _
    have hslA := hsl.keep TA1 (fun b _ => by simp)
    have hcellA : (A2.alloc (Obj.cells #[Value.slice av x.length cv] 22)).cell? ⟨A2.heap.size, 0, none⟩ = some (Value.slice av x.length cv) := by
      simp only [World.cell?]
      rw [World.alloc_heap_new]; rfl
    obtain ⟨v', A4, css2, ha1, ha2, ha3, ha4, ha5, ha6⟩ := append_any (P := Tryz.prog) (w := A2.alloc (Obj.cells #[Value.slice av x.length cv] 22)) (v := u) (vy := .slice (some ⟨A2.heap.size, 0, none⟩) 1 1) (c1_ok.ty (t := 31) rfl) rfl (c1_ok.ty (t := 22) rfl) (by decide) (by decide) hslA
      (O := S ++ R) (es := [dInts x]) ⟨⟨_, _, [[Value.slice av x.length cv]], rfl, by
        simp only [RepCss]
        refine ⟨[Value.slice av x.length cv], [], rfl, ?_, rfl⟩
        have h9 := RepC.later (Tch.later (Tch.up (O := S ++ R) TA1)) _ _ hcx
        exact h9, by intro y hy; simp at hy; subst hy; exact ⟨rfl, by intro z hz; simp at hz; subst hz; rfl⟩, .inr ⟨A2.heap.size, 0, rfl, fun j z hj => by
          cases j with
          | zero => simp at hj; subst hj; exact hcellA
          | succ j => simp at hj⟩⟩⟩ (by rw [hcl]; exact Nat.le_trans (m := 1000001) (by simp; omega) (by decide)) 31
    have hne : css ++ css2 ≠ [] := fun e => by
      have := css_len ha3
      rw [(List.append_eq_nil_iff.1 e).2] at this
      simp at this
    rcases ha2.shape with ⟨_, e⟩ | ⟨gv, cap, rfl, _⟩
    · exact absurd e hne
    have e9 : (css ++ css2).length = pre.length + css2.length := by rw [List.length_append, hcl]
    rw [e9] at ha1 ha2 ha6
    have g2A : A4.heap[b2]? = some (Obj.cells #[u] 31) := heap_ne ha5 (heap_on TA1 g2) (fun hm => by
      have h9 : u.ownBlock = some b2 := by simpa using hm
      have := (hown b2 h9).2.2; omega)
    have c2A : A4.cell? ⟨b2, 0, none⟩ = some u := by simp only [World.cell?, g2A]; rfl
    have f2A : A4.frozen? ⟨b2, 0, none⟩ = false := by simp [World.frozen?, g2A]
    have hgv : gv ∈ S ∨ A2.heap.size ≤ gv := by
      rcases ha6 with h | h
      · exact .inl (hown gv h.symm).1
      · right
        have : gv = (A2.alloc (Obj.cells #[Value.slice av x.length cv] 22)).heap.size := by simpa [Value.ownBlock] using h
        rw [this]; simp
    have hgvR : gv ∉ R := fun hm => by
      rcases hgv with h | h
      · exact hSR gv h hm
      · have := hRA2 gv hm; omega
    have hgvW : W1.heap.size ≤ gv := by
      rcases ha6 with h | h
      · exact (hown gv h.symm).2.2
      · rcases hgv with h2 | h2
        · have : gv = (A2.alloc (Obj.cells #[Value.slice av x.length cv] 22)).heap.size := by simpa [Value.ownBlock] using h
          rw [this]; have := tA.size; simp; omega
        · have := tA.size; omega
    have hgv2 : ¬ b2 = gv := by omega
    have TA4 : Tch S A2 A4 := (Tch.up TA1).trans0 (ha5.mono (fun b hb => by
      have : u.ownBlock = some b := by simpa using hb
      exact (hown b this).1))
    have hgvlt : gv < A4.heap.size := ha2.lt rfl
    gi_wp2_with (gi_at_builtin; refine wpListIn_append_run rfl _ _ _ rfl rfl rfl ha1 ?_)
    obtain ⟨vN, hvN⟩ : ∃ vN, Value.slice (some ⟨gv, 0, none⟩) (pre.length + css2.length) cap = vN := ⟨_, rfl⟩
    have hvo : vN.ownBlock = some gv := by rw [← hvN]; rfl
    rw [hvN] at ha2
    simp only [hvN]
    have TS : Tch [b2] A4 (A4.setCell ⟨b2, 0, none⟩ vN) := (Tch.refl [b2] A4).andSet (.inl (by simp)) _
    have T24 : Tch S A2 (A4.setCell ⟨b2, 0, none⟩ vN) := TA4.trans0 (TS.mono (by simpa using hb2S))
    have hgr : Grow S A2 (gv :: S) (A4.setCell ⟨b2, 0, none⟩ vN) := ⟨T24, fun b hb => by simp [hb], fun b hb => by
      rcases List.mem_cons.1 hb with rfl | hb
      · exact hgv
      · exact .inl hb, fun b hb => by
      rcases List.mem_cons.1 hb with rfl | hb
      · exact Nat.lt_of_lt_of_le hgvlt TS.size
      · exact Nat.lt_of_lt_of_le (hSA2 b hb) T24.size⟩
    have LS : Later (S ++ R) A2 (gv :: S ++ R) (A4.setCell ⟨b2, 0, none⟩ vN) := ⟨T24.size, fun b hb hn => T24.blk b hb (fun hm => hn (List.mem_append_left _ hm)), fun b hn hb hm => by
      simp only [List.cons_append, List.mem_cons, List.mem_append] at hm
      rcases hm with rfl | hm | hm
      · rcases hgv with h | h
        · exact hn (List.mem_append_left _ h)
        · omega
      · exact hn (List.mem_append_left _ hm)
      · exact hn (List.mem_append_right _ hm)⟩
    have hgvA : gv ∈ S ∨ (A2.alloc (Obj.cells #[Value.slice av x.length cv] 22)).heap.size ≤ gv := by
      rcases ha6 with h | h
      · exact .inl (hown gv h.symm).1
      · right
        have : gv = (A2.alloc (Obj.cells #[Value.slice av x.length cv] 22)).heap.size := by simpa [Value.ownBlock] using h
        omega
    have L2 : Later (S ++ R) (A2.alloc (Obj.cells #[Value.slice av x.length cv] 22)) (gv :: S ++ R) (A4.setCell ⟨b2, 0, none⟩ vN) := ⟨Nat.le_trans ha5.size TS.size, fun b hb hn => by
      rw [TS.blk b (Nat.lt_of_lt_of_le hb ha5.size) (fun hm => hn (List.mem_append_left _ (by rw [List.mem_singleton.1 hm]; exact hb2S)))]
      exact ha5.blk b hb (fun hm => hn (List.mem_append_left _ (hown b (by simpa using hm)).1)), fun b hn hb hm => by
      simp only [List.cons_append, List.mem_cons, List.mem_append] at hm
      rcases hm with rfl | hm | hm
      · rcases hgvA with h | h
        · exact hn (List.mem_append_left _ h)
        · omega
      · exact hn (List.mem_append_left _ hm)
      · exact hn (List.mem_append_right _ hm)⟩
    have TX : Tch (b2 :: u.ownBlock.toList) A2 (A4.setCell ⟨b2, 0, none⟩ vN) := ((Tch.up TA1).trans0 (ha5.mono (by simp +contextual))).trans0 (TS.mono (by simp))
    refine ⟨gv :: S, hgr, fun b hb => List.mem_cons_of_mem _ (h1 b hb), ?_, vN, css ++ css2, Boxed.set vN g2A, ha2.keep TS (fun b hb => by
      rw [hvo] at hb; cases hb; simp; omega), fun b hb => by
      rw [hvo] at hb; cases hb; exact ⟨by simp, hgvR, hgvW⟩, ?_, fun y hy => by
      rcases List.mem_append.1 hy with hy | hy
      · exact hrow y hy
      · exact ha4 y hy⟩
    · exact tA.trans TX (fun _ h => h) (fun b hb => by
        rcases List.mem_cons.1 hb with rfl | hb
        · left; simp
        · right; exact (hown b (by simpa using hb)).2.2)
    · rw [List.map_append]
      exact repCss_append (RepCss.later LS _ _ hcss) (RepCss.later L2 _ _ ha3)
  · intro D R S V hD hDR hR hSR hI ht hDef
    obtain ⟨h1, tV, u, css, g2, hsl, hown, hcss, hrow⟩ := hI
    have c2 : V.cell? ⟨b2, 0, none⟩ = some u := by simp only [World.cell?, g2]; rfl
    gi_wp2
    have TE : Tch (b2 :: R) W1 (V.putObj D (.deferred none)) := tV.trans0 ((tch_putObj _ _ _).mono (by simp [hDR]))
    have TP : Tch R V (V.putObj D (.deferred none)) := (tch_putObj _ _ _).mono (by simp [hDR])
    refine ⟨by simp, .inl ⟨D, _, rfl, run_takeDeferred hDef, ?_⟩⟩
    refine ⟨_, results_tmp rfl _ _ _, u, rfl, ?_, T1.trans TE (fun _ h => h) (fun b hb => by
      rcases List.mem_cons.1 hb with rfl | hb
      · right; omega
      · right; have := hR b hb; omega)⟩
    have LX : Later (S ++ R) V O (V.putObj D (.deferred none)) := ⟨TP.size, fun b hb hn => TP.blk b hb (fun hm => hn (List.mem_append_right _ hm)), fun b hn _ hm => hn (List.mem_append_left _ (h1 b (by simp [hm])))⟩
    exact rep_of_sl (hsl.keep TP (fun b hb => (hown b hb).2.1)) (fun b hb hm => by have := (hown b hb).2.2; have := hO b hm; omega) (RepCss.later LX _ _ hcss) hrow
theorem maps_le (p q : Pt) (h8 : p.labels.length ≤ 8) : (mapsP p q).length ≤ 40320 := by
  by_cases hl : p.labels.length = q.labels.length
  · have h1 : (mapsP p q).length ≤ (allO p.labels.length).length := nodup_len (maps_nodup p q) (fun o ho => by
      unfold mapsP at ho
      exact mem_allO.2 ((mem_ords hl.symm).1 (List.mem_filter.1 ho).1).1)
    rw [allO_len] at h1
    refine Nat.le_trans h1 ?_
    have : ∀ n, n ≤ 8 → facN n ≤ 40320 := by decide
    exact this _ h8
  · rw [maps_nil hl]; simp
theorem collect_pure {p q : Pt} (hp : pErr p = none) (hq : pErr q = none) (hE : p.edges.length ≤ 1000) (hE' : q.edges.length ≤ 1000) : Pure C1 96 [mapsD p q] (fun y => y = .list 1 ((mapsP p q).map dInts)) := by
  intro O w vs hO hg hr
  obtain ⟨fv, vs', rfl, hv, hr'⟩ := reps_inv hr
  obtain rfl := reps_inv0 hr'
  have h8 := (lErr_none (pErr_none hp).1).1
  have ha := append_seq (mapsP p q) (Nat.le_trans (maps_le p q h8) (by decide)) (fv := fv) hO (fun O' l W hL hO' => maps_seq hp hq hE hE' hO' (glob_later hL hg) (hv.later hL))
  refine ⟨by kernel_rfl, ?_⟩
  show Calls Tryz.prog _ _ _ _
  refine callsIn_wide.1 (callsIn_of_wp (n := 5) Tryz.func96 rfl trivial ?_ rfl)
  simp only [Tryz.ntmps96, List.size_toArray, List.length_cons, List.length_nil, Nat.reduceAdd, Nat.reduceSub, Array.replicate_succ, Array.replicate_zero, List.push_toArray, List.append_toArray, List.nil_append, List.cons_append]
  gi_wp2
  refine ⟨trivial, ha.mono ?_⟩
  rintro e B ⟨v, rfl, hr, t⟩
  gi_wp2
  go_ret
  exact ⟨v, _, rfl, rfl, hr, t⟩
def pl_cow : List (Nat × Plan) := []
def G_cow : List FuncId := [49, 95, 96]
theorem cok_cow : codeOk Tryz.prog G_cow pl_cow (Tryz.f39.body.getD .skip) = true := by kernel_rfl
theorem run_cow (vs : Array Value) (w : World) : (callFunc 39 vs).run C1.P w = .ok (.enter 39 vs) w := by kernel_rfl
theorem own_pure {p : Pt} (hp : pErr p = none) (hE : p.edges.length ≤ 1000) : Pure C1 39 [dPt p] (fun y => y = .tuple [.list 1 ((mapsP p p).map dInts), .nili]) := by
  have hri := pright_pure p (by have := (lErr_none (pErr_none hp).1).1; omega) (by omega)
  rw [rightP_none hp] at hri
  have hm := maps_pure p p
  have hc := collect_pure hp hp hE hE
  refine pure_of c1_ok (pl := pl_cow) (G := G_cow) Tryz.func39 rfl Tryz.ntmps39 run_cow cok_cow (by simp) ?_
  (conv => whnf)
  (repeat' ((first | refine ord_ok (by (conv => whnf); (repeat' ((first | refine call_eq rfl hri ?_ | refine call_eq rfl hm ?_ | refine call_eq rfl hc ?_ | refine ify ?_ | refine ifn ?_ | refine i6 ?_ | refine ati ?_ | refine mst ?_ | refine rmd ?_ | refine ibo (fun _ => ?_) (fun _ => ?_)) <;> conv => whnf)); (all_goals (repeat' (first | exact trivial | exact rfl | refine And.intro ?_ ?_)))) ?_ | refine call_eq rfl hri ?_ | refine call_eq rfl hm ?_ | refine call_eq rfl hc ?_ | refine ify ?_ | refine ifn ?_ | refine i6 ?_ | refine ati ?_ | refine mst ?_ | refine rmd ?_ | refine ibo (fun _ => ?_) (fun _ => ?_)) <;> conv => whnf))
  exact rfl
end Go.Proofs.YthegabgbakckfaaGreatDoor
end
