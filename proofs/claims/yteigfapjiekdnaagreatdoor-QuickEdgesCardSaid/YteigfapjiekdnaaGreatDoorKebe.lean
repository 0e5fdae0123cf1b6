/- Merged: Frm. -/
import Derived.Test.YteigfapjiekdnaaGreatDoorKebd
import Derived.Test.YteigfapjiekdnaaGreatDoorKeav
import Derived.Test.YteigfapjiekdnaaGreatDoorKeam
import Derived.Test.YteigfapjiekdnaaGreatDoorKean
import Derived.RangeFuncBox
import Derived.RangeFuncLeaves
import Derived.RangeFuncCalls
section
/- canon.Form: the walk. -/
namespace Go.Proofs.YteigfapjiekdnaaGreatDoor
open Go.Sx Go.RowKit Go.Reg Go.Gr

set_option maxRecDepth 100000
attribute [local go_sem] Oper.semAt_some
def pl_cor : List (Nat × Plan) := []
def G_cor : List FuncId := []
theorem cok_cor : codeOk Tryz.prog G_cor pl_cor (Tryz.f59.body.getD .skip) = true := by kernel_rfl
theorem run_cor (vs : Array Value) (w : World) : (callFunc 59 vs).run C1.P w = .ok (.enter 59 vs) w := by kernel_rfl
theorem orders_pure (p : Pt) (labels : List Int) : Pure C1 59 [dPt p, dIs labels] (fun y => y = ordersD p labels) := by
  refine pure_of c1_ok (pl := pl_cor) (G := G_cor) Tryz.func59 rfl Tryz.ntmps59 run_cor cok_cor (by simp) ?_
  ((conv => whnf); repeat' ((first | refine odw ?_ | refine ify ?_ | refine ifn ?_ | refine i6 ?_ | refine ati ?_ | refine mst ?_ | refine rmd ?_ | refine ibo (fun _ => ?_) (fun _ => ?_)) <;> conv => whnf))
  exact rfl
theorem rep_list_val {O : List Nat} {w : World} {k : Nat} {ds : List Da} {cs : List Value} (h : RepC O w (.list k ds) cs) : ∃ a c, cs = [.slice a ds.length c] ∧ Rep O w (.list k ds) (.slice a ds.length c) ∧ ds.length ≤ c ∧ c ≤ maxLen := by
  have h' := h
  simp only [RepC] at h
  obtain ⟨a, c, css, rfl, h1, h2, _⟩ := h
  exact ⟨a, c, rfl, ⟨_, h', rfl⟩, h1, h2⟩
theorem rep_pt {O : List Nat} {w : World} {p : Pt} {v : Value} (h : Rep O w (dPt p) v) : ∃ a1 c1 a2 c2, v = .agg #[.slice a1 p.labels.length c1, .slice a2 p.edges.length c2] ∧ Rep O w (dIs p.labels) (.slice a1 p.labels.length c1) ∧ Rep O w (dEs p.edges) (.slice a2 p.edges.length c2) := by
  obtain ⟨cs, r, rfl⟩ := h
  simp only [dPt, RepC, RepCs] at r
  obtain ⟨k1, k2, rfl, r1, k3, k4, rfl, r2, rfl⟩ := r
  obtain ⟨a1, c1, rfl, g1, _⟩ := rep_list_val r1
  obtain ⟨a2, c2, rfl, g2, _⟩ := rep_list_val r2
  rw [List.length_map] at g1 g2
  exact ⟨a1, c1, a2, c2, by rw [List.length_map, List.length_map]; rfl, g1, g2⟩
theorem Pure.at' {C : Cx} {f : FuncId} {xs : List Da} {Q : Da → Prop} (h : Pure C f xs Q) (n : Nat) {O : List Nat} {W : World} {us : List Value} (hO : ∀ b ∈ O, b < W.heap.size) (hg : Glob C O W) (hr : Reps O W xs us) :
    CallsIn Fence.wide n C.P f us.toArray W fun e B => ∃ u y, e = .returned u ∧ Q y ∧ Rep O B y u ∧ Tch [] W B := callsIn_wide.2 (h O W us hO hg hr).2
theorem Tch.up {O : List Nat} {A B : World} (h : Tch [] A B) : Tch O A B := h.mono (by simp)
theorem heap_on {A B : World} (h : Tch [] A B) {b : Nat} {o : Obj} (hb : A.heap[b]? = some o) : B.heap[b]? = some o := by
  rw [h.blk b (Array.getElem?_eq_some_iff.1 hb).1 (by simp)]; exact hb
theorem later_new {O X : List Nat} {w W : World} (t : Tch [] w W) (hX : ∀ x ∈ X, w.heap.size ≤ x ∨ x ∈ O) : Later O w X W :=
  ⟨t.size, fun b hb _ => t.blk b hb (by simp), fun b hn hb hm => (hX b hm).elim (fun h => by omega) hn⟩
theorem glob_later {C : Cx} {O X : List Nat} {A B : World} (h : Later O A X B) (r : Glob C O A) : Glob C X B := fun g hg => (r g hg).later h
/-- what the loop of Form keeps -/
def FormI (p : Pt) (b6 b7 b8 : Nat) (O : List Nat) (W0 : World) (R : List Nat) (pre : List (List Int)) (W : World) : Prop :=
  Tch ([b6, b7, b8] ++ R) W0 W ∧ match pre.foldl (stepB p) none with
    | none => W.heap[b6]? = some (Obj.cells #[Value.slice none 0 0, Value.slice none 0 0] 38) ∧ W.heap[b7]? = some (Obj.cells #[Value.slice none 0 0] 22) ∧ W.heap[b8]? = some (Obj.cells #[Value.bool true] 4)
    | some (q, b) => ∃ u1 u2 u3, W.heap[b6]? = some (Obj.cells #[u1, u2] 38) ∧ W.heap[b7]? = some (Obj.cells #[u3] 22) ∧ W.heap[b8]? = some (Obj.cells #[Value.bool false] 4) ∧
        Rep ([b6, b7, b8] ++ O ++ R) W (dPt q) (.agg #[u1, u2]) ∧ Rep ([b6, b7, b8] ++ O ++ R) W (dIs b) u3 ∧ q.labels.length ≤ 1000 ∧ q.edges.length ≤ 1000
theorem rep_tup_pt {O : List Nat} {B : World} {q : Pt} {u : Value} (h : Rep O B (.tuple [dPt q, .nili]) u) : ∃ d1 m1 d2 m2, u = .tuple #[.agg #[.slice d1 q.labels.length m1, .slice d2 q.edges.length m2], .nilIface] ∧ Rep O B (dPt q) (.agg #[.slice d1 q.labels.length m1, .slice d2 q.edges.length m2]) := by
  obtain ⟨cs, r, rfl⟩ := h
  simp only [RepC, RepCss] at r
  obtain ⟨css, ⟨k1, k2, rfl, r1, k3, k4, rfl, r2, rfl⟩, rfl⟩ := r
  obtain ⟨d1, m1, d2, m2, e, _⟩ := rep_pt (v := toV (dPt q) k1) ⟨k1, r1, rfl⟩
  obtain rfl : k3 = [Value.nilIface] := r2
  refine ⟨d1, m1, d2, m2, ?_, k1, r1, e.symm⟩
  show Value.tuple #[toV (dPt q) k1, Value.nilIface] = _
  rw [e]
theorem heap_ne {S : List Nat} {A B : World} (h : Tch S A B) {b : Nat} {o : Obj} (hb : A.heap[b]? = some o) (hn : b ∉ S) : B.heap[b]? = some o := by
  rw [h.blk b (Array.getElem?_eq_some_iff.1 hb).1 hn]; exact hb
theorem formI_abides {p : Pt} {b6 b7 b8 : Nat} {O : List Nat} {W0 : World} {R : List Nat} {pre : List (List Int)} {A B : World} (h6 : b6 < W0.heap.size) (h7 : b7 < W0.heap.size) (h8 : b8 < W0.heap.size) (hR : ∀ r ∈ R, W0.heap.size ≤ r) (h : FormI p b6 b7 b8 O W0 R pre A) (t : Tch R A B) :
    FormI p b6 b7 b8 O W0 R pre B := by
  obtain ⟨h1, h2⟩ := h
  have n6 : b6 ∉ R := fun hm => by have := hR _ hm; omega
  have n7 : b7 ∉ R := fun hm => by have := hR _ hm; omega
  have n8 : b8 ∉ R := fun hm => by have := hR _ hm; omega
  refine ⟨h1.trans0 (t.mono (by simp +contextual)), ?_⟩
  split at h2
  · obtain ⟨g1, g2, g3⟩ := h2
    exact ⟨heap_ne t g1 n6, heap_ne t g2 n7, heap_ne t g3 n8⟩
  · obtain ⟨u1, u2, u3, g1, g2, g3, g4, g5, g6⟩ := h2
    exact ⟨u1, u2, u3, heap_ne t g1 n6, heap_ne t g2 n7, heap_ne t g3 n8, rep_on (t.mono (by simp +contextual)) g4, rep_on (t.mono (by simp +contextual)) g5, g6⟩
theorem cells2_set {W : World} {b : Nat} {t : TypeId} {x y : Value} (h : W.heap[b]? = some (Obj.cells #[x, y] t)) (u v : Value) : ((W.setCell ⟨b, 0, none⟩ u).setCell ⟨b, 1, none⟩ v).heap[b]? = some (Obj.cells #[u, v] t) := by
  have one : ∀ {W : World} {cs : Array Value} (i : Nat) (z : Value), W.heap[b]? = some (Obj.cells cs t) → (W.setCell ⟨b, i, none⟩ z).heap[b]? = some (Obj.cells (cs.setIfInBounds i z) t) := fun {W cs} i z h => by
    obtain ⟨hlt, hk⟩ := Array.getElem?_eq_some_iff.1 h
    show (W.heap.modify b _)[b]? = _
    rw [Array.getElem?_eq_getElem (by rw [Array.size_modify]; exact hlt), Array.getElem_modify_self, hk]
    rfl
  exact one 1 v (one 0 u h)
theorem heap_set {W : World} {b i k : Nat} {v : Value} {o : Obj} (hne : ¬ b = k) (h : W.heap[k]? = some o) : (W.setCell ⟨b, i, none⟩ v).heap[k]? = some o := (Below.heap_setCell W ⟨b, i, none⟩ v k (fun e => hne e.symm)).trans h
/-- the round's three stores -/
theorem form_store {p : Pt} {b6 b7 b8 : Nat} {O R : List Nat} {W7 A2 A4 : World} {pre : List (List Int)} {x : List Int} {t6 t6' t7 t8 u v z : Value} (q4 : ¬ b6 = b7) (q5 : ¬ b6 = b8) (q6 : ¬ b7 = b8)
    (tA : Tch ([b6, b7, b8] ++ R) W7 A2) (T : Tch [] A2 A4) (G6 : A4.heap[b6]? = some (Obj.cells #[t6, t6'] 38)) (G7 : A4.heap[b7]? = some (Obj.cells #[t7] 22)) (G8 : A4.heap[b8]? = some (Obj.cells #[t8] 4))
    (hf : (pre ++ [x]).foldl (stepB p) none = some (turnP p x, x)) (r1 : Rep ([b6, b7, b8] ++ O ++ R) A4 (dPt (turnP p x)) (.agg #[u, v])) (r2 : Rep ([b6, b7, b8] ++ O ++ R) A4 (dIs x) z) (hl : (turnP p x).labels.length ≤ 1000 ∧ (turnP p x).edges.length ≤ 1000) :
    FormI p b6 b7 b8 O W7 R (pre ++ [x]) ((((A4.setCell ⟨b6, 0, none⟩ u).setCell ⟨b6, 1, none⟩ v).setCell ⟨b7, 0, none⟩ z).setCell ⟨b8, 0, none⟩ (.bool false)) ∧
    Tch ([b6, b7, b8] ++ O) A2 ((((A4.setCell ⟨b6, 0, none⟩ u).setCell ⟨b6, 1, none⟩ v).setCell ⟨b7, 0, none⟩ z).setCell ⟨b8, 0, none⟩ (.bool false)) := by
  have TS : Tch [b6, b7, b8] A4 ((((A4.setCell ⟨b6, 0, none⟩ u).setCell ⟨b6, 1, none⟩ v).setCell ⟨b7, 0, none⟩ z).setCell ⟨b8, 0, none⟩ (.bool false)) :=
    ((((Tch.refl [b6, b7, b8] A4).andSet (.inl (by simp)) u).andSet (.inl (by simp)) v).andSet (.inl (by simp)) z).andSet (.inl (by simp)) _
  have E6 := heap_set (i := 0) (v := .bool false) (fun e => q5 e.symm) (heap_set (i := 0) (v := z) (fun e => q4 e.symm) (cells2_set G6 u v))
  have E7 : ((((A4.setCell ⟨b6, 0, none⟩ u).setCell ⟨b6, 1, none⟩ v).setCell ⟨b7, 0, none⟩ z).setCell ⟨b8, 0, none⟩ (.bool false)).heap[b7]? = some (Obj.cells #[z] 22) :=
    heap_set (fun e => q6 e.symm) (Boxed.set z (heap_set q4 (heap_set q4 G7)))
  have E8 : ((((A4.setCell ⟨b6, 0, none⟩ u).setCell ⟨b6, 1, none⟩ v).setCell ⟨b7, 0, none⟩ z).setCell ⟨b8, 0, none⟩ (.bool false)).heap[b8]? = some (Obj.cells #[.bool false] 4) :=
    Boxed.set (.bool false) (heap_set q6 (heap_set q5 (heap_set q5 G8)))
  refine ⟨⟨(tA.then0 T).trans0 (TS.mono (by simp +contextual)), ?_⟩, T.ahead0 (TS.mono (by simp +contextual))⟩
  rw [hf]
  exact ⟨u, v, z, E6, E7, E8, rep_on (TS.mono (by simp +contextual)) r1, rep_on (TS.mono (by simp +contextual)) r2, hl⟩
theorem turn_facts {A2 A3 : World} (T3 : Tch [] A2 A3) {b6 b8 : Nat} {t t' ty : TypeId} {x6 x6' x8 : Value} (g6 : A2.heap[b6]? = some (Obj.cells #[x6, x6'] t)) (g8 : A2.heap[b8]? = some (Obj.cells #[x8] t')) (y y' : Value) :
    (A3.alloc (Obj.cells #[y, y'] ty)).cell? ⟨b8, 0, none⟩ = some x8 ∧ (A3.alloc (Obj.cells #[y, y'] ty)).cell? ⟨b6, 0, none⟩ = some x6 ∧ (A3.alloc (Obj.cells #[y, y'] ty)).cell? ⟨b6, 1, none⟩ = some x6' ∧
    (A3.alloc (Obj.cells #[y, y'] ty)).cell? ⟨A3.heap.size, 0, none⟩ = some y ∧ (A3.alloc (Obj.cells #[y, y'] ty)).cell? ⟨A3.heap.size, 1, none⟩ = some y' := by
  have G6 := heap_on (T3.andAlloc (Obj.cells #[y, y'] ty)) g6
  have G8 := heap_on (T3.andAlloc (Obj.cells #[y, y'] ty)) g8
  have G10 := World.alloc_heap_new A3 (Obj.cells #[y, y'] ty)
  refine ⟨?_, ?_, ?_, ?_, ?_⟩
  · simp only [World.cell?, G8]; rfl
  · simp only [World.cell?, G6]; rfl
  · simp only [World.cell?, G6]; rfl
  · simp only [World.cell?, G10]; rfl
  · simp only [World.cell?, G10]; rfl
theorem results_ctt {fn : Func} {P : Program} {t u v ty : Nat} (h : fn.results = #[.cell t ty, .tmp u, .tmp v]) {tmps : Array Value} {W : World} {b : Nat} {x : Value} (ht : tmps.getD t undef = .pointer (some ⟨b, 0, none⟩)) (hl : (loadVar ty ⟨b, 0, none⟩).run P W = .ok x W) :
    (results fn tmps).run P W = .ok (.tuple #[x, tmps.getD u undef, tmps.getD v undef]) W := by
  have hm : (fn.results.mapM (resV tmps)).run P W = .ok #[x, tmps.getD u undef, tmps.getD v undef] W := by
    rw [h, Array.mapM_eq_mapM_toList, Sem.run_map]
    have : (List.mapM (resV tmps) #[ResultVar.cell t ty, ResultVar.tmp u, ResultVar.tmp v].toList).run P W = .ok [x, tmps.getD u undef, tmps.getD v undef] W := by
      simp only [List.mapM_cons, List.mapM_nil, resV, Sem.run_bind, Sem.run_pure, ht, asAddr, Result.andThen_ok, hl]
    rw [this]; rfl
  rw [results_eq, Sem.run_bind, hm]
  simp
/-- the end of Form -/
theorem form_end {q : Pt} {by' : List Int} {O X : List Nat} {w W V : World} {b2 D : Nat} {tmps : Array Value} {u v z x2 x2' : Value} (hX : ∀ b ∈ O, b ∈ X) (hb2X : b2 ∈ X) (hb2w : w.heap.size ≤ b2) (hDR : D ∈ X) (hDw : w.heap.size ≤ D) (hD2 : ¬ b2 = D)
    (TW : Tch [] w W) (TV : Tch [] W V) (r1 : Rep X W (dPt q) (.agg #[u, v])) (r2 : Rep X W (dIs by') z) (hDef : W.heap[D]? = some (.deferred (some []))) (g2 : W.heap[b2]? = some (Obj.cells #[x2, x2'] 38))
    (e2 : tmps.getD 2 undef = .pointer (some ⟨b2, 0, none⟩)) (e3 : tmps.getD 3 undef = z) (e4 : tmps.getD 4 undef = .nilIface) :
    bodyPostM Fence.wide 4 Tryz.prog Tryz.f20 (fun e w' => ∃ v y, e = Ending.returned v ∧ y = Da.tuple [dPt q, dIs by', Da.nili] ∧ Rep O w' y v ∧ Tch [] w w') Exit.ret { tmps := tmps, defers := [{ target := .collected D, args := #[] }] } ((V.setCell ⟨b2, 0, none⟩ u).setCell ⟨b2, 1, none⟩ v) := by
  have G2 := cells2_set (heap_on TV g2) u v
  have GD : ((V.setCell ⟨b2, 0, none⟩ u).setCell ⟨b2, 1, none⟩ v).heap[D]? = some (.deferred (some [])) := heap_set hD2 (heap_set hD2 (heap_on TV hDef))
  obtain ⟨Y, hY⟩ : ∃ Y, (V.setCell ⟨b2, 0, none⟩ u).setCell ⟨b2, 1, none⟩ v = Y := ⟨_, rfl⟩
  have TY : Tch [b2] V Y := by rw [← hY]; exact ((Tch.refl [b2] V).andSet (.inl (by simp)) u).andSet (.inl (by simp)) v
  rw [hY] at G2 GD
  rw [hY]
  have TE : Tch [b2, D] W (Y.putObj D (.deferred none)) := ((Tch.up (O := [b2, D]) TV).trans0 (TY.mono (by simp))).trans0 ((tch_putObj _ _ _).mono (by simp))
  have hbW := (Array.getElem?_eq_some_iff.1 g2).1
  have G2' : (Y.putObj D (.deferred none)).heap[b2]? = some (Obj.cells #[u, v] 38) := (World.putObj_heap_other (fun e => hD2 e)).trans G2
  have LX : Later X W O (Y.putObj D (.deferred none)) := ⟨TE.size, fun b hb hn => TE.blk b hb (fun hm => by
    simp only [List.mem_cons, List.not_mem_nil, or_false] at hm
    rcases hm with rfl | rfl
    · exact hn hb2X
    · exact hn hDR), fun b hn _ hm => hn (hX b hm)⟩
  have TF : Tch [] w (Y.putObj D (.deferred none)) := TW.trans TE (fun _ h => h) (fun x hx => by
    simp only [List.mem_cons, List.not_mem_nil, or_false] at hx
    rcases hx with rfl | rfl
    · exact .inr hb2w
    · exact .inr hDw)
  refine ⟨by simp, .inl ⟨D, _, rfl, run_takeDeferred GD, ?_⟩⟩
  have hload : (loadVar 38 ⟨b2, 0, none⟩).run Tryz.prog (Y.putObj D (.deferred none)) = .ok (.agg #[u, v]) (Y.putObj D (.deferred none)) := by
    have := run_loadVar_ok (P := Tryz.prog) (c1_ok.ty (t := 38) rfl) (w := Y.putObj D (.deferred none)) (b := b2) (o := 0) (cs := [u, v]) (fun j x hj => by
      cases j with
      | zero => simp only [World.cell?, G2']; simpa using hj
      | succ j =>
        cases j with
        | zero => simp only [World.cell?, G2']; simpa using hj
        | succ j => simp at hj) rfl (by decide)
    exact this
  refine ⟨_, results_ctt Tryz.results20 e2 hload, _, _, rfl, rfl, ?_, TF⟩
  rw [e3, e4]
  obtain ⟨k1, h1, e1⟩ := r1.later LX
  obtain ⟨k2, h2, e2'⟩ := r2.later LX
  refine ⟨[_], by simp only [RepC]; exact ⟨[k1, k2, [.nilIface]], by simp only [RepCss]; exact ⟨k1, _, rfl, h1, k2, _, rfl, h2, [.nilIface], _, rfl, by simp only [RepC], rfl⟩, rfl⟩, ?_⟩
  simp only [List.zipWith_cons_cons, List.zipWith_nil_left]
  rw [← e1, ← e2']
  rfl
set_option maxHeartbeats 1000000 in
theorem form_pure (p : Pt) (hp : pErr p = none) (hE : p.edges.length ≤ 1000) : Pure C1 20 [dPt p] (fun y => y = .tuple [dPt (formP p), dIs (byP p), .nili]) := by
  intro O w vs hO hg hr
  obtain ⟨v, vs', rfl, hv, hr'⟩ := reps_inv hr
  obtain rfl := reps_inv0 hr'
  obtain ⟨a1, c1, a2, c2, rfl, g1, g2⟩ := rep_pt hv
  refine ⟨by kernel_rfl, ?_⟩
  show Calls Tryz.prog _ _ _ _
  refine callsIn_wide.1 (callsIn_of_wp_marks (n := 4) Tryz.func20 rfl trivial ?_ rfl)
  simp only [Tryz.ntmps20, List.size_toArray, List.length_cons, List.length_nil, Nat.reduceAdd, Nat.reduceSub, Array.replicate_succ, Array.replicate_zero, List.push_toArray, List.append_toArray, List.nil_append, List.cons_append]
  have hri := pright_pure p (by have := (lErr_none (pErr_none hp).1).1; omega) (by omega)
  rw [rightP_none hp] at hri
  have T0 : Tch [] w ((w.alloc (Obj.cells #[Value.slice a1 p.labels.length c1, Value.slice a2 p.edges.length c2] 38)).alloc (Obj.cells #[Value.slice none 0 0, Value.slice none 0 0] 38)) := (Tch.alloc w _ []).andAlloc _
  have hR := Pure.at' hri 3 (below_on (Tch.up T0) hO) (glob_on (Tch.up T0) hg) (reps_cons (rep_on (Tch.up T0) hv) reps_nil)
  have B1 : ((w.alloc (Obj.cells #[Value.slice a1 p.labels.length c1, Value.slice a2 p.edges.length c2] 38)).alloc (Obj.cells #[Value.slice none 0 0, Value.slice none 0 0] 38)).heap[w.heap.size]? = some (Obj.cells #[Value.slice a1 p.labels.length c1, Value.slice a2 p.edges.length c2] 38) := heap_on (Tch.alloc _ _ []) (World.alloc_heap_new w _)
  have B2 : ((w.alloc (Obj.cells #[Value.slice a1 p.labels.length c1, Value.slice a2 p.edges.length c2] 38)).alloc (Obj.cells #[Value.slice none 0 0, Value.slice none 0 0] 38)).heap[w.heap.size + 1]? = some (Obj.cells #[Value.slice none 0 0, Value.slice none 0 0] 38) := by
    have := World.alloc_heap_new (w.alloc (Obj.cells #[Value.slice a1 p.labels.length c1, Value.slice a2 p.edges.length c2] 38)) (Obj.cells #[Value.slice none 0 0, Value.slice none 0 0] 38)
    rwa [World.size_alloc] at this
  gi_wp2_with (refine ⟨trivial, ?_⟩; gi_at_call 31; refine hR.mono ?_; rintro e W1 ⟨u, y, rfl, rfl, hu, T1⟩; obtain ⟨cu, hcu, rfl⟩ := hu; simp only [RepC] at hcu; subst hcu; simp only [toV, List.headD_cons])
  have B1' := heap_on T1 B1
  have B2' := heap_on T1 B2
  have T01 := T0.then0 T1
  clear hR B1 B2 T1 T0
  have hw1 := T01.size
  have hb2lt := (Array.getElem?_eq_some_iff.1 B2').1
  obtain ⟨W3, hW3⟩ : ∃ W3, ((W1.alloc (Obj.cells #[Value.slice none 0 0, Value.slice none 0 0] 38)).alloc (Obj.cells #[Value.slice none 0 0] 22)).alloc (Obj.cells #[Value.bool true] 4) = W3 := ⟨_, rfl⟩
  have T13 : Tch [] W1 W3 := by rw [← hW3]; exact ((Tch.alloc _ _ []).andAlloc _).andAlloc _
  have hs3 : W3.heap.size = W1.heap.size + 3 := by rw [← hW3]; simp
  have H1 := heap_on T13 B1'
  have H2 := heap_on T13 B2'
  have H6 : W3.heap[W1.heap.size]? = some (Obj.cells #[Value.slice none 0 0, Value.slice none 0 0] 38) := by
    rw [← hW3]; exact heap_on ((Tch.alloc _ _ []).andAlloc _) (World.alloc_heap_new _ _)
  have H7 : W3.heap[W1.heap.size + 1]? = some (Obj.cells #[Value.slice none 0 0] 22) := by
    rw [← hW3]; refine heap_on (Tch.alloc _ _ []) ?_
    have := World.alloc_heap_new (W1.alloc (Obj.cells #[Value.slice none 0 0, Value.slice none 0 0] 38)) (Obj.cells #[Value.slice none 0 0] 22)
    rwa [World.size_alloc] at this
  have H8 : W3.heap[W1.heap.size + 1 + 1]? = some (Obj.cells #[Value.bool true] 4) := by
    rw [← hW3]
    have := World.alloc_heap_new ((W1.alloc (Obj.cells #[Value.slice none 0 0, Value.slice none 0 0] 38)).alloc (Obj.cells #[Value.slice none 0 0] 22)) (Obj.cells #[Value.bool true] 4)
    rwa [World.size_alloc, World.size_alloc] at this
  have T3 := T01.then0 T13
  rw [hW3]
  clear hW3 T13 B1' B2'
  obtain ⟨b1, hb1⟩ : ∃ b, w.heap.size = b := ⟨_, rfl⟩
  obtain ⟨b6, hb6⟩ : ∃ b, W1.heap.size = b := ⟨_, rfl⟩
  obtain ⟨b2, hb2⟩ : ∃ b, b1 + 1 = b := ⟨_, rfl⟩
  obtain ⟨b7, hb7⟩ : ∃ b, b6 + 1 = b := ⟨_, rfl⟩
  obtain ⟨b8, hb8⟩ : ∃ b, b7 + 1 = b := ⟨_, rfl⟩
  rw [hb6, hb7, hb8] at H8
  rw [hb1, hb2] at H2
  rw [hb1, hb2] at hb2lt
  rw [hb1] at H1
  rw [hb6, hb7] at H7
  rw [hb6] at H6
  rw [hb6] at hb2lt
  simp only [hb1, hb6]
  simp only [hb2, hb7]
  simp only [hb8]
  have hSl := sortI_len p.labels
  have h8 := (lErr_none (pErr_none hp).1).1
  have d6 : b6 < W3.heap.size := by omega
  have d7 : b7 < W3.heap.size := by omega
  have d8 : b8 < W3.heap.size := by omega
  obtain ⟨O3, hO3⟩ : ∃ O3, [b6, b7, b8] ++ (b2 :: O) = O3 := ⟨_, rfl⟩
  have LO : Later O w O3 W3 := later_new T3 (fun x hx => by
    rw [← hO3] at hx
    simp only [List.cons_append, List.nil_append, List.mem_cons] at hx
    rcases hx with rfl | rfl | rfl | rfl | hx
    · left; omega
    · left; omega
    · left; omega
    · left; omega
    · exact .inr hx)
  have hO' : ∀ b ∈ O3, b < W3.heap.size := fun b hb => by
    rw [← hO3] at hb
    simp only [List.cons_append, List.nil_append, List.mem_cons] at hb
    rcases hb with rfl | rfl | rfl | rfl | hb
    · exact d6
    · exact d7
    · exact d8
    · omega
    · have := hO b hb; have := T3.size; omega
  have hg' : Glob C1 O3 W3 := glob_later LO hg
  have hv' : Rep O3 W3 (dPt p) _ := hv.later LO
  have g1' : Rep O3 W3 (dIs p.labels) _ := g1.later LO
  refine wpIn_wide.2 ?_
  refine wp_region_g [61, 60, 59] [1, 0, 1, 2, 2, 2] [1, 0, 2, 3, 4, 5] [0, 0, 2, 6, 14, 31] (by kernel_rfl) (by kernel_rfl) ?_
  intro W4 T4
  have T34 := T4
  have G1 := heap_on T4 H1
  have e1 : W4.cell? ⟨b1, 0, none⟩ = some (Value.slice a1 p.labels.length c1) := by simp only [World.cell?, G1]; rfl
  have e2 : W4.cell? ⟨b1, 1, none⟩ = some (Value.slice a2 p.edges.length c2) := by simp only [World.cell?, G1]; rfl
  have hV := Pure.at' (values_pure p.labels) 3 (below_on (Tch.up T34) hO') (glob_on (Tch.up T34) hg') (reps_cons (rep_on (Tch.up T34) g1') reps_nil)
  go_wp2_with (first | (refine wpT_pure rfl rfl rfl rfl (fun _ _ => ?_)) | (refine wpT_look rfl rfl rfl (fun _ _ => ?_)))
  refine wpT_call rfl rfl rfl (fun K1 hK1 => ?_)
  go_wp2_with (go_at_call 61; refine (callsIn_wide.1 hV).mono ?_; rintro e W5 ⟨u5, y, rfl, rfl, hu5, T5⟩)
  refine hK1 _ _ T5.ext ?_
  have T35 := T34.then0 T5
  have hS := Pure.at' (sorted_pure p.labels (by omega)) 3 (below_on (Tch.up T35) hO') (glob_on (Tch.up T35) hg') (reps_cons hu5 reps_nil)
  refine wpT_call rfl rfl rfl (fun K2 hK2 => ?_)
  go_wp2_with (go_at_call 60; refine (callsIn_wide.1 hS).mono ?_; rintro e W6 ⟨u6, y, rfl, rfl, hu6, T6⟩)
  refine hK2 _ _ T6.ext ?_
  have T36 := T35.then0 T6
  have hOr := Pure.at' (orders_pure p (sortI p.labels)) 3 (below_on (Tch.up T36) hO') (glob_on (Tch.up T36) hg') (reps_cons (rep_on (Tch.up T36) hv') (reps_cons hu6 reps_nil))
  refine wpT_call rfl rfl rfl (fun K3 hK3 => ?_)
  go_wp2_with (go_at_call 59; refine (callsIn_wide.1 hOr).mono ?_; rintro e W7 ⟨u7, y, rfl, rfl, hu7, T7⟩)
  refine hK3 _ _ T7.ext ?_
  go_wp2_with (first | (refine wpT_pure rfl rfl rfl rfl (fun _ _ => ?_)) | refine wpT_nil ?_)
  have T37 := T36.then0 T7
  have F1 := heap_on T37 H1
  have F2 := heap_on T37 H2
  have F6 := heap_on T37 H6
  have F7 := heap_on T37 H7
  have F8 := heap_on T37 H8
  have hs7 := T37.size
  have hO7 := below_on (Tch.up T37) hO'
  have hg7 := glob_on (Tch.up (O := O3) T37) hg'
  have hv7 := rep_on (Tch.up (O := O3) T37) hv'
  have TW := T3.then0 T37
  clear hV hS hOr hK1 hK2 hK3 e1 e2 G1
  refine wpIn_block ?_
  refine wpIn_itr (C := C1) (formO p) O3 hO7 rfl (fun W t hs => ?_) (fun R S pre W => S = O3 ∧ FormI p b6 b7 b8 (b2 :: O) W7 R pre W) (fun _ _ _ _ => False) (fun R S pre A B hR h t => ⟨h.1, formI_abides (by omega) (by omega) (by omega) hR h.2 t⟩) (fun _ _ _ _ _ _ h _ => h) (fun R W hR t => ⟨rfl, ?_⟩) ?_ ?_ (fun _ _ _ _ _ _ _ _ _ _ h => h.elim)
  · have LW : Later O3 W7 (W7.heap.size :: (W7.heap.size + 1) :: O3) W := later_new t (fun x hx => by
      rcases List.mem_cons.1 hx with rfl | hx
      · left; omega
      rcases List.mem_cons.1 hx with rfl | hx
      · left; omega
      · exact .inr hx)
    exact orders_seq h8 (by omega) (fun b hb => by
      rcases List.mem_cons.1 hb with rfl | hb
      · omega
      rcases List.mem_cons.1 hb with rfl | hb
      · omega
      · have := hO7 b hb; omega) (glob_later LW hg7) (hu7.later LW)
  · exact ⟨t.mono (by simp), heap_on t F6, heap_on t F7, heap_on t F8⟩
  · intro l R S pre x v A hl hlR hR hSA hSR hI hpx hrep hsz hRA
    obtain ⟨hSO, hI⟩ := hI
    rw [hSO] at hrep
    rw [hSO]
    clear hSA hSR hSO
    rw [show C1.P = Tryz.prog from rfl]
    obtain ⟨av, cv, rfl, _, _⟩ := rep_list_shape hrep
    gi_wp2
    refine ⟨Tch.refl _ _, fun A2 TA2 => ?_⟩
    have hI2 := formI_abides (by omega) (by omega) (by omega) hR hI (TA2.mono (T := R) (by simpa using hlR))
    have hrep2 := rep_on (TA2.mono (T := O3 ++ R) (by simp [hlR])) hrep
    have hRA2 : ∀ r ∈ R, r < A2.heap.size := fun r hr => Nat.lt_of_lt_of_le (hRA r hr) TA2.size
    clear hI hrep hRA TA2 hsz
    obtain ⟨tA, hst⟩ := hI2
    have n1 : b1 ∉ [b6, b7, b8] ++ R := fun hm => by
      simp only [List.cons_append, List.nil_append, List.mem_cons] at hm
      rcases hm with hm | hm | hm | hm
      · omega
      · omega
      · omega
      · have := hR _ hm; omega
    have A1 := heap_ne tA F1 n1
    have LA : Later O3 W7 (O3 ++ R) A2 := ⟨tA.size, fun b hb hn => tA.blk b hb (fun hm => by
      rcases List.mem_append.1 hm with hm | hm
      · exact hn (by rw [← hO3]; exact List.mem_append_left _ hm)
      · have := hR _ hm; omega), fun b hn hb hm => by
      rcases List.mem_append.1 hm with hm | hm
      · exact hn hm
      · have := hR _ hm; omega⟩
    have hOA : ∀ b ∈ O3 ++ R, b < A2.heap.size := fun b hb => by
      rcases List.mem_append.1 hb with hb | hb
      · have := hO7 b hb; have := tA.size; omega
      · exact hRA2 b hb
    have hxm : x ∈ formO p := hpx.subset (by simp)
    have hord := (mem_formO (n := p.labels.length) ⟨rfl, (pErr_none hp).2.1, (pErr_none hp).2.2⟩).1 hxm
    have hTu := Pure.at' (pturn_pure p hp hE x ((ordR_is (by rw [hord.1.1]; omega)).2 (by rw [hord.1.1]; exact hord.1)) hord.1.1) 1 hOA (glob_later LA hg7) (reps_cons (hv7.later LA) (reps_cons hrep2 reps_nil))
    have e1 : A2.cell? ⟨b1, 0, none⟩ = some (Value.slice a1 p.labels.length c1) := by simp only [World.cell?, A1]; rfl
    have e2 : A2.cell? ⟨b1, 1, none⟩ = some (Value.slice a2 p.edges.length c2) := by simp only [World.cell?, A1]; rfl
    have hTu : CallsIn Fence.wide 1 Tryz.prog 33 _ A2 _ := hTu.mono (R' := fun e B => ∃ d1 m1 d2 m2, e = .returned (.tuple #[.agg #[.slice d1 (turnP p x).labels.length m1, .slice d2 (turnP p x).edges.length m2], .nilIface]) ∧ Rep (O3 ++ R) B (dPt (turnP p x)) (.agg #[.slice d1 (turnP p x).labels.length m1, .slice d2 (turnP p x).edges.length m2]) ∧ Tch [] A2 B) (by
      rintro e B ⟨u, y, rfl, rfl, hu, t⟩
      obtain ⟨d1, m1, d2, m2, rfl, h⟩ := rep_tup_pt hu
      exact ⟨d1, m1, d2, m2, rfl, h, t⟩)
    split at hst
    · rename_i hfold
      obtain ⟨g6, g7, g8⟩ := hst
      gi_wp2_with (refine ⟨trivial, ?_⟩; gi_at_call 33; refine (CallsIn.inRound l hTu).mono ?_; rintro e A3 ⟨d1, m1, d2, m2, rfl, huT, T3⟩; have G6 := heap_on (T3.andAlloc (Obj.cells #[Value.slice d1 (turnP p x).labels.length m1, Value.slice d2 (turnP p x).edges.length m2] 38)) g6; have G7 := heap_on (T3.andAlloc (Obj.cells #[Value.slice d1 (turnP p x).labels.length m1, Value.slice d2 (turnP p x).edges.length m2] 38)) g7; have G8 := heap_on (T3.andAlloc (Obj.cells #[Value.slice d1 (turnP p x).labels.length m1, Value.slice d2 (turnP p x).edges.length m2] 38)) g8; have E8 : (A3.alloc (Obj.cells #[Value.slice d1 (turnP p x).labels.length m1, Value.slice d2 (turnP p x).edges.length m2] 38)).cell? ⟨b8, 0, none⟩ = some (Value.bool true) := by (simp only [World.cell?, G8]; rfl))
      refine ⟨trivial, ?_⟩
      obtain ⟨A4, hA4⟩ : ∃ A4, A3.alloc (Obj.cells #[Value.slice d1 (turnP p x).labels.length m1, Value.slice d2 (turnP p x).edges.length m2] 38) = A4 := ⟨_, rfl⟩
      have T4 : Tch [] A3 A4 := by rw [← hA4]; exact Tch.alloc _ _ _
      have G10 : A4.heap[A3.heap.size]? = some (Obj.cells #[Value.slice d1 (turnP p x).labels.length m1, Value.slice d2 (turnP p x).edges.length m2] 38) := by rw [← hA4]; exact World.alloc_heap_new _ _
      rw [hA4] at G6 G7 G8 E8
      rw [hA4]
      obtain ⟨b10, hb10⟩ : ∃ b, A3.heap.size = b := ⟨_, rfl⟩
      rw [hb10] at G10
      simp only [hb10]
      have hs23 := T3.size
      have hsA := tA.size
      have q1 : ¬ b10 = b6 := by omega
      have q2 : ¬ b10 = b7 := by omega
      have q3 : ¬ b10 = b8 := by omega
      have q4 : ¬ b6 = b7 := by omega
      have q5 : ¬ b6 = b8 := by omega
      have q6 : ¬ b7 = b8 := by omega
      have q4' : ¬ b7 = b6 := by omega
      have q5' : ¬ b8 = b6 := by omega
      have q6' : ¬ b8 = b7 := by omega
      have c10 : A4.cell? ⟨b10, 0, none⟩ = some (Value.slice d1 (turnP p x).labels.length m1) := by simp only [World.cell?, G10]; rfl
      have c10' : A4.cell? ⟨b10, 1, none⟩ = some (Value.slice d2 (turnP p x).edges.length m2) := by simp only [World.cell?, G10]; rfl
      have c6 : A4.cell? ⟨b6, 0, none⟩ = some (Value.slice none 0 0) := by simp only [World.cell?, G6]; rfl
      have c6' : A4.cell? ⟨b6, 1, none⟩ = some (Value.slice none 0 0) := by simp only [World.cell?, G6]; rfl
      have c7 : A4.cell? ⟨b7, 0, none⟩ = some (Value.slice none 0 0) := by simp only [World.cell?, G7]; rfl
      have f6 : A4.frozen? ⟨b6, 0, none⟩ = false := by simp [World.frozen?, G6]
      have f6' : A4.frozen? ⟨b6, 1, none⟩ = false := by simp [World.frozen?, G6]
      have f7 : A4.frozen? ⟨b7, 0, none⟩ = false := by simp [World.frozen?, G7]
      have f8 : A4.frozen? ⟨b8, 0, none⟩ = false := by simp [World.frozen?, G8]
      clear hA4
      gi_wp2
      have hfold2 : (pre ++ [x]).foldl (stepB p) none = some (turnP p x, x) := by rw [List.foldl_append, hfold]; rfl
      have hpo : PtOk p.labels.length p := ⟨rfl, (pErr_none hp).2.1, (pErr_none hp).2.2⟩
      have := form_store (O := b2 :: O) q4 q5 q6 tA (T3.then0 T4) G6 G7 G8 hfold2 (by rw [hO3]; exact rep_on (Tch.up T4) huT) (by rw [hO3]; exact rep_on (Tch.up (T3.then0 T4)) hrep2) ⟨by rw [turnP_len]; omega, by rw [turnP_edge_len hord.1 hpo]; exact hE⟩
      rw [hO3] at this
      exact ⟨O3, Grow.same this.2 (fun b hb => hOA b (List.mem_append_left _ hb)), rfl, this.1⟩
    · rename_i q b hfold
      obtain ⟨u1, u2, u3, g6, g7, g8, r6, r7, hq1, hq2⟩ := hst
      obtain ⟨s1, n1', s2, n2', eu, _⟩ := rep_pt r6
      simp only [Value.agg.injEq, Array.mk.injEq, List.cons.injEq, and_true] at eu
      obtain ⟨rfl, rfl⟩ := eu
      gi_wp2_with (refine ⟨trivial, ?_⟩; gi_at_call 33; refine (CallsIn.inRound l hTu).mono ?_; rintro e A3 ⟨d1, m1, d2, m2, rfl, huT, T3⟩; obtain ⟨E8, E6, E6', E10, E10'⟩ := turn_facts (ty := 38) T3 g6 g8 (Value.slice d1 (turnP p x).labels.length m1) (Value.slice d2 (turnP p x).edges.length m2))
      obtain ⟨A4, hA4⟩ : ∃ A4, A3.alloc (Obj.cells #[Value.slice d1 (turnP p x).labels.length m1, Value.slice d2 (turnP p x).edges.length m2] 38) = A4 := ⟨_, rfl⟩
      have T4 : Tch [] A3 A4 := by rw [← hA4]; exact Tch.alloc _ _ _
      have T24 := T3.then0 T4
      have G10 : A4.heap[A3.heap.size]? = some (Obj.cells #[Value.slice d1 (turnP p x).labels.length m1, Value.slice d2 (turnP p x).edges.length m2] 38) := by rw [← hA4]; exact World.alloc_heap_new _ _
      rw [hA4]
      rw [hO3] at r6 r7
      have hTuA : Tch (O3 ++ R) A2 A4 := Tch.up T24
      have hpo : PtOk p.labels.length p := ⟨rfl, (pErr_none hp).2.1, (pErr_none hp).2.2⟩
      have hl1 : (turnP p x).labels.length ≤ 1000 := by rw [turnP_len]; omega
      have hl2 : (turnP p x).edges.length ≤ 1000 := by rw [turnP_edge_len hord.1 hpo]; exact hE
      have hCm := Pure.at' (ptcompare_pure (turnP p x) q (by omega) (by omega) (by omega) (by omega)) 1 (below_on hTuA hOA) (glob_on hTuA (glob_later LA hg7)) (reps_cons (rep_on (Tch.up T4) huT) (reps_cons (rep_on hTuA r6) reps_nil))
      have hCm : CallsIn Fence.wide 1 Tryz.prog 62 _ A4 _ := hCm.mono (R' := fun e B => e = .returned (.int .i64 (cmpP (turnP p x) q)) ∧ Tch [] A4 B) (by
        rintro e B ⟨u, y, rfl, rfl, hu, t⟩
        obtain ⟨cs, hcs, rfl⟩ := hu
        simp only [RepC] at hcs
        subst hcs
        exact ⟨rfl, t⟩)
      refine ⟨trivial, (CallsIn.inRound l hCm).mono ?_⟩
      rintro e A5 ⟨rfl, T5⟩
      have T25 := T24.then0 T5
      have G6 := heap_on T25 g6
      have G7 := heap_on T25 g7
      have G8 := heap_on T25 g8
      have G10 := heap_on T5 G10
      obtain ⟨b10, hb10⟩ : ∃ b, A3.heap.size = b := ⟨_, rfl⟩
      rw [hb10] at G10
      simp only [hb10]
      have hs23 := T3.size
      have hsA := tA.size
      have q1 : ¬ b10 = b6 := by omega
      have q2 : ¬ b10 = b7 := by omega
      have q3 : ¬ b10 = b8 := by omega
      have q4 : ¬ b6 = b7 := by omega
      have q5 : ¬ b6 = b8 := by omega
      have q6 : ¬ b7 = b8 := by omega
      have q4' : ¬ b7 = b6 := by omega
      have q5' : ¬ b8 = b6 := by omega
      have q6' : ¬ b8 = b7 := by omega
      have c10 : A5.cell? ⟨b10, 0, none⟩ = some (Value.slice d1 (turnP p x).labels.length m1) := by simp only [World.cell?, G10]; rfl
      have c10' : A5.cell? ⟨b10, 1, none⟩ = some (Value.slice d2 (turnP p x).edges.length m2) := by simp only [World.cell?, G10]; rfl
      have f6 : A5.frozen? ⟨b6, 0, none⟩ = false := by simp [World.frozen?, G6]
      have f6' : A5.frozen? ⟨b6, 1, none⟩ = false := by simp [World.frozen?, G6]
      have f7 : A5.frozen? ⟨b7, 0, none⟩ = false := by simp [World.frozen?, G7]
      have f8 : A5.frozen? ⟨b8, 0, none⟩ = false := by simp [World.frozen?, G8]
      have c6 : A5.cell? ⟨b6, 0, none⟩ = some (Value.slice s1 q.labels.length n1') := by simp only [World.cell?, G6]; rfl
      have c6' : A5.cell? ⟨b6, 1, none⟩ = some (Value.slice s2 q.edges.length n2') := by simp only [World.cell?, G6]; rfl
      have c7 : A5.cell? ⟨b7, 0, none⟩ = some u3 := by simp only [World.cell?, G7]; rfl
      have c8 : A5.cell? ⟨b8, 0, none⟩ = some (Value.bool false) := by simp only [World.cell?, G8]; rfl
      clear hA4 E8 E6 E6' E10 E10'
      by_cases hlt : cmpP (turnP p x) q < 0
      · have hfold2 : (pre ++ [x]).foldl (stepB p) none = some (turnP p x, x) := by rw [List.foldl_append, hfold]; simp only [List.foldl_cons, List.foldl_nil, stepB]; rw [if_pos hlt]
        gi_wp2
        have := form_store (O := b2 :: O) q4 q5 q6 tA T25 G6 G7 G8 hfold2 (by rw [hO3]; exact rep_on (Tch.up (T4.then0 T5)) huT) (by rw [hO3]; exact rep_on (Tch.up T25) hrep2) ⟨hl1, hl2⟩
        rw [hO3] at this
        exact ⟨O3, Grow.same this.2 (fun b hb => hOA b (List.mem_append_left _ hb)), rfl, this.1⟩
      · have hfold2 : (pre ++ [x]).foldl (stepB p) none = some (q, b) := by rw [List.foldl_append, hfold]; simp only [List.foldl_cons, List.foldl_nil, stepB]; rw [if_neg hlt]
        gi_wp2
        refine ⟨O3, Grow.same (Tch.up T25) (fun b hb => hOA b (List.mem_append_left _ hb)), rfl, tA.then0 T25, ?_⟩
        rw [hfold2]
        rw [hO3]
        exact ⟨_, _, _, G6, G7, G8, rep_on (Tch.up T25) r6, rep_on (Tch.up T25) r7, hq1, hq2⟩
  · intro D R S W hD hDR hR hSR hI ht hDef
    gi_wp2
    have hpo : PtOk p.labels.length p := ⟨rfl, (pErr_none hp).2.1, (pErr_none hp).2.2⟩
    obtain ⟨_, tW, hst⟩ := hI
    rw [show (formO p).foldl (stepB p) none = some (formP p, byP p) from (form_spec hpo).1] at hst
    obtain ⟨u1, u2, u3, g6, g7, g8, r6, r7, _, _⟩ := hst
    obtain ⟨s1, n1', s2, n2', eu, _⟩ := rep_pt r6
    simp only [Value.agg.injEq, Array.mk.injEq, List.cons.injEq, and_true] at eu
    obtain ⟨rfl, rfl⟩ := eu
    obtain ⟨s3, n3', rfl, _, _⟩ := rep_list_shape (l := byP p) r7
    have n2 : b2 ∉ [b6, b7, b8] ++ R := fun hm => by
      simp only [List.cons_append, List.nil_append, List.mem_cons] at hm
      rcases hm with hm | hm | hm | hm
      · omega
      · omega
      · omega
      · have := hR _ hm; omega
    have g2' := heap_ne tW F2 n2
    refine wpIn_wide.2 ?_
    refine wp_region_2g [] [1, 1, 3, 0, 0] 1 2 [0, 1, 2, 3, 4] [0, 0, 3, 7, 15] [0, 2, 1, 3, 4] [0, 5, 1, 7, 15] (by kernel_rfl) (by decide) (by kernel_rfl) (by kernel_rfl) ?_ ?_
    · intro V TV
      have c6 : V.cell? ⟨b6, 0, none⟩ = some (Value.slice s1 (formP p).labels.length n1') := by simp only [World.cell?, heap_on TV g6]; rfl
      have c6' : V.cell? ⟨b6, 1, none⟩ = some (Value.slice s2 (formP p).edges.length n2') := by simp only [World.cell?, heap_on TV g6]; rfl
      have c7 : V.cell? ⟨b7, 0, none⟩ = some (Value.slice s3 (byP p).length n3') := by simp only [World.cell?, heap_on TV g7]; rfl
      have c2 : V.cell? ⟨b2, 0, none⟩ = some (Value.slice none 0 0) := by simp only [World.cell?, heap_on TV g2']; rfl
      have c2' : V.cell? ⟨b2, 1, none⟩ = some (Value.slice none 0 0) := by simp only [World.cell?, heap_on TV g2']; rfl
      have f2 : V.frozen? ⟨b2, 0, none⟩ = false := by simp [World.frozen?, heap_on TV g2']
      have f2' : V.frozen? ⟨b2, 1, none⟩ = false := by simp [World.frozen?, heap_on TV g2']
      have q27 : ¬ b2 = b7 := by omega
      have q72 : ¬ b7 = b2 := by omega
      have HTV := hid TV
      clear TV
      go_wp2_with (first | (refine wpT_pure rfl rfl rfl rfl (fun _ _ => ?_)) | (refine wpT_look rfl rfl rfl (fun _ _ => ?_)))
      refine wpT_one rfl rfl rfl (fun K1 hK1 => ?_)
      go_wp2_with (first | (refine wpT_pure rfl rfl rfl rfl (fun _ _ => ?_)) | (refine wpT_look rfl rfl rfl (fun _ _ => ?_)) | refine wpT_nil ?_)
      gi_wp2
      exact form_end (X := O3 ++ R) (fun b hb => List.mem_append_left _ (by rw [← hO3]; simp [hb])) (List.mem_append_left _ (by rw [← hO3]; simp)) (by omega) (List.mem_append_right _ hDR) (by omega) (by omega) (TW.trans tW (fun _ h => h) (fun x hx => by
        simp only [List.cons_append, List.nil_append, List.mem_cons] at hx
        rcases hx with hx | hx | hx | hx
        · right; omega
        · right; omega
        · right; omega
        · right; have := hR _ hx; omega)) HTV.out (by rw [← hO3]; exact r6) (by rw [← hO3]; exact r7) hDef g2' rfl rfl rfl
    · intro V TV
      have c6 : V.cell? ⟨b6, 0, none⟩ = some (Value.slice s1 (formP p).labels.length n1') := by simp only [World.cell?, heap_on TV g6]; rfl
      have c6' : V.cell? ⟨b6, 1, none⟩ = some (Value.slice s2 (formP p).edges.length n2') := by simp only [World.cell?, heap_on TV g6]; rfl
      have c7 : V.cell? ⟨b7, 0, none⟩ = some (Value.slice s3 (byP p).length n3') := by simp only [World.cell?, heap_on TV g7]; rfl
      have c2 : V.cell? ⟨b2, 0, none⟩ = some (Value.slice none 0 0) := by simp only [World.cell?, heap_on TV g2']; rfl
      have c2' : V.cell? ⟨b2, 1, none⟩ = some (Value.slice none 0 0) := by simp only [World.cell?, heap_on TV g2']; rfl
      have f2 : V.frozen? ⟨b2, 0, none⟩ = false := by simp [World.frozen?, heap_on TV g2']
      have f2' : V.frozen? ⟨b2, 1, none⟩ = false := by simp [World.frozen?, heap_on TV g2']
      have q27 : ¬ b2 = b7 := by omega
      have q72 : ¬ b7 = b2 := by omega
      have HTV := hid TV
      clear TV
      go_wp2_with (first | (refine wpT_pure rfl rfl rfl rfl (fun _ _ => ?_)) | (refine wpT_look rfl rfl rfl (fun _ _ => ?_)))
      refine wpT_one rfl rfl rfl (fun K1 hK1 => ?_)
      go_wp2_with (first | (refine wpT_pure rfl rfl rfl rfl (fun _ _ => ?_)) | (refine wpT_look rfl rfl rfl (fun _ _ => ?_)) | refine wpT_nil ?_)
      gi_wp2
      exact form_end (X := O3 ++ R) (fun b hb => List.mem_append_left _ (by rw [← hO3]; simp [hb])) (List.mem_append_left _ (by rw [← hO3]; simp)) (by omega) (List.mem_append_right _ hDR) (by omega) (by omega) (TW.trans tW (fun _ h => h) (fun x hx => by
        simp only [List.cons_append, List.nil_append, List.mem_cons] at hx
        rcases hx with hx | hx | hx | hx
        · right; omega
        · right; omega
        · right; omega
        · right; have := hR _ hx; omega)) HTV.out (by rw [← hO3]; exact r6) (by rw [← hO3]; exact r7) hDef g2' rfl rfl rfl
end Go.Proofs.YteigfapjiekdnaaGreatDoor
end
