/- Merged: Mps Mpo. -/
import Derived.Test.YteigfapjiekdnaaGreatDoorKtaz
section
/- canon.maps: what its iterator owes. -/
namespace Go.Proofs.YteigfapjiekdnaaGreatDoor
open Go.Sx Go.RowKit Go.Reg Go.Gr

set_option maxRecDepth 100000
attribute [local go_sem] Oper.semAt_some
/-- the iterator of canon.maps -/
def mapsD (p q : Pt) : Da := .func (.func 134) [] [.ref (dPt p), .ref (dPt q)]
def pl_cmp : List (Nat × Plan) := []
def G_cmp : List FuncId := []
theorem cok_cmp : codeOk Tryz.prog G_cmp pl_cmp (Tryz.f83.body.getD .skip) = true := by kernel_rfl
theorem run_cmp (vs : Array Value) (w : World) : (callFunc 83 vs).run C1.P w = .ok (.enter 83 vs) w := by kernel_rfl
theorem maps_pure (p q : Pt) : Pure C1 83 [dPt p, dPt q] (fun y => y = mapsD p q) := by
  refine pure_of c1_ok (pl := pl_cmp) (G := G_cmp) Tryz.func83 rfl Tryz.ntmps83 run_cmp cok_cmp (by simp) ?_
  ((conv => whnf); repeat' ((first | refine odw ?_ | refine ify ?_ | refine ifn ?_ | refine i6 ?_ | refine ati ?_ | refine mst ?_ | refine rmd ?_ | refine ibo (fun _ => ?_) (fun _ => ?_)) <;> conv => whnf))
  exact rfl
theorem right_at {p : Pt} (hp : pErr p = none) (hE : p.edges.length ≤ 1000) (n : Nat) {O : List Nat} {W : World} {v : Value} (hO : ∀ b ∈ O, b < W.heap.size) (hg : Glob C1 O W) (hv : Rep O W (dPt p) v) :
    CallsIn Fence.wide n Tryz.prog 31 #[v] W fun e B => e = .returned .nilIface ∧ Tch [] W B := by
  have hri := pright_pure p (by have := (lErr_none (pErr_none hp).1).1; omega) (by omega)
  rw [rightP_none hp] at hri
  refine (Pure.at' hri n hO hg (reps_cons hv reps_nil)).mono ?_
  rintro e B ⟨u, y, rfl, rfl, ⟨cs, hcs, rfl⟩, t⟩
  simp only [RepC] at hcs
  subst hcs
  exact ⟨rfl, t⟩
theorem turn_at {p : Pt} (hp : pErr p = none) (hE : p.edges.length ≤ 1000) {x : List Int} (hx : IsOrd p.labels.length x) (n : Nat) {O : List Nat} {W : World} {v u : Value} (hO : ∀ b ∈ O, b < W.heap.size) (hg : Glob C1 O W) (hv : Rep O W (dPt p) v) (hu : Rep O W (dInts x) u) :
    CallsIn Fence.wide n Tryz.prog 33 #[v, u] W fun e B => ∃ d1 m1 d2 m2, e = .returned (.tuple #[.agg #[.slice d1 (turnP p x).labels.length m1, .slice d2 (turnP p x).edges.length m2], .nilIface]) ∧ Rep O B (dPt (turnP p x)) (.agg #[.slice d1 (turnP p x).labels.length m1, .slice d2 (turnP p x).edges.length m2]) ∧ Tch [] W B := by
  have h8 := (lErr_none (pErr_none hp).1).1
  refine (Pure.at' (pturn_pure p hp hE x ((ordR_is (by rw [hx.1]; omega)).2 (by rw [hx.1]; exact hx)) hx.1) n hO hg (reps_cons hv (reps_cons hu reps_nil))).mono ?_
  rintro e B ⟨u, y, rfl, rfl, hu, t⟩
  obtain ⟨d1, m1, d2, m2, rfl, h⟩ := rep_tup_pt hu
  exact ⟨d1, m1, d2, m2, rfl, h, t⟩
theorem cmp_at {p q : Pt} (h1 : p.labels.length ≤ 1000) (h2 : q.labels.length ≤ 1000) (h3 : p.edges.length ≤ 1000) (h4 : q.edges.length ≤ 1000) (n : Nat) {O : List Nat} {W : World} {v u : Value} (hO : ∀ b ∈ O, b < W.heap.size) (hg : Glob C1 O W) (hv : Rep O W (dPt p) v) (hu : Rep O W (dPt q) u) :
    CallsIn Fence.wide n Tryz.prog 62 #[v, u] W fun e B => e = .returned (.int .i64 (cmpP p q)) ∧ Tch [] W B := by
  refine (Pure.at' (ptcompare_pure p q (by omega) (by omega) (by omega) (by omega)) n hO hg (reps_cons hv (reps_cons hu reps_nil))).mono ?_
  rintro e B ⟨u, y, rfl, rfl, ⟨cs, hcs, rfl⟩, t⟩
  simp only [RepC] at hcs
  subst hcs
  exact ⟨rfl, t⟩
theorem ref_pt {O : List Nat} {W : World} {p : Pt} {c : List Value} (h : ∃ b o c', c = [Value.pointer (some ⟨b, o, none⟩)] ∧ b ∉ O ∧ b < W.heap.size ∧ RepC O W (dPt p) c' ∧ Cells W b o c') :
    ∃ b o a1 c1 a2 c2, c = [Value.pointer (some ⟨b, o, none⟩)] ∧ b ∉ O ∧ b < W.heap.size ∧ W.cell? ⟨b, o, none⟩ = some (.slice a1 p.labels.length c1) ∧ W.cell? ⟨b, o + 1, none⟩ = some (.slice a2 p.edges.length c2) ∧
      Rep O W (dPt p) (.agg #[.slice a1 p.labels.length c1, .slice a2 p.edges.length c2]) ∧ Rep O W (dIs p.labels) (.slice a1 p.labels.length c1) := by
  obtain ⟨b, o, c', rfl, hb, hbl, hr, hc⟩ := h
  have hr' := hr
  simp only [dPt, RepC, RepCs] at hr
  obtain ⟨k1, k2, rfl, r1, k3, k4, rfl, r2, rfl⟩ := hr
  obtain ⟨a1, c1, rfl, g1, _⟩ := rep_list_val r1
  obtain ⟨a2, c2, rfl, g2, _⟩ := rep_list_val r2
  rw [List.length_map] at g1 g2
  have e1 := hc 0 _ rfl
  have e2 := hc 1 _ rfl
  rw [List.length_map] at e1 e2
  refine ⟨b, o, a1, c1, a2, c2, rfl, hb, hbl, e1, e2, ⟨_, hr', ?_⟩, g1⟩
  rw [List.length_map, List.length_map]; rfl
theorem round_wide {n m l l' : Nat} {P : Program} {f : FuncId} {tmps : Array Value} {assign body : Code} {w : World} {R : Ending → World → Prop} (h : RoundIn Fence.wide n P l f tmps assign body w R) : RoundIn (Fence.wide.inRound l') m P l f tmps assign body w R :=
  ⟨trivial, fun c cs _ => h.2 c cs (room_wide _)⟩
theorem maps_nil {p q : Pt} (h : p.labels.length ≠ q.labels.length) : mapsP p q = [] := by
  unfold mapsP
  rw [List.filter_eq_nil_iff]
  intro o _ hd
  have := (torP.eq0 _ _).1 (of_decide_eq_true hd)
  exact h (by rw [← this, turnP_len])
set_option maxHeartbeats 1000000 in
theorem maps_seq {p q : Pt} (hp : pErr p = none) (hq : pErr q = none) (hE : p.edges.length ≤ 1000) (hE' : q.edges.length ≤ 1000) {O : List Nat} {l : Nat} {W : World} {fv : Value} (hO : ∀ b ∈ O, b < W.heap.size) (hg : Glob C1 O W) (hr : Rep O W (mapsD p q) fv) :
    SeqAt C1 fv (mapsP p q) O l W := by
  obtain ⟨cs, r, rfl⟩ := hr
  rw [mapsD, RepC] at r
  simp only [RepCss] at r
  obtain ⟨fs, cs', rfl, ⟨k1, k2, rfl, r1, k3, k4, rfl, r2, rfl⟩, rfl⟩ := r
  rw [RepC] at r1 r2
  obtain ⟨b1, o1, a1, c1, a2, c2, rfl, hb1, hs1, e1, e1', rp, rp1⟩ := ref_pt r1
  obtain ⟨b2, o2, a3, c3, a4, c4, rfl, hb2, hs2, e2, e2', rq, rq1⟩ := ref_pt r2
  refine ⟨134, #[.pointer (some ⟨b1, o1, none⟩), .pointer (some ⟨b2, o2, none⟩)], rfl, fun _ _ => rfl, ?_⟩
  intro J Jx hJ hJx hY hj
  show CallsIn Fence.wide 3 Tryz.prog 134 _ W _
  refine callsIn_of_wp_marks (n := 3) Tryz.func134 rfl trivial ?_ rfl
  simp only [Tryz.ntmps134, List.size_toArray, List.length_cons, List.length_nil, Nat.reduceAdd, Nat.reduceSub, Array.replicate_succ, Array.replicate_zero, List.push_toArray, List.append_toArray, List.nil_append, List.cons_append]
  have T0 : Tch [] W (W.alloc (Obj.cells #[Value.func (.yield l) #[] #[]] 154)) := Tch.alloc _ _ _
  gi_wp2
  refine ⟨trivial, (right_at hp hE 2 (below_on (Tch.up T0) hO) (glob_on (Tch.up T0) hg) (rep_on (Tch.up T0) rp)).mono ?_⟩
  rintro e W1 ⟨rfl, T1⟩
  have T01 := T0.then0 T1
  have f1 := T01.cell e1 (by simp)
  have f1' := T01.cell e1' (by simp)
  have f2 := T01.cell e2 (by simp)
  have f2' := T01.cell e2' (by simp)
  have B3 := heap_on T1 (World.alloc_heap_new W (Obj.cells #[Value.func (.yield l) #[] #[]] 154))
  clear T0 T1
  gi_wp2
  refine ⟨trivial, (right_at hq hE' 2 (below_on (Tch.up T01) hO) (glob_on (Tch.up T01) hg) (rep_on (Tch.up T01) rq)).mono ?_⟩
  rintro e W2 ⟨rfl, T2⟩
  have T02 := T01.then0 T2
  have B3 := heap_on T2 B3
  clear f1 f1' f2 f2' T2 T01
  have f1 := T02.cell e1 (by simp)
  have f1' := T02.cell e1' (by simp)
  have f2 := T02.cell e2 (by simp)
  have f2' := T02.cell e2' (by simp)
  by_cases hl : p.labels.length = q.labels.length
  · have hl2 : ((p.labels.length : Int) != (q.labels.length : Int)) = false := by simp [hl]
    have HL := hid hl
    clear hl
    gi_wp2
    have hOr := Pure.at' (orders_pure p q.labels) 2 (below_on (Tch.up T02) hO) (glob_on (Tch.up T02) hg) (reps_cons (rep_on (Tch.up T02) rp) (reps_cons (rep_on (Tch.up T02) rq1) reps_nil))
    refine ⟨trivial, hOr.mono ?_⟩
    rintro e W3 ⟨u7, y, rfl, rfl, hu7, T3⟩
    have T03 := T02.then0 T3
    have B3 := heap_on T3 B3
    clear f1 f1' f2 f2' T3 T02 hOr
    obtain ⟨b3, hb3⟩ : ∃ b, W.heap.size = b := ⟨_, rfl⟩
    rw [hb3] at B3
    simp only [hb3]
    have hb3lt := (Array.getElem?_eq_some_iff.1 B3).1
    have hO3 := below_on (Tch.up T03) hO
    have hg3 := glob_on (Tch.up (O := O) T03) hg
    have rp3 := rep_on (Tch.up (O := O) T03) rp
    have rq3 := rep_on (Tch.up (O := O) T03) rq
    have h8 := (lErr_none (pErr_none hp).1).1
    have h8' := (lErr_none (pErr_none hq).1).1
    gi_wp2
    refine wpIn_itr (C := C1) (ordL p.labels q.labels p.labels.length []) O hO3 rfl (fun V t hs => ?_) (fun R S pre A => ((∀ b ∈ S, b ∈ O ∨ W3.heap.size ≤ b) ∧ Tch (O ++ R) W3 A) ∧ J R S (pre.filter fun o => decide (cmpP (turnP p o) q = 0)) A) (fun R S pre A => ((∀ b ∈ S, b ∈ O ∨ W3.heap.size ≤ b) ∧ Tch (O ++ R) W3 A) ∧ ∃ pre', pre' <+: mapsP p q ∧ Jx R S pre' A)
      (fun R S pre A B hR h t => ⟨⟨h.1.1, h.1.2.trans0 (t.mono (by simp +contextual))⟩, hJ _ _ _ _ _ (fun r hr => by have := hR r hr; have := T03.size; omega) h.2 t⟩)
      (fun R S pre A B hR h t => ⟨⟨h.1.1, h.1.2.trans0 (t.mono (by simp +contextual))⟩, h.2.imp fun pre' h' => ⟨h'.1, hJx _ _ _ _ _ (fun r hr => by have := hR r hr; have := T03.size; omega) h'.2 t⟩⟩)
      (fun R V hR t => ⟨⟨fun b hb => .inl hb, t.mono (by simp)⟩, hJ _ _ _ _ _ (fun r hr => by have := hR r hr; have := T03.size; omega) (hj R (fun r hr => by have := hR r hr; have := T03.size; omega)) ((T03.then0 t).mono (by simp))⟩) ?_ ?_ ?_
    · have LW : Later O W3 (W3.heap.size :: (W3.heap.size + 1) :: O) V := later_new t (fun x hx => by
        rcases List.mem_cons.1 hx with rfl | hx
        · left; omega
        rcases List.mem_cons.1 hx with rfl | hx
        · left; omega
        · exact .inr hx)
      exact orders_seq h8 h8' (fun b hb => by
        rcases List.mem_cons.1 hb with rfl | hb
        · omega
        rcases List.mem_cons.1 hb with rfl | hb
        · omega
        · have := hO3 b hb; omega) (glob_later LW hg3) (hu7.later LW)
    · intro l' R S pre x v A hl hlR hR hSA hSR hI hpx hrep hsz hRA
      rw [show C1.P = Tryz.prog from rfl]
      obtain ⟨av, cv, rfl, _, _⟩ := rep_list_shape hrep
      gi_wp2
      refine ⟨Tch.refl _ _, fun A2 TA2 => ?_⟩
      have hR' : ∀ r ∈ R, W.heap.size ≤ r := fun r hr => by have := hR r hr; have := T03.size; omega
      have hSn := hI.1.1
      have hSA2 : ∀ b ∈ S, b < A2.heap.size := fun b hb => Nat.lt_of_lt_of_le (hSA b hb) TA2.size
      have TA : Tch (O ++ R) W3 A2 := hI.1.2.trans0 (TA2.mono (by simp [hlR]))
      have hJ2 := hJ _ _ _ _ _ hR' hI.2 (TA2.mono (T := R) (by simpa using hlR))
      have hrep2 := rep_on (TA2.mono (T := S ++ R) (by simp [hlR])) hrep
      have hRA2 : ∀ r ∈ R, r < A2.heap.size := fun r hr => Nat.lt_of_lt_of_le (hRA r hr) TA2.size
      clear hI hrep hRA TA2 hsz hSA
      have nOR : ∀ b, b ∉ O → b < W3.heap.size → b ∉ O ++ R := fun b h1 h2 hm => by
        rcases List.mem_append.1 hm with hm | hm
        · exact h1 hm
        · have := hR b hm; omega
      have hs03 := T03.size
      have n1 := nOR b1 hb1 (by omega)
      have n2 := nOR b2 hb2 (by omega)
      have n3 := nOR b3 (fun hm => by have := hO b3 hm; omega) hb3lt
      have LA : Later O W3 (S ++ R) A2 := ⟨TA.size, fun b hb hn => TA.blk b hb (nOR b hn hb), fun b hn hb hm => by
        rcases List.mem_append.1 hm with hm | hm
        · rcases hSn b hm with h | h
          · exact hn h
          · omega
        · have := hR b hm; omega⟩
      have hOA : ∀ b ∈ S ++ R, b < A2.heap.size := fun b hb => by
        rcases List.mem_append.1 hb with hb | hb
        · exact hSA2 b hb
        · exact hRA2 b hb
      have f1 := TA.cell (T03.cell e1 (by simp)) n1
      have f1' := TA.cell (T03.cell e1' (by simp)) n1
      have f2 := TA.cell (T03.cell e2 (by simp)) n2
      have f2' := TA.cell (T03.cell e2' (by simp)) n2
      have C3 := heap_ne TA B3 n3
      have hxm : x ∈ ordL p.labels q.labels p.labels.length [] := hpx.subset (by simp)
      have hord := ((mem_ords (n := p.labels.length) HL.out.symm).1 hxm).1
      have hpo : PtOk p.labels.length p := ⟨rfl, (pErr_none hp).2.1, (pErr_none hp).2.2⟩
      gi_wp2
      refine ⟨trivial, (CallsIn.inRound l' (turn_at hp hE hord 1 hOA (glob_later LA hg3) (rp3.later LA) hrep2)).mono ?_⟩
      rintro e A3 ⟨d1, m1, d2, m2, rfl, huT, TT⟩
      have TT4 : Tch [] A2 (A3.alloc (Obj.cells #[Value.slice d1 (turnP p x).labels.length m1, Value.slice d2 (turnP p x).edges.length m2] 38)) := TT.andAlloc _
      have G10 := World.alloc_heap_new A3 (Obj.cells #[Value.slice d1 (turnP p x).labels.length m1, Value.slice d2 (turnP p x).edges.length m2] 38)
      have E10 : (A3.alloc (Obj.cells #[Value.slice d1 (turnP p x).labels.length m1, Value.slice d2 (turnP p x).edges.length m2] 38)).cell? ⟨A3.heap.size, 0, none⟩ = some (Value.slice d1 (turnP p x).labels.length m1) := by simp only [World.cell?, G10]; rfl
      have E10' : (A3.alloc (Obj.cells #[Value.slice d1 (turnP p x).labels.length m1, Value.slice d2 (turnP p x).edges.length m2] 38)).cell? ⟨A3.heap.size, 1, none⟩ = some (Value.slice d2 (turnP p x).edges.length m2) := by simp only [World.cell?, G10]; rfl
      have f2 := TT4.cell f2 (by simp)
      have f2' := TT4.cell f2' (by simp)
      have C3 := heap_on TT4 C3
      gi_wp2
      refine ⟨trivial, (CallsIn.inRound l' (cmp_at (p := turnP p x) (q := q) (by rw [turnP_len]; omega) (by omega) (by rw [turnP_edge_len hord hpo]; exact hE) hE' 1 (below_on (Tch.up TT4) hOA) (glob_on (Tch.up TT4) (glob_later LA hg3)) (rep_on (Tch.up (Tch.alloc _ _ _)) huT) (rep_on (Tch.up TT4) (rq3.later LA)))).mono ?_⟩
      rintro e A5 ⟨rfl, T5⟩
      have T25 := TT4.then0 T5
      have C3 := heap_on T5 C3
      have c3 : A5.cell? ⟨b3, 0, none⟩ = some (Value.func (.yield l) #[] #[]) := by simp only [World.cell?, C3]; rfl
      clear G10 E10 E10' f1 f1' f2 f2' T5 TT
      by_cases heq : cmpP (turnP p x) q = 0
      · have heq2 : (cmpP (turnP p x) q == 0) = true := by simpa using heq
        have hfl : (pre ++ [x]).filter (fun o => decide (cmpP (turnP p o) q = 0)) = pre.filter (fun o => decide (cmpP (turnP p o) q = 0)) ++ [x] := by rw [List.filter_append]; simp [heq]
        have hpm : pre.filter (fun o => decide (cmpP (turnP p o) q = 0)) ++ [x] <+: mapsP p q := by rw [← hfl]; exact hpx.filter _
        have hYA : YieldAt Fence.wide 2 Tryz.prog l #[Value.slice av x.length cv] A5 _ := hY R S _ x _ A5 hR' (fun b hb => Nat.lt_of_lt_of_le (hSA2 b hb) T25.size) (hJ _ _ _ _ _ hR' hJ2 (T25.mono (by simp))) hpm (rep_on (Tch.up T25) hrep2) ⟨by have := TA.size; have := T25.size; omega, fun r hr => Nat.lt_of_lt_of_le (hRA2 r hr) T25.size⟩
        obtain ⟨fn, tmps, assign, body, hy, hRd⟩ := hYA
        gi_wp2
        refine (round_wide hRd).mono ?_
        rintro e B ⟨S', hg2, hor⟩
        have TB : Tch (O ++ R) W3 B := (TA.then0 T25).trans hg2.tch (fun _ h => h) (fun b hb => (hSn b hb).imp (fun h => List.mem_append_left _ h) id)
        have hSn' : ∀ b ∈ S', b ∈ O ∨ W3.heap.size ≤ b := fun b hb => (hg2.new b hb).elim (fun h => hSn b h) (fun h => .inr (by have := TA.size; have := T25.size; omega))
        have hgr : Grow S A2 S' B := (Grow.same (Tch.up T25) hSA2).trans hg2
        rcases hor with ⟨rfl, hj2⟩ | ⟨rfl, hx2⟩
        · gi_wp2
          have hres : ((∀ b ∈ S', b ∈ O ∨ W3.heap.size ≤ b) ∧ Tch (O ++ R) W3 B) ∧ J R S' ((pre ++ [x]).filter fun o => decide (cmpP (turnP p o) q = 0)) B := ⟨⟨hSn', TB⟩, by rw [hfl]; exact hj2⟩
          exact ⟨S', hgr, hres⟩
        · gi_wp2
          have hres : ((∀ b ∈ S', b ∈ O ∨ W3.heap.size ≤ b) ∧ Tch (O ++ R) W3 B) ∧ ∃ pre', pre' <+: mapsP p q ∧ Jx R S' pre' B := ⟨⟨hSn', TB⟩, _, hpm, hx2⟩
          exact ⟨S', hgr, hres⟩
      · have heq2 : (cmpP (turnP p x) q == 0) = false := by simpa using heq
        have hfl : (pre ++ [x]).filter (fun o => decide (cmpP (turnP p o) q = 0)) = pre.filter (fun o => decide (cmpP (turnP p o) q = 0)) := by rw [List.filter_append]; simp [heq]
        gi_wp2
        refine ⟨(fun f hf => by cases hf), ?_⟩
        gi_wp2
        have hres : ((∀ b ∈ S, b ∈ O ∨ W3.heap.size ≤ b) ∧ Tch (O ++ R) W3 A5) ∧ J R S ((pre ++ [x]).filter fun o => decide (cmpP (turnP p o) q = 0)) A5 := ⟨⟨hSn, TA.then0 T25⟩, by rw [hfl]; exact hJ _ _ _ _ _ hR' hJ2 (T25.mono (by simp))⟩
        exact ⟨S, Grow.same (Tch.up T25) hSA2, hres⟩
    · intro D R S V hD hDR hR hSR hI ht hDef
      have hR' : ∀ r ∈ R, W.heap.size ≤ r := fun r hr => by have := hR r hr; have := T03.size; omega
      have TP : Tch (O ++ R) V (V.putObj D (.deferred none)) := (tch_putObj _ _ _).mono (by simp [hDR])
      gi_wp2
      refine ⟨by simp, .inl ⟨D, _, rfl, run_takeDeferred hDef, ?_⟩⟩
      exact ⟨_, results_none rfl _ _ _, ⟨_, rfl⟩, R, S, hR', (T03.ahead0 hI.1.2).trans0 TP, fun b hb => (hI.1.1 b hb).imp id (fun h => by have := T03.size; omega), .inl (hJ _ _ _ _ _ hR' hI.2 ((tch_putObj _ _ _).mono (by simp [hDR])))⟩
    · intro D R S pre V hD hDR hR hSR hpre hI ht hDef
      have hR' : ∀ r ∈ R, W.heap.size ≤ r := fun r hr => by have := hR r hr; have := T03.size; omega
      have TP : Tch (O ++ R) V (V.putObj D (.deferred none)) := (tch_putObj _ _ _).mono (by simp [hDR])
      gi_wp2
      refine ⟨by simp, .inl ⟨D, _, rfl, run_takeDeferred hDef, ?_⟩⟩
      obtain ⟨pre', h1, h2⟩ := hI.2
      exact ⟨_, results_none rfl _ _ _, ⟨_, rfl⟩, R, S, hR', (T03.ahead0 hI.1.2).trans0 TP, fun b hb => (hI.1.1 b hb).imp id (fun h => by have := T03.size; omega), .inr ⟨pre', h1, hJx _ _ _ _ _ hR' h2 ((tch_putObj _ _ _).mono (by simp [hDR]))⟩⟩
  · have hl2 : ((p.labels.length : Int) != (q.labels.length : Int)) = true := by simp; omega
    gi_wp2
    exact ⟨_, results_none rfl _ _ _, ⟨_, rfl⟩, [], O, by simp, Tch.up T02, fun b hb => .inl hb, .inl (by rw [maps_nil hl]; exact hJ [] O [] W W2 (by simp) (hj [] (by simp)) T02)⟩
end Go.Proofs.YteigfapjiekdnaaGreatDoor
end
