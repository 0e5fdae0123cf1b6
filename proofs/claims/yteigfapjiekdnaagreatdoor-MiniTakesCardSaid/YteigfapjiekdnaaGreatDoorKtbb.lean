/- Merged: Own Lst Scp Str Num Gvr Ptx Cpe Alk Cag Lca Grw Pid. -/
import Derived.Test.YteigfapjiekdnaaGreatDoorKtba
import Derived.Shelf.Strings.OnBuilder
import Derived.Shelf.Strconv.Itoa3
import Derived.Test.YteigfapjiekdnaaGreatDoorRows
import Derived.Lib.ItoaNum
import Derived.Lib.AtoiAll
import Derived.Lib.IndexMore
import Derived.Test.YteigfapjiekdnaaGreatDoorSxu
import Derived.Test.YteigfapjiekdnaaGreatDoorCtx
import Derived.Lib.LaidTab
import Derived.Test.YteigfapjiekdnaaGreatDoorKtaf
import Derived.Lib.Join
import Derived.Test.YteigfapjiekdnaaGreatDoorKtax
import Derived.Test.YteigfapjiekdnaaGreatDoorKtaj
import Derived.Test.YteigfapjiekdnaaGreatDoorKtas
import Derived.Test.YteigfapjiekdnaaGreatDoorKtao
import Derived.Test.YteigfapjiekdnaaGreatDoorKtaw
section
/- slices.AppendSeq, Collect of an iterator that yields lists of ints; canon.Own. -/
namespace Go.Proofs.YteigfapjiekdnaaGreatDoor
open Go.Sx Go.RowKit Go.Reg Go.Gr

set_option maxRecDepth 100000
attribute [local go_sem] Oper.semAt_some
theorem wpListIn_append_run {F : Fence} {n : Nat} {P : Program} {w w' : World} {ops : Array Oper} {rest : List Oper} {o : Oper} {a : Act} {Q : Exit → Act → World → Prop} (hg : o.guard = none) (s x : Operand) (t : TypeId)
    (hop : o.op = Op.call { callee := Callee.builtin Builtin.append, args := #[s, x], argTypes := #[t, t] }) {v y v' : Value} (hs : a.eval s = v) (hx : a.eval x = y) (hrun : (Builtin.append_ #[t, t] o.type #[v, y]).run P w = .ok v' w')
    (hK : wpListIn F n P ops Q rest (a.put o.dst v') w') : wpListIn F n P ops Q (o :: rest) a w := by
  refine wpListIn_plain hg fun K hK' => ?_
  unfold Oper.wpIn
  refine ⟨?_, ?_⟩
  · simp [Oper.about, hop, resolve, Target.leads, Sem.run_pure]
  · rw [Oper.semAt_plain F _ _ (by rw [hop]; intro c hc'; cases hc')]
    simp [execOp, hop, resolve, invoke, builtin, hs, hx, hrun, Result.andThen]
    exact hK' _ _ hK
theorem rep_cell {O : List Nat} {w : World} {l : List Int} {v : Value} (h : Rep O w (dInts l) v) : RepC O w (dInts l) [v] := by
  obtain ⟨cs, h1, rfl⟩ := h
  obtain ⟨a, c, rfl, _⟩ := rep_list_val h1
  exact h1
/-- what the loop of AppendSeq keeps -/
def ColI (b2 : Nat) (O : List Nat) (W1 : World) (R S : List Nat) (pre : List (List Int)) (A : World) : Prop :=
  (∀ b ∈ b2 :: O, b ∈ S) ∧ Tch (b2 :: R) W1 A ∧ ∃ v css, A.heap[b2]? = some (Obj.cells #[v] 41) ∧ Sl 22 1 id A v css ∧ (∀ b, v.ownBlock = some b → b ∈ S ∧ b ∉ R ∧ W1.heap.size ≤ b) ∧ RepCss (S ++ R) A (pre.map dInts) css ∧ ∀ x ∈ css, RowOk 1 x
theorem colI_abides {b2 : Nat} {O : List Nat} {W1 : World} {R S : List Nat} {pre : List (List Int)} {A B : World} (hb2 : b2 < W1.heap.size) (hR : ∀ r ∈ R, W1.heap.size ≤ r) (h : ColI b2 O W1 R S pre A) (t : Tch R A B) : ColI b2 O W1 R S pre B := by
  obtain ⟨h1, h2, v, css, h3, h4, h5, h6, h7⟩ := h
  exact ⟨h1, h2.trans0 (t.mono (by simp +contextual)), v, css, heap_ne t h3 (fun hm => by have := hR _ hm; omega), h4.keep t (fun b hb => (h5 b hb).2.1), h5, RepCss.later (Tch.later (t.mono (T := S ++ R) (by simp +contextual))) _ _ h6, h7⟩
set_option maxHeartbeats 1000000 in
theorem append_seq (xs : List (List Int)) (hxs : xs.length ≤ 1000000) {O : List Nat} {w : World} {fv : Value} (hO : ∀ b ∈ O, b < w.heap.size)
    (hseq : ∀ (O' : List Nat) (l : Nat) (W : World), Later O w O' W → (∀ b ∈ O', b < W.heap.size) → SeqAt C1 fv xs O' l W) :
    CallsIn Fence.wide 4 Tryz.prog 133 #[.slice none 0 0, fv] w fun e B => ∃ v, e = .returned v ∧ Rep O B (.list 1 (xs.map dInts)) v ∧ Tch [] w B := by
  refine callsIn_of_wp_marks (n := 4) Tryz.func133 rfl trivial ?_ rfl
  simp only [Tryz.ntmps133, List.size_toArray, List.length_cons, List.length_nil, Nat.reduceAdd, Nat.reduceSub, Array.replicate_succ, Array.replicate_zero, List.push_toArray, List.append_toArray, List.nil_append, List.cons_append]
  gi_wp2
  obtain ⟨W1, hW1⟩ : ∃ W1, w.alloc (Obj.cells #[Value.slice none 0 0] 41) = W1 := ⟨_, rfl⟩
  have T1 : Tch [] w W1 := by rw [← hW1]; exact Tch.alloc _ _ _
  have H2 : W1.heap[w.heap.size]? = some (Obj.cells #[Value.slice none 0 0] 41) := by rw [← hW1]; exact World.alloc_heap_new _ _
  rw [hW1]
  clear hW1
  obtain ⟨b2, hb2⟩ : ∃ b, w.heap.size = b := ⟨_, rfl⟩
  rw [hb2] at H2
  simp only [hb2]
  have hb2lt := (Array.getElem?_eq_some_iff.1 H2).1
  have hs1 := T1.size
  have hO1 : ∀ b ∈ b2 :: O, b < W1.heap.size := fun b hb => by
    rcases List.mem_cons.1 hb with rfl | hb
    · exact hb2lt
    · have := hO b hb; omega
  refine wpIn_itr (C := C1) xs (b2 :: O) hO1 rfl (fun V t hs => ?_) (ColI b2 O W1) (fun _ _ _ _ => False) (fun R S pre A B hR h t => colI_abides hb2lt hR h t) (fun _ _ _ _ _ _ h _ => h)
    (fun R V hR t => ⟨fun b hb => hb, t.mono (by simp), _, [], heap_on t H2, Sl.nil _ _ _ _, (fun b hb => by cases hb), by simp [RepCss], by simp⟩) ?_ ?_ (fun _ _ _ _ _ _ _ _ _ _ h => h.elim)
  · exact hseq _ _ _ (later_new (T1.then0 t) (fun x hx => by
      rcases List.mem_cons.1 hx with rfl | hx
      · left; omega
      rcases List.mem_cons.1 hx with rfl | hx
      · left; omega
      rcases List.mem_cons.1 hx with rfl | hx
      · left; omega
      · exact .inr hx)) (fun b hb => by
      rcases List.mem_cons.1 hb with rfl | hb
      · omega
      rcases List.mem_cons.1 hb with rfl | hb
      · omega
      · have := hO1 b hb; omega)
  · intro l R S pre x v A hl hlR hR hSA hSR hI hpx hrep hsz hRA
    rw [show C1.P = Tryz.prog from rfl]
    obtain ⟨av, cv, rfl, _, _⟩ := rep_list_shape hrep
    gi_wp2
    refine ⟨Tch.refl _ _, fun A2 TA2 => ?_⟩
    have hI := colI_abides hb2lt hR hI (TA2.mono (T := R) (by simpa using hlR))
    have hrep2 := rep_on (TA2.mono (T := S ++ R) (by simp [hlR])) hrep
    have hSA2 : ∀ b ∈ S, b < A2.heap.size := fun b hb => Nat.lt_of_lt_of_le (hSA b hb) TA2.size
    have hRA2 : ∀ r ∈ R, r < A2.heap.size := fun r hr => Nat.lt_of_lt_of_le (hRA r hr) TA2.size
    clear hrep TA2 hsz
    obtain ⟨h1, tA, u, css, g2, hsl, hown, hcss, hrow⟩ := hI
    have c2 : A2.cell? ⟨b2, 0, none⟩ = some u := by simp only [World.cell?, g2]; rfl
    have hb2S : b2 ∈ S := h1 b2 (by simp)
    have hpl : pre.length ≤ 1000000 := by
      have := hpx.length_le
      simp only [List.length_append, List.length_singleton] at this
      omega
    have hcl : css.length = pre.length := by rw [css_len hcss, List.length_map]
    have hcx := rep_cell hrep2
    have TA1 : Tch [] A2 (A2.alloc (Obj.cells #[Value.slice av x.length cv] 22)) := Tch.alloc _ _ _
    have hslA := hsl.keep TA1 (fun b _ => by simp)
    have hcellA : (A2.alloc (Obj.cells #[Value.slice av x.length cv] 22)).cell? ⟨A2.heap.size, 0, none⟩ = some (Value.slice av x.length cv) := by
      simp only [World.cell?]
      rw [World.alloc_heap_new]; rfl
    obtain ⟨v', A4, css2, ha1, ha2, ha3, ha4, ha5, ha6⟩ := append_any (P := Tryz.prog) (w := A2.alloc (Obj.cells #[Value.slice av x.length cv] 22)) (v := u) (vy := .slice (some ⟨A2.heap.size, 0, none⟩) 1 1) (c1_ok.ty (t := 41) rfl) rfl (c1_ok.ty (t := 22) rfl) (by decide) (by decide) hslA
      (O := S ++ R) (es := [dInts x]) ⟨⟨_, _, [[Value.slice av x.length cv]], rfl, by
        simp only [RepCss]
        refine ⟨[Value.slice av x.length cv], [], rfl, ?_, rfl⟩
        have h9 := RepC.later (Tch.later (Tch.up (O := S ++ R) TA1)) _ _ hcx
        exact h9, by intro y hy; simp at hy; subst hy; exact ⟨rfl, by intro z hz; simp at hz; subst hz; rfl⟩, .inr ⟨A2.heap.size, 0, rfl, fun j z hj => by
          cases j with
          | zero => simp at hj; subst hj; exact hcellA
          | succ j => simp at hj⟩⟩⟩ (by rw [hcl]; exact Nat.le_trans (m := 1000001) (by simp; omega) (by decide)) 41
    have hne : css ++ css2 ≠ [] := fun e => by
      have := css_len ha3
      rw [(List.append_eq_nil_iff.1 e).2] at this
      simp at this
    rcases ha2.shape with ⟨_, e⟩ | ⟨gv, cap, rfl, _⟩
    · exact absurd e hne
    have e9 : (css ++ css2).length = pre.length + css2.length := by rw [List.length_append, hcl]
    rw [e9] at ha1 ha2 ha6
    have g2A : A4.heap[b2]? = some (Obj.cells #[u] 41) := heap_ne ha5 (heap_on TA1 g2) (fun hm => by
      have h9 : u.ownBlock = some b2 := by simpa using hm
      have := (hown b2 h9).2.2; omega)
    have c2A : A4.cell? ⟨b2, 0, none⟩ = some u := by simp only [World.cell?, g2A]; rfl
    have f2A : A4.frozen? ⟨b2, 0, none⟩ = false := by simp [World.frozen?, g2A]
    have hgv : gv ∈ S ∨ A2.heap.size ≤ gv := by
      rcases ha6 with h | h
      · exact .inl (hown gv h.symm).1
      · right
        have : gv = (A2.alloc (Obj.cells #[Value.slice av x.length cv] 22)).heap.size := by simpa [Value.ownBlock] using h
        rw [this]; simp
    have hgvR : gv ∉ R := fun hm => by
      rcases hgv with h | h
      · exact hSR gv h hm
      · have := hRA2 gv hm; omega
    have hgvW : W1.heap.size ≤ gv := by
      rcases ha6 with h | h
      · exact (hown gv h.symm).2.2
      · rcases hgv with h2 | h2
        · have : gv = (A2.alloc (Obj.cells #[Value.slice av x.length cv] 22)).heap.size := by simpa [Value.ownBlock] using h
          rw [this]; have := tA.size; simp; omega
        · have := tA.size; omega
    have hgv2 : ¬ b2 = gv := by omega
    have TA4 : Tch S A2 A4 := (Tch.up TA1).trans0 (ha5.mono (fun b hb => by
      have : u.ownBlock = some b := by simpa using hb
      exact (hown b this).1))
    have hgvlt : gv < A4.heap.size := ha2.lt rfl
    gi_wp2_with (gi_at_builtin; refine wpListIn_append_run rfl _ _ _ rfl rfl rfl ha1 ?_)
    obtain ⟨vN, hvN⟩ : ∃ vN, Value.slice (some ⟨gv, 0, none⟩) (pre.length + css2.length) cap = vN := ⟨_, rfl⟩
    have hvo : vN.ownBlock = some gv := by rw [← hvN]; rfl
    rw [hvN] at ha2
    simp only [hvN]
    have TS : Tch [b2] A4 (A4.setCell ⟨b2, 0, none⟩ vN) := (Tch.refl [b2] A4).andSet (.inl (by simp)) _
    have T24 : Tch S A2 (A4.setCell ⟨b2, 0, none⟩ vN) := TA4.trans0 (TS.mono (by simpa using hb2S))
    have hgr : Grow S A2 (gv :: S) (A4.setCell ⟨b2, 0, none⟩ vN) := ⟨T24, fun b hb => by simp [hb], fun b hb => by
      rcases List.mem_cons.1 hb with rfl | hb
      · exact hgv
      · exact .inl hb, fun b hb => by
      rcases List.mem_cons.1 hb with rfl | hb
      · exact Nat.lt_of_lt_of_le hgvlt TS.size
      · exact Nat.lt_of_lt_of_le (hSA2 b hb) T24.size⟩
    have LS : Later (S ++ R) A2 (gv :: S ++ R) (A4.setCell ⟨b2, 0, none⟩ vN) := ⟨T24.size, fun b hb hn => T24.blk b hb (fun hm => hn (List.mem_append_left _ hm)), fun b hn hb hm => by
      simp only [List.cons_append, List.mem_cons, List.mem_append] at hm
      rcases hm with rfl | hm | hm
      · rcases hgv with h | h
        · exact hn (List.mem_append_left _ h)
        · omega
      · exact hn (List.mem_append_left _ hm)
      · exact hn (List.mem_append_right _ hm)⟩
    have hgvA : gv ∈ S ∨ (A2.alloc (Obj.cells #[Value.slice av x.length cv] 22)).heap.size ≤ gv := by
      rcases ha6 with h | h
      · exact .inl (hown gv h.symm).1
      · right
        have : gv = (A2.alloc (Obj.cells #[Value.slice av x.length cv] 22)).heap.size := by simpa [Value.ownBlock] using h
        omega
    have L2 : Later (S ++ R) (A2.alloc (Obj.cells #[Value.slice av x.length cv] 22)) (gv :: S ++ R) (A4.setCell ⟨b2, 0, none⟩ vN) := ⟨Nat.le_trans ha5.size TS.size, fun b hb hn => by
      rw [TS.blk b (Nat.lt_of_lt_of_le hb ha5.size) (fun hm => hn (List.mem_append_left _ (by rw [List.mem_singleton.1 hm]; exact hb2S)))]
      exact ha5.blk b hb (fun hm => hn (List.mem_append_left _ (hown b (by simpa using hm)).1)), fun b hn hb hm => by
      simp only [List.cons_append, List.mem_cons, List.mem_append] at hm
      rcases hm with rfl | hm | hm
      · rcases hgvA with h | h
        · exact hn (List.mem_append_left _ h)
        · omega
      · exact hn (List.mem_append_left _ hm)
      · exact hn (List.mem_append_right _ hm)⟩
    have TX : Tch (b2 :: u.ownBlock.toList) A2 (A4.setCell ⟨b2, 0, none⟩ vN) := ((Tch.up TA1).trans0 (ha5.mono (by simp +contextual))).trans0 (TS.mono (by simp))
    refine ⟨gv :: S, hgr, fun b hb => List.mem_cons_of_mem _ (h1 b hb), ?_, vN, css ++ css2, Boxed.set vN g2A, ha2.keep TS (fun b hb => by
      rw [hvo] at hb; cases hb; simp; omega), fun b hb => by
      rw [hvo] at hb; cases hb; exact ⟨by simp, hgvR, hgvW⟩, ?_, fun y hy => by
      rcases List.mem_append.1 hy with hy | hy
      · exact hrow y hy
      · exact ha4 y hy⟩
    · exact tA.trans TX (fun _ h => h) (fun b hb => by
        rcases List.mem_cons.1 hb with rfl | hb
        · left; simp
        · right; exact (hown b (by simpa using hb)).2.2)
    · rw [List.map_append]
      exact repCss_append (RepCss.later LS _ _ hcss) (RepCss.later L2 _ _ ha3)
  · intro D R S V hD hDR hR hSR hI ht hDef
    obtain ⟨h1, tV, u, css, g2, hsl, hown, hcss, hrow⟩ := hI
    have c2 : V.cell? ⟨b2, 0, none⟩ = some u := by simp only [World.cell?, g2]; rfl
    gi_wp2
    have TE : Tch (b2 :: R) W1 (V.putObj D (.deferred none)) := tV.trans0 ((tch_putObj _ _ _).mono (by simp [hDR]))
    have TP : Tch R V (V.putObj D (.deferred none)) := (tch_putObj _ _ _).mono (by simp [hDR])
    refine ⟨by simp, .inl ⟨D, _, rfl, run_takeDeferred hDef, ?_⟩⟩
    refine ⟨_, results_tmp rfl _ _ _, u, rfl, ?_, T1.trans TE (fun _ h => h) (fun b hb => by
      rcases List.mem_cons.1 hb with rfl | hb
      · right; omega
      · right; have := hR b hb; omega)⟩
    have LX : Later (S ++ R) V O (V.putObj D (.deferred none)) := ⟨TP.size, fun b hb hn => TP.blk b hb (fun hm => hn (List.mem_append_right _ hm)), fun b hn _ hm => hn (List.mem_append_left _ (h1 b (by simp [hm])))⟩
    exact rep_of_sl (hsl.keep TP (fun b hb => (hown b hb).2.1)) (fun b hb hm => by have := (hown b hb).2.2; have := hO b hm; omega) (RepCss.later LX _ _ hcss) hrow
theorem maps_le (p q : Pt) (h8 : p.labels.length ≤ 8) : (mapsP p q).length ≤ 40320 := by
  by_cases hl : p.labels.length = q.labels.length
  · have h1 : (mapsP p q).length ≤ (allO p.labels.length).length := nodup_len (maps_nodup p q) (fun o ho => by
      unfold mapsP at ho
      exact mem_allO.2 ((mem_ords hl.symm).1 (List.mem_filter.1 ho).1).1)
    rw [allO_len] at h1
    refine Nat.le_trans h1 ?_
    have : ∀ n, n ≤ 8 → facN n ≤ 40320 := by decide
    exact this _ h8
  · rw [maps_nil hl]; simp
theorem collect_pure {p q : Pt} (hp : pErr p = none) (hq : pErr q = none) (hE : p.edges.length ≤ 1000) (hE' : q.edges.length ≤ 1000) : Pure C1 82 [mapsD p q] (fun y => y = .list 1 ((mapsP p q).map dInts)) := by
  intro O w vs hO hg hr
  obtain ⟨fv, vs', rfl, hv, hr'⟩ := reps_inv hr
  obtain rfl := reps_inv0 hr'
  have h8 := (lErr_none (pErr_none hp).1).1
  have ha := append_seq (mapsP p q) (Nat.le_trans (maps_le p q h8) (by decide)) (fv := fv) hO (fun O' l W hL hO' => maps_seq hp hq hE hE' hO' (glob_later hL hg) (hv.later hL))
  refine ⟨by kernel_rfl, ?_⟩
  show Calls Tryz.prog _ _ _ _
  refine callsIn_wide.1 (callsIn_of_wp (n := 5) Tryz.func82 rfl trivial ?_ rfl)
  simp only [Tryz.ntmps82, List.size_toArray, List.length_cons, List.length_nil, Nat.reduceAdd, Nat.reduceSub, Array.replicate_succ, Array.replicate_zero, List.push_toArray, List.append_toArray, List.nil_append, List.cons_append]
  gi_wp2
  refine ⟨trivial, ha.mono ?_⟩
  rintro e B ⟨v, rfl, hr, t⟩
  gi_wp2
  go_ret
  exact ⟨v, _, rfl, rfl, hr, t⟩
def pl_cow : List (Nat × Plan) := []
def G_cow : List FuncId := [31, 83, 82]
theorem cok_cow : codeOk Tryz.prog G_cow pl_cow (Tryz.f34.body.getD .skip) = true := by kernel_rfl
theorem run_cow (vs : Array Value) (w : World) : (callFunc 34 vs).run C1.P w = .ok (.enter 34 vs) w := by kernel_rfl
theorem own_pure {p : Pt} (hp : pErr p = none) (hE : p.edges.length ≤ 1000) : Pure C1 34 [dPt p] (fun y => y = .tuple [.list 1 ((mapsP p p).map dInts), .nili]) := by
  have hri := pright_pure p (by have := (lErr_none (pErr_none hp).1).1; omega) (by omega)
  rw [rightP_none hp] at hri
  have hm := maps_pure p p
  have hc := collect_pure hp hp hE hE
  refine pure_of c1_ok (pl := pl_cow) (G := G_cow) Tryz.func34 rfl Tryz.ntmps34 run_cow cok_cow (by simp) ?_
  (conv => whnf)
  (repeat' ((first | refine ord_ok (by (conv => whnf); (repeat' ((first | refine call_eq rfl hri ?_ | refine call_eq rfl hm ?_ | refine call_eq rfl hc ?_ | refine ify ?_ | refine ifn ?_ | refine i6 ?_ | refine ati ?_ | refine mst ?_ | refine rmd ?_ | refine ibo (fun _ => ?_) (fun _ => ?_)) <;> conv => whnf)); (all_goals (repeat' (first | exact trivial | exact rfl | refine And.intro ?_ ?_)))) ?_ | refine call_eq rfl hri ?_ | refine call_eq rfl hm ?_ | refine call_eq rfl hc ?_ | refine ify ?_ | refine ifn ?_ | refine i6 ?_ | refine ati ?_ | refine mst ?_ | refine rmd ?_ | refine ibo (fun _ => ?_) (fun _ => ?_)) <;> conv => whnf))
  exact rfl
end Go.Proofs.YteigfapjiekdnaaGreatDoor
end

section
/- Scripts, plain: bytes, words, lines, texts; what a text's parse is. -/
namespace Go.Gr
open Go
/-- words of kinds -/
def nmB : Nat → List UInt8
  | 0 => [119, 111, 114, 107]
  | 1 => [100, 101, 108, 105, 118, 101, 114]
  | 2 => [100, 111, 117, 98, 108, 101]
  | 3 => [99, 114, 97, 115, 104]
  | 4 => [112, 97, 115, 115]
  | _ => [102, 105, 110, 105, 115, 104]
/-- the line of an act, without its end -/
def lnB (k n : Nat) : List UInt8 := if k < 4 then nmB k ++ 32 :: Lib.decDigits n else nmB k

/-- acts that are right -/
def actOk (p : Nat × Nat) : Prop := p.1 < 6 ∧ p.2 ≤ 999999 ∧ (3 < p.1 → p.2 = 0)
def IsAct (b : List UInt8) (p : Nat × Nat) : Prop := actOk p ∧ b = lnB p.1 p.2
/-- what a text's parse is: its acts ahead of the first line that is none; is there no such line? -/
inductive Pars : List UInt8 → List (Nat × Nat) → Bool → Prop
  | nil : Pars [] [] true
  | line {b : List UInt8} {p : Nat × Nat} {r : List UInt8} {l : List (Nat × Nat)} {ok : Bool} : IsAct b p → Pars r l ok → Pars (b ++ 10 :: r) (p :: l) ok
  | bad {b r : List UInt8} : 10 ∉ b → (∀ p, ¬ IsAct b p) → Pars (b ++ 10 :: r) [] false
  | last {b : List UInt8} : 10 ∉ b → b ≠ [] → Pars b [] false
end Go.Gr
end

section
/- strconv.Itoa, strings.Join, told for the engine (the table of powers is known). pat: Text. -/
namespace Go.Proofs.YteigfapjiekdnaaGreatDoor
open Go.Sx Go.RowKit Go.Reg Go.Gr Go.Shelf

set_option maxRecDepth 100000
/-- with the table of powers -/
noncomputable def C3 : Cx := ⟨Tryz.prog, C1.Γ ++ [(1, .agg (Lib.pow10Tab.map (Da.int .u64)))]⟩
end Go.Proofs.YteigfapjiekdnaaGreatDoor
end

section
/- canon.Alike, Key, Is. -/
namespace Go.Proofs.YteigfapjiekdnaaGreatDoor
open Go.Sx Go.RowKit Go.Reg Go.Gr

set_option maxRecDepth 100000
theorem pt_of {p : Pt} (hp : pErr p = none) : PtOk p.labels.length p := ⟨rfl, (pErr_none hp).2.1, (pErr_none hp).2.2⟩
theorem form_len {p : Pt} (hp : pErr p = none) : (formP p).labels.length = p.labels.length ∧ (formP p).edges.length = p.edges.length := by
  obtain ⟨_, h1, h2, _⟩ := form_spec (pt_of hp)
  rw [h2]
  exact ⟨turnP_len _ _, turnP_edge_len h1 (pt_of hp)⟩
def pl_cis : List (Nat × Plan) := []
def G_cis : List FuncId := [20, 62]
theorem cok_cis : codeOk Tryz.prog G_cis pl_cis (Tryz.f43.body.getD .skip) = true := by kernel_rfl
theorem run_cis (vs : Array Value) (w : World) : (callFunc 43 vs).run C1.P w = .ok (.enter 43 vs) w := by kernel_rfl
theorem is_pure {p : Pt} (hp : pErr p = none) (hE : p.edges.length ≤ 1000) : Pure C1 43 [dPt p] (fun y => y = .bool (decide (formP p = p))) := by
  have h1 := form_pure p hp hE
  have l1 := (lErr_none (pErr_none hp).1).1
  obtain ⟨f1, f2⟩ := form_len hp
  have hc := ptcompare_pure (formP p) p (by omega) (by omega) (by omega) (by omega)
  refine pure_of c1_ok (pl := pl_cis) (G := G_cis) Tryz.func43 rfl Tryz.ntmps43 run_cis cok_cis (by simp) ?_
  by_cases h : formP p = p
  · rw [show cmpP (formP p) p = 0 from (torP.eq0 _ _).2 h] at hc
    rw [decide_eq_true h]
    (conv => whnf)
    (repeat' ((first | refine ord_ok (by (conv => whnf); (repeat' ((first | refine call_eq rfl h1 ?_ | refine call_eq rfl hc ?_ | refine ify ?_ | refine ifn ?_ | refine i6 ?_ | refine ati ?_ | refine mst ?_ | refine rmd ?_ | refine ibo (fun _ => ?_) (fun _ => ?_)) <;> conv => whnf)); (all_goals (repeat' (first | exact trivial | exact rfl | refine And.intro ?_ ?_)))) ?_ | refine call_eq rfl h1 ?_ | refine call_eq rfl hc ?_ | refine ify ?_ | refine ifn ?_ | refine i6 ?_ | refine ati ?_ | refine mst ?_ | refine rmd ?_ | refine ibo (fun _ => ?_) (fun _ => ?_)) <;> conv => whnf))
    exact rfl
  · have h0 : cmpP (formP p) p ≠ 0 := fun e => h ((torP.eq0 _ _).1 e)
    generalize cmpP (formP p) p = z at hc h0
    rw [decide_eq_false h]
    (conv => whnf)
    (repeat' ((first | refine ord_ok (by (conv => whnf); (repeat' ((first | refine call_eq rfl h1 ?_ | refine call_eq rfl hc ?_ | refine ify ?_ | refine ifn ?_ | refine i6 ?_ | refine ati ?_ | refine mst ?_ | refine rmd ?_ | refine ibo (fun _ => ?_) (fun _ => ?_)) <;> conv => whnf)); (all_goals (repeat' (first | exact trivial | exact rfl | refine And.intro ?_ ?_)))) ?_ | refine call_eq rfl h1 ?_ | refine call_eq rfl hc ?_ | refine ify ?_ | refine ifn ?_ | refine i6 ?_ | refine ati ?_ | refine mst ?_ | refine rmd ?_ | refine ibo (fun _ => ?_) (fun _ => ?_)) <;> conv => whnf))
    exact congrArg Da.bool (decide_eq_false h0)
end Go.Proofs.YteigfapjiekdnaaGreatDoor
end

section
/- A struct of given-up things as an argument. -/
namespace Go.Sx
open Go Go.RowKit Go.Reg
theorem datas_repDs {η : Nat → Value} {I O : List Nat} {w : World} : ∀ {xs : List Da} {cs : List Value}, RepDs η I O w (datas xs) cs → RepCs O w xs cs
  | [], cs, h => by simpa only [datas, RepDs, RepCs] using h
  | x :: xs, cs, h => by
    simp only [datas, RepDs, RepD] at h
    obtain ⟨c1, c2, rfl, h1, h2⟩ := h
    simp only [RepCs]
    exact ⟨c1, c2, rfl, h1, datas_repDs h2⟩
/-- the same, as the second argument -/
theorem call_agg2 {C : Cx} {fr : Fr} {σ : Sg} {q : Bool} {f : FuncId} {d0 : Dat} {ds : List Dat} {xs : List Da} {rest : List Dat} {K : KD} (h : allD ds = some xs) (hc : SxCall C q f (d0 :: .d (.agg xs) :: rest) K fr σ) : SxCall C q f (d0 :: .agg ds :: rest) K fr σ := by
  unfold SxCall at hc ⊢
  rintro B S w0 η φ n a w vs hM ⟨css, hr, rfl⟩
  simp only [RepDss] at hr
  obtain ⟨c1, c2, rfl, r1, c3, c4, rfl, r2, r3⟩ := hr
  rw [allD_datas h] at r2
  simp only [RepD] at r2
  exact hc B S w0 η φ n a w _ hM ⟨c1 :: c3 :: c4, by simp only [RepDss, RepD, RepC]; exact ⟨c1, c3 :: c4, rfl, r1, c3, c4, rfl, datas_repDs r2, r3⟩, rfl⟩
section
variable {C : Cx} {T : Tab} {B S : List Nat} {w0 w : World} {n : Nat} {fr : Fr} {σ : Sg} {η : Nat → Value} {φ : Nat → List Nat} {a : Act} {i : Nat} {t : TypeId} {xs : List Da}
theorem Models.cellsRefR (hM : Models C B S w0 n fr σ η φ a w) (hg : sget i σ = some (.cells t (datas xs))) : Later (B ++ blocks φ σ) w (B ++ blocks φ (sdel (killO i (.ref (.agg xs))) i σ)) w ∧ RepC (B ++ blocks φ (sdel (killO i (.ref (.agg xs))) i σ)) w (.ref (.agg xs)) [η i] := by
  have hm := hM.mem
  have hi := mem_ids (sget_mem hg)
  have hsub : ∀ b ∈ B ++ blocks φ (sdel (killO i (.ref (.agg xs))) i σ), b ∈ B ∨ ∃ j ∈ ids σ, j ≠ i ∧ b ∈ φ j := by
    intro b hb
    rcases List.mem_append.1 hb with hb | hb
    · exact .inl hb
    · obtain ⟨p, hp, hb⟩ := List.mem_flatMap.1 hb
      obtain ⟨q, hq, hne, rfl⟩ := mem_sdel hp
      exact .inr ⟨q.1, mem_ids hq, hne, hb⟩
  have hl : Later (B ++ blocks φ σ) w (B ++ blocks φ (sdel (killO i (.ref (.agg xs))) i σ)) w := ⟨Nat.le_refl _, fun _ _ _ => rfl, fun b hn _ hb => by
    rcases hsub b hb with h | ⟨j, hj, _, h⟩
    · exact hn (List.mem_append_left _ h)
    · exact hn (List.mem_append_right _ (mem_blocks hj h))⟩
  refine ⟨hl, ?_⟩
  obtain ⟨b, cs, e1, e2, hB, hrr⟩ := hm.own _ (sget_mem hg)
  have hr2 := RepCs.later hl _ _ (repDs_datas.1 hrr)
  have hbi : b ∈ φ i := by rw [show φ i = [b] from e2]; simp
  simp only [RepC]
  refine ⟨b, 0, cs, by rw [show η i = _ from e1], fun hb => ?_, hB.lt, hr2, fun j u hj => by rw [Nat.zero_add]; exact hB.cell hj⟩
  rcases hsub b hb with h | ⟨j, hj, hne, h⟩
  · exact notIn_B hm hi hbi h
  · exact hm.disj j hj i hi hne b h hbi
/-- a call, before which an owned struct is given up -/
theorem call_frzR (i : Nat) {q : Bool} {f : FuncId} {args : List Dat} {K : KD} {ds : List Dat} (hg : sget i σ = some (.cells t ds)) (ha : allD ds = some xs) (h : SxCall C q f (kills i (.ref (.agg xs)) args) K (killF i (.ref (.agg xs)) fr) (sdel (killO i (.ref (.agg xs))) i σ)) : SxCall C q f args K fr σ := by
  have hd := allD_datas ha
  subst hd
  unfold SxCall at h ⊢
  rintro B S w0 η φ n a w vs hM ⟨css, hr, rfl⟩
  obtain ⟨hl, hr0⟩ := hM.cellsRefR hg
  have hI : ∀ j ∈ ids σ, j ≠ i → j ∈ ids (sdel (killO i (.ref (.agg xs))) i σ) ∧ η j = η j := fun j hj hne => ⟨by rw [ids_sdel]; exact List.mem_filter.2 ⟨hj, by simpa using hne⟩, rfl⟩
  have hr' := RepDss.kill (x := .ref (.agg xs)) rfl hl hI hr0 _ _ hr
  obtain ⟨h1, h2⟩ := hM.mem.del (x := .ref (.agg xs)) rfl hr0
  have hM' : Models C B S w0 n (killF i (.ref (.agg xs)) fr) (sdel (killO i (.ref (.agg xs))) i σ) η φ a w := ⟨h1, hM.fr.kill rfl h2 hI hr0, hM.defers, hM.size⟩
  exact h B S w0 η φ n a w _ hM' ⟨css, hr', by rw [zip_kills rfl]⟩
end
end Go.Sx
end

section
/- law09: alive, small. -/
namespace Go.Proofs.YteigfapjiekdnaaGreatDoor
open Go.Sx Go.RowKit Go.Reg Go.Gr

set_option maxRecDepth 100000
/-- few pairs are there -/
theorem edges_le {n : Nat} {p : Pt} (hp : PtOk n p) (h8 : n ≤ 8) : p.edges.length ≤ 64 := by
  have hd : DecidableEq Edg := fun x y => decidable_of_iff (cmpE x y = 0) (cmpE_eq x y)
  have h := nodup_len hp.strict.nodup (m := (List.range 8).flatMap fun a : Nat => (List.range 8).map fun b : Nat => (⟨(a : Int), (b : Int)⟩ : Edg)) (fun e he => by
    obtain ⟨i, j, hij, hj, rfl⟩ := edge_nat (hp.edge e he)
    exact List.mem_flatMap.2 ⟨i, List.mem_range.2 (by omega), List.mem_map.2 ⟨j, List.mem_range.2 (by omega), rfl⟩⟩)
  refine Nat.le_trans h ?_
  rw [flatMap_len (k := 8) (fun x _ => by simp)]
  simp
theorem pt_edges {p : Pt} (hp : pErr p = none) : p.edges.length ≤ 64 := edges_le (pt_of hp) (lErr_none (pErr_none hp).1).1
end Go.Proofs.YteigfapjiekdnaaGreatDoor
end

section
/- perm: Id, times, Of. -/
namespace Go.Gr
open Go.Proofs.YteigfapjiekdnaaGreatDoor
theorem idL_succ (i : Nat) : idL (i + 1) = idL i ++ [(i : Int)] := by unfold idL; rw [List.range_succ, List.map_append]; rfl
theorem idL_len (n : Nat) : (idL n).length = n := by unfold idL; simp
theorem facN_pos : ∀ n, 0 < facN n
  | 0 => by decide
  | n + 1 => Nat.mul_pos (by omega) (facN_pos n)
theorem facN_le : ∀ n, n ≤ 8 → facN n ≤ 40320 := by decide
end Go.Gr
namespace Go.Proofs.YteigfapjiekdnaaGreatDoor
open Go.Sx Go.RowKit Go.Reg Go.Gr

set_option maxRecDepth 100000
def pl_pid : List (Nat × Plan) := []
def G_pid : List FuncId := []
theorem cok_pid : codeOk Tryz.prog G_pid pl_pid (Tryz.f77.body.getD .skip) = true := by kernel_rfl
theorem run_pid (vs : Array Value) (w : World) : (callFunc 77 vs).run C1.P w = .ok (.enter 77 vs) w := by kernel_rfl
/-- what Of keeps: c to go, the list so far, what is left, the rank -/
structure OfI (n : Nat) (s : Nat × Int × List Int × List Int × Nat) : Prop where
  z : s.2.1 = (s.1 : Int) - 1
  len : s.2.2.2.1.length = s.1
  all : (s.2.2.1 ++ s.2.2.2.1).Perm (idL n)
  rank : s.2.2.2.2 < facN s.1
end Go.Proofs.YteigfapjiekdnaaGreatDoor
end
