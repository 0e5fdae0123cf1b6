/- The machine: Work. -/
import Derived.Test.YtlchegpgicdldaaDoorBso
namespace Go.Proofs.YtlchegpgicdldaaDoor
open Go.Sx Go.RowKit Go.Reg

set_option maxRecDepth 100000
theorem NetOk.send {B : Nat} {N : NetM} (h : NetOk B N) {a b : Int} (ha : 0 ≤ a) (ha' : a < N.workers) (hb : 0 ≤ b) (hb' : b < N.workers) (s : ByteArray) : NetOk (B + 1) (N.send a b s) := by
  have := h.act ⟨0, a, b, s⟩
  unfold NetM.act at this
  rw [if_pos rfl, if_pos ⟨ha, ha', hb, hb'⟩] at this
  exact this
def sendsN (N : NetM) (w : Nat) (l : List (Int × ByteArray)) : NetM := l.foldl (fun N m => N.send w m.1 m.2) N
theorem sendsN_snoc (N : NetM) (w : Nat) (l : List (Int × ByteArray)) (m : Int × ByteArray) : sendsN N w (l ++ [m]) = (sendsN N w l).send w m.1 m.2 := by simp [sendsN]
theorem sendsN_workers (N : NetM) (w : Nat) : ∀ (l : List (Int × ByteArray)), (sendsN N w l).workers = N.workers := by
  intro l
  induction l generalizing N with
  | nil => rfl
  | cons m l ih => exact (ih (N.send w m.1 m.2)).trans rfl
theorem sendsN_ok {B : Nat} {N : NetM} (h : NetOk B N) {w : Nat} (hw : (w : Int) < N.workers) {l : List (Int × ByteArray)} (hl : ∀ m ∈ l, 0 ≤ m.1 ∧ m.1 < N.workers) : NetOk (B + l.length) (sendsN N w l) := by
  induction l generalizing N B with
  | nil => exact h
  | cons m l ih =>
    obtain ⟨a1, a2⟩ := hl m (by simp)
    have h1 := h.send (a := w) (b := m.1) (by omega) hw a1 a2 m.2
    have := ih (N := N.send w m.1 m.2) h1 hw (fun x hx => hl x (by simp [hx]))
    have e : B + (m :: l).length = B + 1 + l.length := by simp only [List.length_cons]; omega
    rw [e]; exact this

/-- a job: its method's body, and what it tells -/
structure JobB (t : TypeId) (x : Da) (nx : Nat → ByteArray → List ByteArray → ByteArray) (ml : Nat → ByteArray → List (Int × ByteArray)) where
  g : FuncId
  meth : ∀ (v : Value) (args : Array Value) (w : World), (callMethod (.iface t v) "Work" args).run C1.P w = (callFunc g (#[v] ++ args)).run C1.P w
  law : ∀ (w : Nat) (r : Int) (s : ByteArray) (l : List ByteArray), w ≤ 1000 → s.size ≤ 1000 → l.length ≤ 100000 → (∀ x ∈ l, x.size ≤ 1000) →
    Pure C1 g [x, .int .i64 w, .int .i64 r, .str s, .list 1 (l.map dTx)] (fun y => y = .tuple [.str (nx w s l), .list 2 ((ml w s).map dMB), .nili])
structure MachOk (M : Mach) (B : Nat) : Prop where
  len : M.states.length ≤ 1000
  inb : M.inbox.length = M.states.length
  nxt : M.next.length = M.states.length
  wkd : M.worked.length = M.states.length
  wks : M.net.workers = M.states.length
  net : NetOk B M.net
  sts : ∀ s ∈ M.states, s.size ≤ 1000
  box : ∀ l ∈ M.inbox, l.length ≤ 100000 ∧ ∀ s ∈ l, s.size ≤ 1000
def Mach.did (M : Mach) (w : Nat) (s : ByteArray) (l : List (Int × ByteArray)) : Mach := { M with next := M.next.set w s, worked := M.worked.set w true, net := sendsN M.net w l }
def pl_mwork : List (Nat × Plan) := [(6, .leaf [0, 0, 0, 1, 0, 0, 0, 0, 1, 0, 0, 0, 1, 0, 0, 1, 0, 0, 0, 1, 0, 0, 1, 2, 0, 0, 3, 0, 0, 0, 0, 0, 0, 0] [0, 1, 2, 4, 5, 6, 7, 9, 10, 11, 13, 16, 17, 18, 20, 3, 24, 25, 8, 12, 14, 15, 19, 21, 22, 23, 26, 27, 28, 29, 30, 31, 32, 33] [0, 1, 3, 7, 0, 0, 32, 96, 224, 0, 512, 1536, 3584, 0, 15872, 32256, 0, 65536, 196608, 458752, 0, 2031616, 4128768, 8323072, 15, 16777231, 67108863, 134217727, 268435455, 268435455, 268435455, 536870911, 3221225471, 8589934591]),
  (19, .leaf [0, 0, 0, 1, 0, 0, 1, 0, 1, 3, 0] [0, 1, 2, 4, 5, 7, 3, 6, 8, 9, 10] [0, 1, 3, 7, 0, 0, 32, 0, 128, 511, 1023]),
  (23, .leaf [0, 0, 0, 1, 0, 0, 0, 0, 1, 0, 0, 0, 3, 0, 3] [0, 1, 2, 4, 5, 6, 7, 9, 10, 3, 8, 11, 12, 13, 14] [0, 1, 3, 7, 0, 0, 32, 96, 224, 0, 0, 1535, 3583, 8191, 16383])]
def G_mwork : List FuncId := [29]
theorem cok_mwork : codeOk Tryd.prog G_mwork pl_mwork (Tryd.f14.body.getD .skip) = true := by kernel_rfl
theorem run_mwork (vs : Array Value) (w : World) : (callFunc 14 vs).run C1.P w = .ok (.enter 14 vs) w := by kernel_rfl
theorem mwork_ok (M : Mach) {nx : Nat → ByteArray → List ByteArray → ByteArray} {ml : Nat → ByteArray → List (Int × ByteArray)} (J : JobB M.jt M.jx nx ml) {B : Nat} (hM : MachOk M B) (w : Nat) (s : ByteArray) (l : List ByteArray) (hs : M.states[w]? = some s) (hl : M.inbox[w]? = some l) (h0 : M.worked[w]? = some false)
    (hm : ∀ m ∈ ml w s, 0 ≤ m.1 ∧ m.1 < M.states.length) (hB : B + (ml w s).length ≤ 4294967296) :
    RecCall C1 14 [.own 900, .d (.int .i64 w)] (sM M) [900] (fun d σ => d = .d .nili ∧ σ = sM (M.did w (nx w s l) (ml w s))) := by
  have hlen := hM.len
  have hinb := hM.inb
  have hnxt := hM.nxt
  have hwkd := hM.wkd
  have hwl : w < M.states.length := (List.getElem?_eq_some_iff.1 hs).1
  have hs1 := hM.sts s (List.mem_of_getElem? hs)
  obtain ⟨hl1, hl2⟩ := hM.box l (List.mem_of_getElem? hl)
  have hsd : (M.states.map dTx)[w]? = some (.str s) := by rw [List.getElem?_map, hs]; rfl
  have hld : (M.inbox.map dTs)[w]? = some (.list 1 (l.map dTx)) := by rw [List.getElem?_map, hl]; rfl
  have hwd : (M.worked.map dB)[w]? = some (.bool false) := by rw [List.getElem?_map, h0]; rfl
  have k1 : (M.states.map dTx).length = M.states.length := List.length_map _
  have k2 : (M.inbox.map dTs).length = M.inbox.length := List.length_map _
  have k3 : (M.next.map dTx).length = M.next.length := List.length_map _
  have k4 : (M.worked.map dB).length = M.worked.length := List.length_map _
  have g1 : w < (M.states.map dTx).length := by omega
  have g2 : w < (M.inbox.map dTs).length := by omega
  have g4 : w < (M.worked.map dB).length := by omega
  have hcl := sclone_pure l (by omega)
  have hla := J.law w M.round s l (by omega) hs1 hl1 hl2
  have k5 : ((ml w s).map dMB).length = (ml w s).length := List.length_map _
  refine rec_of c1_ok (pl := pl_mwork) (G := G_mwork) Tryd.func14 rfl Tryd.ntmps14 run_mwork cok_mwork (by simp) 999 rfl ?_
  intro vs
  (conv => whnf)
  (repeat' ((first | refine ord_ok (by (conv => whnf); (repeat' ((first | refine call_req [] [900, 901, 902, 903, 904, 905] (mhas_ok M w (by omega) (by omega)) rfl rfl rfl rfl rfl rfl rfl ?_ | refine el_at (i := w) rfl g1 ?_ | refine el_is hsd ?_ | refine el_at (i := w) rfl g2 ?_ | refine el_is hld ?_ | refine el_at (i := w) rfl g4 ?_ | refine el_is hwd ?_ | refine call_eq rfl hcl ?_ | refine op_nilIf rfl rfl rfl rfl ?_ | refine op_invoke rfl rfl rfl J.meth rfl rfl ?_ | refine call_eq rfl hla ?_ | refine ify ?_ | refine ifn ?_ | refine i6 ?_ | refine ati ?_ | refine mst ?_ | refine rmd ?_ | refine ibo (fun _ => ?_) (fun _ => ?_)) <;> conv => whnf)); (all_goals (repeat' (first | exact trivial | exact rfl | refine And.intro ?_ ?_)))) ?_ | refine call_req [] [900, 901, 902, 903, 904, 905] (mhas_ok M w (by omega) (by omega)) rfl rfl rfl rfl rfl rfl rfl ?_ | refine el_at (i := w) rfl g1 ?_ | refine el_is hsd ?_ | refine el_at (i := w) rfl g2 ?_ | refine el_is hld ?_ | refine el_at (i := w) rfl g4 ?_ | refine el_is hwd ?_ | refine call_eq rfl hcl ?_ | refine op_nilIf rfl rfl rfl rfl ?_ | refine op_invoke rfl rfl rfl J.meth rfl rfl ?_ | refine call_eq rfl hla ?_ | refine ify ?_ | refine ifn ?_ | refine i6 ?_ | refine ati ?_ | refine mst ?_ | refine rmd ?_ | refine ibo (fun _ => ?_) (fun _ => ?_)) <;> conv => whnf))
  refine loop_lo (ι := Nat) (fun i => i ≤ (ml w s).length) (fun i => [(66, .d (.int .i64 (i : Nat))), (65, .d (.int .i64 ((ml w s).map dMB).length)), (64, .d (.list 2 ((ml w s).map dMB))), (7, .d (.list 2 ((ml w s).map dMB))), (6, .d (.str (nx w s l))), (1, .d (.int .i64 w)), (0, .own 900)])
    (fun _ => (999, .ghost vs [.own 900]) :: sM M) (fun i => (ml w s).length - i) 0 (fun _ => rfl) (by simp) (.refl _ _) ⟨rfl, rfl, rfl, rfl, rfl, rfl, rfl, trivial⟩ ⟨rfl, rfl, rfl, rfl, rfl, rfl, rfl, trivial⟩ ?_
  intro i hi
  refine sxCode_sound c1_ok (G := G_mwork) (pl := pl_mwork) _ _ _ _ (by kernel_rfl) ?_
  by_cases hil : i < (ml w s).length
  · have hy : (ml w s)[i]? = some (ml w s)[i] := List.getElem?_eq_getElem hil
    obtain ⟨m1, m2⟩ := hm _ (List.getElem_mem hil)
    generalize (ml w s)[i] = y at hy m1 m2
    have hyd : ((ml w s).map dMB)[i]? = some (.agg [.int .i64 y.1, .str y.2]) := by rw [List.getElem?_map, hy]; rfl
    (conv => whnf)
    (repeat' ((first | refine ord_ok (by (conv => whnf); (repeat' ((first | refine at_da hyd rfl ?_ | refine call_req [] [900, 901, 902, 903, 904, 905] (mhas_ok M y.1 m1 m2) rfl rfl rfl rfl rfl rfl rfl ?_ | refine ify ?_ | refine ifn ?_ | refine i6 ?_ | refine ati ?_ | refine mst ?_ | refine rmd ?_ | refine ibo (fun _ => ?_) (fun _ => ?_)) <;> conv => whnf)); (all_goals (repeat' (first | exact trivial | exact rfl | refine And.intro ?_ ?_)))) ?_ | refine at_da hyd rfl ?_ | refine call_req [] [900, 901, 902, 903, 904, 905] (mhas_ok M y.1 m1 m2) rfl rfl rfl rfl rfl rfl rfl ?_ | refine ify ?_ | refine ifn ?_ | refine i6 ?_ | refine ati ?_ | refine mst ?_ | refine rmd ?_ | refine ibo (fun _ => ?_) (fun _ => ?_)) <;> conv => whnf))
    exact ⟨i + 1, _, _, hil, .refl _ _, ⟨rfl, rfl, rfl, rfl, rfl, rfl, rfl, trivial⟩, ⟨rfl, rfl, rfl, rfl, rfl, rfl, rfl, trivial⟩, by omega⟩
  · ((conv => whnf); repeat' ((first | refine odw ?_ | refine ify ?_ | refine ifn ?_ | refine i6 ?_ | refine ati ?_ | refine mst ?_ | refine rmd ?_ | refine ibo (fun _ => ?_) (fun _ => ?_)) <;> conv => whnf))
    refine loop_lo (ι := Nat) (fun i => i ≤ (ml w s).length) (fun i => [(80, .d (.int .i64 (i : Nat))), (79, .d (.int .i64 ((ml w s).map dMB).length)), (78, .d (.list 2 ((ml w s).map dMB))), (6, .d (.str (nx w s l))), (1, .d (.int .i64 w)), (0, .own 900)])
      (fun i => (999, .ghost vs [.own 900]) :: sM { M with net := sendsN M.net w ((ml w s).take i) }) (fun i => (ml w s).length - i) 0 (fun _ => rfl) (by simp) (.refl _ _) ⟨rfl, rfl, rfl, rfl, rfl, rfl, trivial⟩ ⟨rfl, rfl, rfl, rfl, rfl, rfl, rfl, trivial⟩ ?_
    intro i hi
    refine sxCode_sound c1_ok (G := G_mwork) (pl := pl_mwork) _ _ _ _ (by kernel_rfl) ?_
    by_cases hil : i < (ml w s).length
    · have hy : (ml w s)[i]? = some (ml w s)[i] := List.getElem?_eq_getElem hil
      obtain ⟨m1, m2⟩ := hm _ (List.getElem_mem hil)
      have htk : (ml w s).take (i + 1) = (ml w s).take i ++ [(ml w s)[i]] := by rw [List.take_add_one, hy]; rfl
      generalize (ml w s)[i] = y at hy m1 m2 htk
      have hyd : ((ml w s).map dMB)[i]? = some (.agg [.int .i64 y.1, .str y.2]) := by rw [List.getElem?_map, hy]; rfl
      have hwk := hM.wks
      have hok := sendsN_ok hM.net (w := w) (by omega) (l := (ml w s).take i) (fun m hmm => by have := hm m (List.mem_of_mem_take hmm); omega)
      rw [List.length_take] at hok
      have hwk2 := sendsN_workers M.net w ((ml w s).take i)
      have hsn := send_obj (sendsN M.net w ((ml w s).take i)) w y.1 y.2 (by omega) (by omega) m1 (by omega) (Nat.le_trans hok.fly (by omega)) ⟨hok.all0, by have := hok.all; omega⟩ (by have := hok.next w y.1; omega)
      (conv => whnf)
      (repeat' ((first | refine ord_ok (by (conv => whnf); (repeat' ((first | refine at_da hyd rfl ?_ | refine call_turnq rfl rfl hsn ?_ | refine ify ?_ | refine ifn ?_ | refine i6 ?_ | refine ati ?_ | refine mst ?_ | refine rmd ?_ | refine ibo (fun _ => ?_) (fun _ => ?_)) <;> conv => whnf)); (all_goals (repeat' (first | exact trivial | exact rfl | refine And.intro ?_ ?_)))) ?_ | refine at_da hyd rfl ?_ | refine call_turnq rfl rfl hsn ?_ | refine ify ?_ | refine ifn ?_ | refine i6 ?_ | refine ati ?_ | refine mst ?_ | refine rmd ?_ | refine ibo (fun _ => ?_) (fun _ => ?_)) <;> conv => whnf))
      exact ⟨i + 1, _, _, hil, .refl _ _, ⟨rfl, rfl, rfl, rfl, rfl, rfl, trivial⟩, ⟨rfl, rfl, rfl, rfl, rfl, rfl, by rw [htk, sendsN_snoc]; rfl, trivial⟩, by omega⟩
    · have hii : (ml w s).take i = ml w s := List.take_of_length_le (by omega)
      rw [hii]
      have g3 : w < (M.next.map dTx).length := by omega
      have hnx := List.getElem?_eq_getElem (show w < M.next.length by omega)
      generalize M.next[w] = z at hnx
      have hnd : (M.next.map dTx)[w]? = some (.str z) := by rw [List.getElem?_map, hnx]; rfl
      have e1 : (M.next.set w (nx w s l)).map dTx = (M.next.map dTx).set w (.str (nx w s l)) := List.map_set
      have e2 : (M.worked.set w true).map dB = (M.worked.map dB).set w (.bool true) := List.map_set
      (conv => whnf)
      (repeat' ((first | refine ord_ok (by (conv => whnf); (repeat' ((first | refine el_at (i := w) rfl g3 ?_ | refine el_at (i := w) rfl g4 ?_ | refine el_is hnd ?_ | refine el_is hwd ?_ | refine ify ?_ | refine ifn ?_ | refine i6 ?_ | refine ati ?_ | refine mst ?_ | refine rmd ?_ | refine ibo (fun _ => ?_) (fun _ => ?_)) <;> conv => whnf)); (all_goals (repeat' (first | exact trivial | exact rfl | refine And.intro ?_ ?_)))) ?_ | refine el_at (i := w) rfl g3 ?_ | refine el_at (i := w) rfl g4 ?_ | refine el_is hnd ?_ | refine el_is hwd ?_ | refine ify ?_ | refine ifn ?_ | refine i6 ?_ | refine ati ?_ | refine mst ?_ | refine rmd ?_ | refine ibo (fun _ => ?_) (fun _ => ?_)) <;> conv => whnf))
      refine ⟨_, _, [], [(900, _), (901, _), (902, _), (903, _), (904, _), (905, _)], .lo (.refl _ _), rfl, ⟨rfl, rfl, rfl, rfl, rfl, rfl, trivial⟩, rfl, rfl, ?_⟩
      simp only [sM, Mach.did, e1, e2]
      rfl
end Go.Proofs.YtlchegpgicdldaaDoor
