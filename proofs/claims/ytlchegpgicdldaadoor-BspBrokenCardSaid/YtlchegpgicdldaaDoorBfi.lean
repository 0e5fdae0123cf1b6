/- The machine with law20's job: Work, Finish; New. -/
import Derived.Test.YtlchegpgicdldaaDoorBrd
import Derived.Test.YtlchegpgicdldaaDoorBps
namespace Go.Proofs.YtlchegpgicdldaaDoor
open Go.Sx Go.RowKit Go.Reg

set_option maxRecDepth 100000
/-- what is asked of states, inboxes and ways -/
structure WB (to : List (List Int)) (want : List ByteArray) (inbox : List (List ByteArray)) : Prop where
  n1 : 1 ≤ want.length
  n2 : want.length ≤ 64
  inl : inbox.length = want.length
  sts : ∀ s ∈ want, s.size ≤ 1000
  box : ∀ l ∈ inbox, l.length ≤ 100000 ∧ ∀ s ∈ l, s.size ≤ 1000
  tol : to.length ≤ 100000
  tos : ∀ x ∈ to, x.length ≤ 1000 ∧ ∀ n ∈ x, 0 ≤ n ∧ n < want.length
theorem mlW_len {to : List (List Int)} {want : List ByteArray} {inbox : List (List ByteArray)} (h : WB to want inbox) (w : Nat) : (mlW to want w).length ≤ 1000 := by
  unfold mlW mailsB
  rw [List.length_map]
  cases hx : to[w]? with
  | none => simp
  | some x => exact (h.tos x (List.mem_of_getElem? hx)).1
theorem mlW_in {to : List (List Int)} {want : List ByteArray} {inbox : List (List ByteArray)} (h : WB to want inbox) (w : Nat) : ∀ m ∈ mlW to want w, 0 ≤ m.1 ∧ m.1 < want.length := by
  intro m hm
  unfold mlW mailsB at hm
  obtain ⟨n, hn, rfl⟩ := List.mem_map.1 hm
  cases hx : to[w]? with
  | none => rw [hx] at hn; simp at hn
  | some x => rw [hx] at hn; exact (h.tos x (List.mem_of_getElem? hx)).2 n hn
theorem roundS_len (want : List ByteArray) (inbox : List (List ByteArray)) : (roundS want inbox).length = want.length := by simp [roundS]
theorem roundB_len (to : List (List Int)) (want : List ByteArray) : (roundB to want).length = want.length := by simp [roundB]
theorem gW_size {to : List (List Int)} {want : List ByteArray} {inbox : List (List ByteArray)} (h : WB to want inbox) (w : Nat) : (gW want w).size ≤ 1000 := by
  unfold gW
  rw [List.getD_eq_getElem?_getD]
  cases hx : want[w]? with
  | none => decide
  | some x => exact h.sts x (List.mem_of_getElem? hx)
theorem WB.round {to : List (List Int)} {want : List ByteArray} {inbox : List (List ByteArray)} (h : WB to want inbox) : WB to (roundS want inbox) (roundB to want) := by
  have e := roundS_len want inbox
  refine ⟨by rw [e]; exact h.n1, by rw [e]; exact h.n2, by rw [e, roundB_len], ?_, ?_, h.tol, by rw [e]; exact h.tos⟩
  · intro s hs
    unfold roundS at hs
    obtain ⟨w, _, rfl⟩ := List.mem_map.1 hs
    exact Nat.le_trans (nxB_size _ _ _) (by omega)
  · intro l hl
    unfold roundB at hl
    obtain ⟨v, _, rfl⟩ := List.mem_map.1 hl
    constructor
    · have h1 := boxT_len (fun w => mlW_len h w) (v : Int) want.length
      have h2 := h.n2
      have : want.length * 1000 ≤ 64 * 1000 := Nat.mul_le_mul_right _ h2
      omega
    · intro s hs
      unfold boxT at hs
      obtain ⟨w, _, hs⟩ := List.mem_flatMap.1 hs
      obtain ⟨m, hm, rfl⟩ := List.mem_map.1 hs
      have hm2 := (List.mem_filter.1 hm).1
      unfold mlW mailsB at hm2
      obtain ⟨n, _, rfl⟩ := List.mem_map.1 hm2
      exact gW_size h w
def jobX (to : List (List Int)) : Da := .agg [.agg [.list 1 (to.map dTB)]]
def jobB (to : List (List Int)) (h1 : to.length ≤ 100000) (h2 : ∀ x ∈ to, x.length ≤ 100000) : JobB 33 (jobX to) nxB (mailsB to) where
  g := 100
  meth := by intro v args w; kernel_rfl
  law := fun w r s l hw hs hl hb => (jobwork_pure to w r s l hw hs hl hb h1 h2).nest
/-- a machine of law20's job in the midst of a round -/
structure RunM (to : List (List Int)) (want : List ByteArray) (inbox : List (List ByteArray)) (wk : List Bool) (r : Int) (B : Nat) (M : Mach) : Prop where
  inv : BInv to want inbox wk r B M
  job : Nonempty (JobB M.jt M.jx nxB (mailsB to))
  wb : WB to want inbox
theorem RunM.ok {to : List (List Int)} {want : List ByteArray} {inbox : List (List ByteArray)} {wk : List Bool} {r : Int} {B : Nat} {M : Mach} (h : RunM to want inbox wk r B M) : MachOk M B := by
  have i := h.inv
  have w := h.wb
  have n2 := w.n2
  exact ⟨by rw [i.sts]; omega, by rw [i.box, i.sts]; exact w.inl, by rw [i.nxl, i.sts], by rw [i.wkd, i.sts]; exact i.wl, by rw [i.wks, i.sts], i.net, by rw [i.sts]; exact w.sts, by rw [i.box]; exact w.box⟩
theorem RunM.len {to : List (List Int)} {want : List ByteArray} {inbox : List (List ByteArray)} {wk : List Bool} {r : Int} {B : Nat} {M : Mach} (h : RunM to want inbox wk r B M) : M.states.length = want.length := by rw [h.inv.sts]
theorem RunM.did {to : List (List Int)} {want : List ByteArray} {inbox : List (List ByteArray)} {wk : List Bool} {r : Int} {B : Nat} {M : Mach} (h : RunM to want inbox wk r B M) {w : Nat} (hw : wk[w]? = some false) : RunM to want inbox (wk.set w true) r (B + 1000) (M.did w (nxB w (gW want w) (gB inbox w)) (mlW to want w)) := by
  have h1 := h.inv.did hw (mlW_in h.wb w)
  have h2 := mlW_len h.wb w
  exact ⟨{ h1 with net := h1.net.mono (by omega) }, h.job, h.wb⟩
theorem work_inv {to : List (List Int)} {want : List ByteArray} {inbox : List (List ByteArray)} {wk : List Bool} {r : Int} {B : Nat} {M : Mach} (h : RunM to want inbox wk r B M) (hB : B ≤ 4000000000) {w : Nat} (hw : wk[w]? = some false) :
    RecCall C1 14 [.own 900, .d (.int .i64 w)] (sM M) [900] (fun d σ => d = .d .nili ∧ σ = sM (M.did w (nxB w (gW want w) (gB inbox w)) (mlW to want w))) := by
  have i := h.inv
  have hwl : w < want.length := by have := (List.getElem?_eq_some_iff.1 hw).1; rw [i.wl] at this; exact this
  obtain ⟨hJ⟩ := h.job
  have e1 : M.states[w]? = some (gW want w) := by rw [i.sts]; unfold gW; rw [List.getD_eq_getElem?_getD, List.getElem?_eq_getElem hwl]; rfl
  have e2 : M.inbox[w]? = some (gB inbox w) := by rw [i.box]; unfold gB; rw [List.getD_eq_getElem?_getD, List.getElem?_eq_getElem (by rw [i.inl]; exact hwl)]; rfl
  have e3 : M.worked[w]? = some false := by rw [i.wkd]; exact hw
  have hl := mlW_len h.wb w
  have hi := mlW_in h.wb w
  exact mwork_ok M hJ h.ok w (gW want w) (gB inbox w) e1 e2 e3 (fun m hm => by rw [h.len]; exact hi m hm) (by show B + (mlW to want w).length ≤ _; omega)
theorem RunM.deliver {to : List (List Int)} {want : List ByteArray} {inbox : List (List ByteArray)} {wk : List Bool} {r : Int} {B : Nat} {M : Mach} (h : RunM to want inbox wk r B M) {i : Nat} {l : Letter} (hl : M.net.flying[i]? = some l) : RunM to want inbox wk r (B + 1) { M with net := M.net.deliver i l } := ⟨h.inv.deliver hl, h.job, h.wb⟩
theorem RunM.double {to : List (List Int)} {want : List ByteArray} {inbox : List (List ByteArray)} {wk : List Bool} {r : Int} {B : Nat} {M : Mach} (h : RunM to want inbox wk r B M) {i : Nat} {l : Letter} (hl : M.net.flying[i]? = some l) : RunM to want inbox wk r (B + 1) { M with net := M.net.double l } := ⟨h.inv.double hl, h.job, h.wb⟩
theorem RunM.back {to : List (List Int)} {want : List ByteArray} {inbox : List (List ByteArray)} {wk : List Bool} {r : Int} {B : Nat} {M : Mach} (h : RunM to want inbox wk r B M) : RunM to want inbox (List.replicate want.length false) r 0 M.back := ⟨h.inv.back, h.job, h.wb⟩
theorem RunM.pass {to : List (List Int)} {want : List ByteArray} {inbox : List (List ByteArray)} {wk : List Bool} {r : Int} {B : Nat} {M : Mach} (h : RunM to want inbox wk r B M) (ha : ∀ b ∈ wk, b = true) : RunM to (roundS want inbox) (roundB to want) (List.replicate want.length false) (r + 1) 0 (M.pass (roundB to want)) := ⟨h.inv.pass ha, h.job, h.wb.round⟩
theorem pass_inv {to : List (List Int)} {want : List ByteArray} {inbox : List (List ByteArray)} {wk : List Bool} {r : Int} {B : Nat} {M : Mach} (h : RunM to want inbox wk r B M) (hB : B ≤ 4000000000) (hr : 0 ≤ r ∧ r ≤ 4000000000) (ha : ∀ b ∈ wk, b = true) (h0 : Go.Proofs.YtlchegpgicdldaaDoor.M M.net = 0) :
    RecCall C1 18 [.own 900] (sM M) [900] (fun d σ => d = .d .nili ∧ σ = sM (M.pass (roundB to want))) := by
  have i := h.inv
  have n2 := h.wb.n2
  have hw : false ∉ M.worked := by rw [i.wkd]; intro hm; have := ha _ hm; cases this
  have hl : M.inbox.length = want.length := by rw [i.box, i.inl]
  exact mpass_ok M hw (by rw [i.wkd, i.wl]; omega) i.net (by omega) h0 (by omega) (by rw [i.nxl]; omega) (by rw [i.rd]; omega) (roundB to want) (by rw [roundB_len, hl]) (fun v out hv hp hso => i.inbox ha h0 (by omega) hp hso)
def pl_mfin : List (Nat × Plan) := []
def G_mfin : List FuncId := []
theorem cok_mfin : codeOk Tryd.prog G_mfin pl_mfin (Tryd.f10.body.getD .skip) = true := by kernel_rfl
theorem run_mfin (vs : Array Value) (w : World) : (callFunc 10 vs).run C1.P w = .ok (.enter 10 vs) w := by kernel_rfl
theorem finish_ok {to : List (List Int)} {want : List ByteArray} {inbox : List (List ByteArray)} {wk : List Bool} {r : Int} {B : Nat} {M : Mach} (h : RunM to want inbox wk r B M) (hB : B ≤ 1000000000) (hr : 0 ≤ r ∧ r ≤ 4000000000) :
    RecCall C1 10 [.own 900] (sM M) [900] (fun d σ => d = .d .nili ∧ ∃ M', σ = sM M' ∧ RunM to (roundS want inbox) (roundB to want) (List.replicate want.length false) (r + 1) 0 M') := by
  have hn : (M.states.map dTx).length = want.length := by rw [List.length_map, h.len]
  have n2 := h.wb.n2
  refine rec_of c1_ok (pl := pl_mfin) (G := G_mfin) Tryd.func10 rfl Tryd.ntmps10 run_mfin cok_mfin (by simp) 999 rfl ?_
  intro vs
  ((conv => whnf); repeat' ((first | refine odw ?_ | refine ify ?_ | refine ifn ?_ | refine i6 ?_ | refine ati ?_ | refine mst ?_ | refine rmd ?_ | refine ibo (fun _ => ?_) (fun _ => ?_)) <;> conv => whnf))
  refine loop_lo (ι := Nat × Mach × List Bool) (fun x => x.1 ≤ want.length ∧ RunM to want inbox x.2.2 r (B + 1000 * x.1) x.2.1 ∧ ∀ k < x.1, x.2.2[k]? = some true) (fun x => [(14, .d (.int .i64 (x.1 : Nat))), (13, .d (.int .i64 (M.states.map dTx).length)), (0, .own 900)])
    (fun x => (999, .ghost vs [.own 900]) :: sM x.2.1) (fun x => want.length - x.1) (0, M, wk) (fun _ => rfl) ⟨by omega, h, by omega⟩ (.refl _ _) ⟨rfl, rfl, rfl, trivial⟩ ⟨rfl, rfl, rfl, rfl, rfl, rfl, rfl, trivial⟩ ?_
  rintro ⟨w, M1, wk1⟩ ⟨hw, h1, hk⟩
  simp only at hw h1 hk
  refine sxCode_sound c1_ok (G := G_mfin) (pl := pl_mfin) _ _ _ _ (by kernel_rfl) ?_
  by_cases hwl : w < want.length
  · have hwk := List.getElem?_eq_getElem (show w < wk1.length by rw [h1.inv.wl]; exact hwl)
    generalize wk1[w]'(by rw [h1.inv.wl]; exact hwl) = b at hwk
    have hbd : (M1.worked.map dB)[w]? = some (.bool b) := by rw [List.getElem?_map, h1.inv.wkd, hwk]; rfl
    have g4 : w < (M1.worked.map dB).length := (List.getElem?_eq_some_iff.1 hbd).1
    cases b with
    | true =>
      (conv => whnf)
      (repeat' ((first | refine ord_ok (by (conv => whnf); (repeat' ((first | refine el_at (i := w) rfl g4 ?_ | refine el_is hbd ?_ | refine ify ?_ | refine ifn ?_ | refine i6 ?_ | refine ati ?_ | refine mst ?_ | refine rmd ?_ | refine ibo (fun _ => ?_) (fun _ => ?_)) <;> conv => whnf)); (all_goals (repeat' (first | exact trivial | exact rfl | refine And.intro ?_ ?_)))) ?_ | refine el_at (i := w) rfl g4 ?_ | refine el_is hbd ?_ | refine ify ?_ | refine ifn ?_ | refine i6 ?_ | refine ati ?_ | refine mst ?_ | refine rmd ?_ | refine ibo (fun _ => ?_) (fun _ => ?_)) <;> conv => whnf))
      refine ⟨(w + 1, M1, wk1), _, _, ⟨hwl, ⟨{ h1.inv with net := h1.inv.net.mono (by simp only; omega) }, h1.job, h1.wb⟩, fun k hk1 => ?_⟩, .refl _ _, ⟨rfl, rfl, rfl, trivial⟩, ⟨rfl, rfl, rfl, rfl, rfl, rfl, rfl, trivial⟩, by simp only; omega⟩
      by_cases e : k = w
      · rw [e]; exact hwk
      · exact hk k (by simp only at hk1; omega)
    | false =>
      have hwc := work_inv h1 (by omega) hwk
      (conv => whnf)
      (repeat' ((first | refine ord_ok (by (conv => whnf); (repeat' ((first | refine el_at (i := w) rfl g4 ?_ | refine el_is hbd ?_ | refine call_req [] [900, 901, 902, 903, 904, 905] hwc rfl rfl rfl rfl rfl rfl rfl ?_ | refine ify ?_ | refine ifn ?_ | refine i6 ?_ | refine ati ?_ | refine mst ?_ | refine rmd ?_ | refine ibo (fun _ => ?_) (fun _ => ?_)) <;> conv => whnf)); (all_goals (repeat' (first | exact trivial | exact rfl | refine And.intro ?_ ?_)))) ?_ | refine el_at (i := w) rfl g4 ?_ | refine el_is hbd ?_ | refine call_req [] [900, 901, 902, 903, 904, 905] hwc rfl rfl rfl rfl rfl rfl rfl ?_ | refine ify ?_ | refine ifn ?_ | refine i6 ?_ | refine ati ?_ | refine mst ?_ | refine rmd ?_ | refine ibo (fun _ => ?_) (fun _ => ?_)) <;> conv => whnf))
      refine ⟨(w + 1, _, wk1.set w true), _, _, ⟨hwl, ?_, fun k hk1 => ?_⟩, .refl _ _, ⟨rfl, rfl, rfl, trivial⟩, ⟨rfl, rfl, rfl, rfl, rfl, rfl, rfl, trivial⟩, by simp only; omega⟩
      · have := h1.did hwk
        rw [show B + 1000 * w + 1000 = B + 1000 * (w + 1) by omega] at this
        exact this
      · have hlt := (List.getElem?_eq_some_iff.1 hwk).1
        simp only at hk1 ⊢
        rw [List.getElem?_set]
        by_cases e : w = k
        · rw [if_pos e, if_pos hlt]
        · rw [if_neg e]; exact hk k (by omega)
  · have hall : ∀ b ∈ wk1, b = true := fun b hb => by
      obtain ⟨k, hk2, rfl⟩ := List.getElem_of_mem hb
      have := hk k (by rw [h1.inv.wl] at hk2; omega)
      rw [List.getElem?_eq_getElem hk2] at this
      exact Option.some.inj this
    have hB1 : B + 1000 * w ≤ 1000100000 := by omega
    generalize B + 1000 * w = B1 at h1 hB1
    ((conv => whnf); repeat' ((first | refine odw ?_ | refine ify ?_ | refine ifn ?_ | refine i6 ?_ | refine ati ?_ | refine mst ?_ | refine rmd ?_ | refine ibo (fun _ => ?_) (fun _ => ?_)) <;> conv => whnf))
    refine loop_lo (ι := Mach × Nat) (fun x => RunM to want inbox wk1 r x.2 x.1 ∧ x.2 + x.1.net.flying.length ≤ 2 * B1) (fun _ => [(0, .own 900)])
      (fun x => (999, .ghost vs [.own 900]) :: sM x.1) (fun x => x.1.net.flying.length) (M1, B1) (fun _ => rfl) ⟨h1, by have := h1.inv.net.fly; simp only; omega⟩ (.refl _ _) ⟨rfl, trivial⟩ ⟨rfl, rfl, rfl, rfl, rfl, rfl, rfl, trivial⟩ ?_
    rintro ⟨M2, B2⟩ ⟨h2, hf⟩
    simp only at h2 hf
    refine sxCode_sound c1_ok (G := G_mfin) (pl := pl_mfin) _ _ _ _ (by kernel_rfl) ?_
    have hfl := mfly_ok M2 (by omega)
    by_cases h0 : 0 < M2.net.flying.length
    · have hl := List.getElem?_eq_getElem h0
      generalize M2.net.flying[0] = l at hl
      have hde := mdel_ok M2 0 l hl (by omega)
      (conv => whnf)
      (repeat' ((first | refine ord_ok (by (conv => whnf); (repeat' ((first | refine call_req [] [900, 901, 902, 903, 904, 905] hfl rfl rfl rfl rfl rfl rfl rfl ?_ | refine call_req [] [900, 901, 902, 903, 904, 905] hde rfl rfl rfl rfl rfl rfl rfl ?_ | refine ify ?_ | refine ifn ?_ | refine i6 ?_ | refine ati ?_ | refine mst ?_ | refine rmd ?_ | refine ibo (fun _ => ?_) (fun _ => ?_)) <;> conv => whnf)); (all_goals (repeat' (first | exact trivial | exact rfl | refine And.intro ?_ ?_)))) ?_ | refine call_req [] [900, 901, 902, 903, 904, 905] hfl rfl rfl rfl rfl rfl rfl rfl ?_ | refine call_req [] [900, 901, 902, 903, 904, 905] hde rfl rfl rfl rfl rfl rfl rfl ?_ | refine ify ?_ | refine ifn ?_ | refine i6 ?_ | refine ati ?_ | refine mst ?_ | refine rmd ?_ | refine ibo (fun _ => ?_) (fun _ => ?_)) <;> conv => whnf))
      have hfl2 : (M2.net.deliver 0 l).flying.length = M2.net.flying.length - 1 := by simp only [NetM.deliver]; rw [List.length_eraseIdx, if_pos h0]
      exact ⟨(_, B2 + 1), _, _, ⟨h2.deliver hl, by simp only; omega⟩, .refl _ _, ⟨rfl, trivial⟩, ⟨rfl, rfl, rfl, rfl, rfl, rfl, rfl, trivial⟩, by simp only; omega⟩
    · have hpa := pass_inv h2 (by omega) hr hall (h2.inv.quiet (List.eq_nil_of_length_eq_zero (by omega)))
      (conv => whnf)
      (repeat' ((first | refine ord_ok (by (conv => whnf); (repeat' ((first | refine call_req [] [900, 901, 902, 903, 904, 905] hfl rfl rfl rfl rfl rfl rfl rfl ?_ | refine call_req [] [900, 901, 902, 903, 904, 905] hpa rfl rfl rfl rfl rfl rfl rfl ?_ | refine ify ?_ | refine ifn ?_ | refine i6 ?_ | refine ati ?_ | refine mst ?_ | refine rmd ?_ | refine ibo (fun _ => ?_) (fun _ => ?_)) <;> conv => whnf)); (all_goals (repeat' (first | exact trivial | exact rfl | refine And.intro ?_ ?_)))) ?_ | refine call_req [] [900, 901, 902, 903, 904, 905] hfl rfl rfl rfl rfl rfl rfl rfl ?_ | refine call_req [] [900, 901, 902, 903, 904, 905] hpa rfl rfl rfl rfl rfl rfl rfl ?_ | refine ify ?_ | refine ifn ?_ | refine i6 ?_ | refine ati ?_ | refine mst ?_ | refine rmd ?_ | refine ibo (fun _ => ?_) (fun _ => ?_)) <;> conv => whnf))
      exact ⟨_, _, [], sM _, .lo (.refl _ _), rfl, ⟨rfl, rfl, rfl, rfl, rfl, rfl, trivial⟩, rfl, rfl, _, rfl, h2.pass hall⟩
end Go.Proofs.YtlchegpgicdldaaDoor
