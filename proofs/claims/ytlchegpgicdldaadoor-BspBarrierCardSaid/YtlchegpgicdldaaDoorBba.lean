/- BspBarrier: the walk. -/
import Derived.Test.YtlchegpgicdldaaDoorBmf
import Derived.Test.YtlchegpgicdldaaDoorBdx
namespace Go.Proofs.YtlchegpgicdldaaDoor
open Go.Sx Go.RowKit Go.Reg

set_option maxRecDepth 100000
/-- nothing flies twice -/
def Clean (N : NetM) : Prop := ∃ S C, Told N S C ∧ S.Perm (N.flying ++ C)
theorem Clean.new (k : Int) : Clean ⟨k, [], 0, [], []⟩ := ⟨[], [], Told.new k, .refl _⟩
theorem Clean.M {N : NetM} (h : Clean N) : Go.Proofs.YtlchegpgicdldaaDoor.M N = N.flying.length := by
  obtain ⟨S, C, h1, h2⟩ := h
  have := h2.length_eq
  rw [h1.M, this, List.length_append]; omega
theorem sends_fly (N : NetM) (w : Nat) (l : List (Int × ByteArray)) : (sendsN N w l).flying.length = N.flying.length + l.length := by
  induction l generalizing N with
  | nil => rfl
  | cons m l ih =>
    have e : sendsN N w (m :: l) = sendsN (N.send w m.1 m.2) w l := rfl
    rw [e, ih]
    simp only [NetM.send, List.length_append, List.length_cons, List.length_nil]; omega
theorem Clean.send {N : NetM} (h : Clean N) {a b : Int} (ha : 0 ≤ a ∧ a < N.workers) (hb : 0 ≤ b ∧ b < N.workers) (s : ByteArray) : Clean (N.send a b s) := by
  obtain ⟨S, C, h1, h2⟩ := h
  have h3 := h1.act ⟨0, a, b, s⟩
  unfold NetM.act toldAct at h3
  rw [if_pos rfl, if_pos ⟨ha.1, ha.2, hb.1, hb.2⟩, if_pos rfl, if_pos ⟨ha.1, ha.2, hb.1, hb.2⟩] at h3
  refine ⟨_, C, h3, ?_⟩
  show (S ++ [_]).Perm ((N.flying ++ [_]) ++ C)
  rw [h1.next a b, List.append_assoc]
  exact (h2.append_right _).trans (by rw [List.append_assoc]; exact (List.perm_append_comm).append_left _)
theorem Clean.sends {N : NetM} (h : Clean N) {w : Nat} (hw : (w : Int) < N.workers) {l : List (Int × ByteArray)} (hl : ∀ m ∈ l, 0 ≤ m.1 ∧ m.1 < N.workers) : Clean (sendsN N w l) := by
  induction l generalizing N with
  | nil => exact h
  | cons m l ih =>
    have e : sendsN N w (m :: l) = sendsN (N.send w m.1 m.2) w l := rfl
    rw [e]
    exact ih (h.send ⟨by omega, hw⟩ (hl m (by simp)) m.2) hw (fun x hx => hl x (by simp [hx]))
theorem perm_erase {α : Type} : ∀ {l : List α} {i : Nat} {x : α}, l[i]? = some x → l.Perm (x :: l.eraseIdx i)
  | [], i, x, h => by simp at h
  | y :: l, 0, x, h => by simp at h; subst h; exact .refl _
  | y :: l, i + 1, x, h => by
    have := perm_erase (l := l) (i := i) (x := x) (by simpa using h)
    exact (this.cons y).trans (.swap _ _ _)
theorem Clean.deliver {N : NetM} (h : Clean N) {i : Nat} {l : Letter} (hl : N.flying[i]? = some l) : Clean (N.deliver i l) := by
  obtain ⟨S, C, h1, h2⟩ := h
  have hn := h2.nodup_iff.1 h1.num.nodup
  have hc : l ∉ C := fun hc => (List.nodup_append.1 hn).2.2 l (List.mem_of_getElem? hl) l hc rfl
  have h3 := h1.deliver hl
  rw [if_neg hc] at h3
  refine ⟨S, _, h3, h2.trans ?_⟩
  have hp := perm_erase hl
  show (N.flying ++ C).Perm (N.flying.eraseIdx i ++ (C ++ [l]))
  refine (hp.append_right C).trans ?_
  rw [← List.append_assoc]
  exact (List.perm_append_comm (l₁ := [l])).trans (by simp)
def rowI (k : Nat) : List Int := (List.range k).map fun v : Nat => (v : Int)
def allI (k : Nat) : List (List Int) := List.replicate k (rowI k)
def rowD (k : Nat) : List Da := (List.range k).map fun v : Nat => .int .i64 (v : Int)
theorem rowD_eq (k : Nat) : dTB (rowI k) = .list 1 (rowD k) := by
  unfold dTB rowI rowD
  rw [List.map_map]; rfl
theorem allI_eq (k : Nat) : (allI k).map dTB = List.replicate k (.list 1 (rowD k)) := by
  unfold allI
  rw [List.map_replicate, rowD_eq]
theorem rowI_in (k : Nat) : ∀ n ∈ rowI k, 0 ≤ n ∧ n < k := by
  intro n hn
  unfold rowI at hn
  obtain ⟨v, hv, rfl⟩ := List.mem_map.1 hn
  have := List.mem_range.1 hv
  omega
def emp (k : Nat) : List ByteArray := List.replicate k ⟨#[]⟩
theorem emp_len (k : Nat) : (emp k).length = k := by simp [emp]
theorem mlW_all {k w : Nat} (h : w < k) (want : List ByteArray) : (mlW (allI k) want w).length = k := by
  unfold mlW mailsB allI
  rw [List.getElem?_replicate, if_pos h]
  simp [rowI]
def zI : Nat → Int
  | 0 => -1
  | w + 1 => w
theorem zI_pred (w : Nat) : (w : Int) - 1 = zI w := by
  cases w with
  | zero => rfl
  | succ w => simp [zI]
theorem rep_take (i : Nat) (x : Da) : List.replicate i x ++ [x] = List.replicate (i + 1) x := List.replicate_succ'.symm
def pl_l20b : List (Nat × Plan) := [(32, .leaf [0, 0, 0, 1, 0, 0, 2, 0, 0] [0, 1, 2, 5, 3, 4, 6, 7, 8] [0, 0, 3, 7, 15, 0, 32, 127, 255])]
def G_l20b : List FuncId := [16]
theorem cok_l20b : codeOk Tryd.prog G_l20b pl_l20b (Tryd.f4.body.getD .skip) = true := by kernel_rfl
theorem run_l20b (vs : Array Value) (w : World) : (callFunc 4 vs).run C1.P w = .ok (.enter 4 vs) w := by kernel_rfl
set_option maxHeartbeats 4000000 in
theorem lbar_pure (n8 : Int) (order : List Int) (hn : 0 ≤ n8 ∧ n8 ≤ 255) (ho : ∀ x ∈ order, 0 ≤ x ∧ x ≤ 255) : Pure C1 4 [.int .u8 n8, .list 1 (order.map dU8)] (fun y => y = .bool true) := by
  have hlm : (order.map dU8).length = order.length := List.length_map _
  refine pure_of c1_ok (pl := pl_l20b) (G := G_l20b) Tryd.func4 rfl Tryd.ntmps4 run_l20b cok_l20b (by simp) ?_
  by_cases h40 : 40 < order.length
  · (conv => whnf)
    (repeat' ((first | refine ord_ok (by (conv => whnf); (repeat' ((first | refine call_eq rfl lalive20 ?_ | refine ify ?_ | refine ifn ?_ | refine i6 ?_ | refine ati ?_ | refine mst ?_ | refine rmd ?_ | refine ibo (fun _ => ?_) (fun _ => ?_)) <;> conv => whnf)); (all_goals (repeat' (first | exact trivial | exact rfl | refine And.intro ?_ ?_)))) ?_ | refine call_eq rfl lalive20 ?_ | refine ify ?_ | refine ifn ?_ | refine i6 ?_ | refine ati ?_ | refine mst ?_ | refine rmd ?_ | refine ibo (fun _ => ?_) (fun _ => ?_)) <;> conv => whnf))
    exact rfl
  obtain ⟨k, hk, hk1, hk5⟩ : ∃ k : Nat, 1 + n8.tmod 5 = k ∧ 1 ≤ k ∧ k ≤ 5 := ⟨(1 + n8 % 5).toNat, by rw [Int.tmod_eq_emod_of_nonneg hn.1]; omega, by omega, by omega⟩
  (conv => whnf)
  (repeat' ((first | refine ord_ok (by (conv => whnf); (repeat' ((first | refine call_eq rfl lalive20 ?_ | refine ify ?_ | refine ifn ?_ | refine i6 ?_ | refine ati ?_ | refine mst ?_ | refine rmd ?_ | refine ibo (fun _ => ?_) (fun _ => ?_)) <;> conv => whnf)); (all_goals (repeat' (first | exact trivial | exact rfl | refine And.intro ?_ ?_)))) ?_ | refine call_eq rfl lalive20 ?_ | refine ify ?_ | refine ifn ?_ | refine i6 ?_ | refine ati ?_ | refine mst ?_ | refine rmd ?_ | refine ibo (fun _ => ?_) (fun _ => ?_)) <;> conv => whnf))
  rw [hk]
  refine loop_lo (ι := Nat) (fun w => w ≤ k) (fun w => [(7, .d (.int .i64 (w : Nat))), (6, .own 6), (5, .d (.int .i64 (k : Nat))), (1, .d (.list 1 (order.map dU8)))]) (fun w => [(6, .slice 43 1 (List.replicate w (.list 1 (rowD k))))]) (fun w => k - w) 0 (fun _ => rfl) (by omega) (.own 6 6 43 1 rfl rfl (.refl _ _)) ⟨rfl, rfl, rfl, rfl, trivial⟩ ⟨rfl, trivial⟩ ?_
  intro w hw
  refine sxCode_sound c1_ok (G := G_l20b) (pl := pl_l20b) _ _ _ _ (by kernel_rfl) ?_
  by_cases hwk : w < k
  · have hlr : (List.replicate w (Da.list 1 (rowD k))).length = w := List.length_replicate
    ((conv => whnf); repeat' ((first | refine odw ?_ | refine ify ?_ | refine ifn ?_ | refine i6 ?_ | refine ati ?_ | refine mst ?_ | refine rmd ?_ | refine ibo (fun _ => ?_) (fun _ => ?_)) <;> conv => whnf))
    refine loop_lo (ι := Nat) (fun v => v ≤ k) (fun v => [(9, .d (.int .i64 (v : Nat))), (8, .own 8), (7, .d (.int .i64 (w : Nat))), (6, .own 6), (5, .d (.int .i64 (k : Nat))), (1, .d (.list 1 (order.map dU8)))]) (fun v => [(6, .slice 43 1 (List.replicate w (.list 1 (rowD k)))), (8, .slice 3 1 (rowD v))]) (fun v => k - v) 0 (fun _ => rfl) (by omega) (.own 8 8 3 1 rfl rfl (.refl _ _)) ⟨rfl, rfl, rfl, rfl, rfl, rfl, trivial⟩ ⟨rfl, rfl, trivial⟩ ?_
    intro v hv
    have hlv : (rowD v).length = v := by simp [rowD]
    have hrs : rowD (v + 1) = rowD v ++ [.int .i64 (v : Int)] := by unfold rowD; rw [List.range_succ, List.map_append]; rfl
    refine sxCode_sound c1_ok (G := G_l20b) (pl := pl_l20b) _ _ _ _ (by kernel_rfl) ?_
    by_cases hvk : v < k
    · ((conv => whnf); repeat' ((first | refine odw ?_ | refine ify ?_ | refine ifn ?_ | refine i6 ?_ | refine ati ?_ | refine mst ?_ | refine rmd ?_ | refine ibo (fun _ => ?_) (fun _ => ?_)) <;> conv => whnf))
      exact ⟨v + 1, _, _, hvk, .refl _ _, ⟨rfl, rfl, rfl, rfl, rfl, rfl, trivial⟩, ⟨rfl, by rw [hrs]; rfl, trivial⟩, by omega⟩
    · have : v = k := by omega
      subst this
      (conv => whnf)
      (repeat' ((first | refine ord_ok (by (conv => whnf); (repeat' ((first | refine op_again c1_ok (G := []) (.frz 8 rfl (.refl _ _)) (.inr rfl) ?_ | refine ify ?_ | refine ifn ?_ | refine i6 ?_ | refine ati ?_ | refine mst ?_ | refine rmd ?_ | refine ibo (fun _ => ?_) (fun _ => ?_)) <;> conv => whnf)); (all_goals (repeat' (first | exact trivial | exact rfl | refine And.intro ?_ ?_)))) ?_ | refine op_again c1_ok (G := []) (.frz 8 rfl (.refl _ _)) (.inr rfl) ?_ | refine ify ?_ | refine ifn ?_ | refine i6 ?_ | refine ati ?_ | refine mst ?_ | refine rmd ?_ | refine ibo (fun _ => ?_) (fun _ => ?_)) <;> conv => whnf))
      exact ⟨w + 1, _, _, hwk, .refl _ _, ⟨rfl, rfl, rfl, rfl, trivial⟩, ⟨by rw [← rep_take]; rfl, trivial⟩, by omega⟩
  have hww : w = k := by omega
  subst hww
  have hjx : jobX (allI w) = .agg [.agg [.list 1 (List.replicate w (.list 1 (rowD w)))]] := by unfold jobX; rw [allI_eq]
  have hel := emp_len w
  have hnew := new_ok 33 (jobX (allI w)) (emp w) (by omega) (by omega)
  have hem : (emp w).map dTx = List.replicate w (.str ⟨#[]⟩) := List.map_replicate
  have htos : ∀ x ∈ allI w, x.length ≤ 1000 ∧ ∀ n ∈ x, 0 ≤ n ∧ n < (emp w).length := fun x hx => by
    rw [List.eq_of_mem_replicate hx, hel]
    exact ⟨by unfold rowI; simp; omega, rowI_in w⟩
  have h0 := M0_run (allI w) 33 (jobX (allI w)) (emp w) ⟨jobB (allI w) (by unfold allI; simp; omega) (fun x hx => by have := (htos x hx).1; omega)⟩ (by omega) (by omega) (fun s hs => by rw [List.eq_of_mem_replicate hs]; decide) (by unfold allI; simp; omega) htos
  generalize M0 33 (jobX (allI w)) (emp w) = Mz at hnew h0
  rw [hjx, hem] at hnew
  (conv => whnf)
  (repeat' ((first | refine ord_ok (by (conv => whnf); (repeat' ((first | refine mk_ok w (by omega) (by omega) (by omega) ?_ | refine call_frz 6 rfl ?_ | refine call_frz 49 rfl ?_ | refine ify ?_ | refine ifn ?_ | refine i6 ?_ | refine ati ?_ | refine mst ?_ | refine rmd ?_ | refine ibo (fun _ => ?_) (fun _ => ?_)) <;> conv => whnf)); (all_goals (repeat' (first | exact trivial | exact rfl | refine And.intro ?_ ?_)))) ?_ | refine mk_ok w (by omega) (by omega) (by omega) ?_ | refine call_frz 6 rfl ?_ | refine call_frz 49 rfl ?_ | refine ify ?_ | refine ifn ?_ | refine i6 ?_ | refine ati ?_ | refine mst ?_ | refine rmd ?_ | refine ibo (fun _ => ?_) (fun _ => ?_)) <;> conv => whnf))
  refine call_nrm rfl ?_
  (conv => whnf)
  (repeat' ((first | refine ord_ok (by (conv => whnf); (repeat' ((first | refine call_req [] [] hnew rfl rfl rfl rfl rfl rfl rfl ?_ | refine ify ?_ | refine ifn ?_ | refine i6 ?_ | refine ati ?_ | refine mst ?_ | refine rmd ?_ | refine ibo (fun _ => ?_) (fun _ => ?_)) <;> conv => whnf)); (all_goals (repeat' (first | exact trivial | exact rfl | refine And.intro ?_ ?_)))) ?_ | refine call_req [] [] hnew rfl rfl rfl rfl rfl rfl rfl ?_ | refine ify ?_ | refine ifn ?_ | refine i6 ?_ | refine ati ?_ | refine mst ?_ | refine rmd ?_ | refine ibo (fun _ => ?_) (fun _ => ?_)) <;> conv => whnf))
  have hc0 : Mz.net.flying.length = 0 ∧ Clean Mz.net := by
    obtain ⟨S, C, h1, h2⟩ := h0.inv.told
    have hS : S = [] := by
      cases hS : S with
      | nil => rfl
      | cons l L =>
        exfalso
        obtain ⟨v, hv, e⟩ := h2.src l (by rw [hS]; simp)
        have := h2.own v hv
        have e2 : (List.replicate (emp w).length false).getD v false = false := by rw [List.getD_eq_getElem?_getD, List.getElem?_replicate]; split <;> rfl
        rw [e2] at this
        have hm : l ∈ S.filter (fun l => l.src == (v : Int)) := List.mem_filter.2 ⟨by rw [hS]; simp, by simp [e]⟩
        rw [this] at hm
        simp at hm
    subst hS
    have hf : Mz.net.flying = [] := List.eq_nil_iff_forall_not_mem.2 fun l hl => by have := h1.fly l hl; simp at this
    have hC : C = [] := List.eq_nil_iff_forall_not_mem.2 fun l hl => by have := h1.cameIn l hl; simp at this
    subst hC
    exact ⟨by rw [hf]; rfl, [], [], h1, by rw [hf]; exact .refl _⟩
  refine loop_lo (ι := Nat × Mach × List Bool) (fun x => x.1 ≤ w ∧ RunM (allI w) (emp w) (List.replicate (emp w).length []) x.2.2 0 (1000 * (w - x.1)) x.2.1 ∧ Clean x.2.1.net ∧ x.2.1.net.flying.length = w * (w - x.1) ∧ (∀ v < x.1, x.2.2[v]? = some false) ∧ ∀ v, x.1 ≤ v → v < w → x.2.2[v]? = some true)
    (fun x => [(12, .d (.int .i64 (zI x.1))), (10, .own 900), (5, .d (.int .i64 (w : Nat))), (1, .d (.list 1 (order.map dU8)))]) (fun x => sM x.2.1) (fun x => x.1) (w, Mz, List.replicate (emp w).length false) (fun _ => rfl) ⟨by simp only; omega, by simpa using h0, hc0.2, by simp only [Nat.sub_self, Nat.mul_zero]; exact hc0.1, fun v hv => by simp only at hv ⊢; rw [List.getElem?_replicate, if_pos (by omega)], fun v h1 h2 => by simp only at h1; omega⟩ (.refl _ _) ⟨int_is (zI_pred w), rfl, rfl, rfl, trivial⟩ ⟨rfl, rfl, rfl, rfl, rfl, rfl, trivial⟩ ?_
  rintro ⟨q, M, wk⟩ ⟨hq, hM, hcl, hfl, hwf, hwt⟩
  simp only at hq hM hcl hfl hwf hwt
  cases q with
  | succ v =>
    refine sxCode_sound c1_ok (G := G_l20b) (pl := pl_l20b) _ _ _ _ (by kernel_rfl) ?_
    have hwk := hwf v (by omega)
    have hlen := hM.len
    rw [hel] at hlen
    have hwd := mworked_ok M v false (by omega) (by rw [hM.inv.wkd]; exact hwk)
    have hpw := mpass_wk M (by rw [hM.inv.wkd]; exact List.mem_of_getElem? hwk) (by rw [hM.inv.wkd, hM.inv.wl, hel]; omega)
    have hwork := work_inv hM (by omega) hwk
    have hM1 := hM.did hwk
    have hin := mlW_in hM.wb v
    have hml := mlW_all (k := w) (w := v) (by omega) (emp w)
    have hcl1 : Clean (M.did v (nxB v (gW (emp w) v) (gB (List.replicate (emp w).length []) v)) (mlW (allI w) (emp w) v)).net := hcl.sends (by rw [hM.inv.wks, hel]; omega) (by rw [hM.inv.wks]; exact hin)
    have hfl1 : (M.did v (nxB v (gW (emp w) v) (gB (List.replicate (emp w).length []) v)) (mlW (allI w) (emp w) v)).net.flying.length = w * (w - v) := by
      simp only [Mach.did]
      rw [sends_fly, hfl, hml, ← Nat.mul_succ]
      congr 1; omega
    generalize M.did v (nxB v (gW (emp w) v) (gB (List.replicate (emp w).length []) v)) (mlW (allI w) (emp w) v) = M1 at hwork hM1 hcl1 hfl1
    have hle : w * (w - v) ≤ 5 * 5 := Nat.mul_le_mul (by omega) (by omega)
    have hmul : ((w * (w - v) : Nat) : Int) = (w : Int) * ((w : Int) - (v : Int)) := by rw [Int.natCast_mul, Int.ofNat_sub (by omega)]
    have hmb : -9223372036854775808 ≤ (w : Int) * ((w : Int) - (v : Int)) ∧ (w : Int) * ((w : Int) - (v : Int)) ≤ 9223372036854775807 := by rw [← hmul]; omega
    have hf1 := mfly_ok M1 (by omega)
    rw [hfl1, hmul] at hf1
    (conv => whnf)
    have hv0 : (0 : Int) ≤ (v : Int) := by omega
    have hsb : -9223372036854775808 ≤ (w : Int) - (v : Int) ∧ (w : Int) - (v : Int) ≤ 9223372036854775807 := by omega
    have hpb : -9223372036854775808 ≤ (v : Int) - 1 ∧ (v : Int) - 1 ≤ 9223372036854775807 := by omega
    (repeat' ((first | refine ord_ok (by (conv => whnf); (repeat' ((first | refine if_yes hv0 ?_ | refine i64_is hmb ?_ | refine i64_is hsb ?_ | refine i64_is hpb ?_ | refine call_req [] [900, 901, 902, 903, 904, 905] hpw rfl rfl rfl rfl rfl rfl rfl ?_ | refine call_eq rfl (code_pure 5 0 workerS) ?_ | refine call_req [] [900, 901, 902, 903, 904, 905] hwd rfl rfl rfl rfl rfl rfl rfl ?_ | refine call_req [] [900, 901, 902, 903, 904, 905] hwork rfl rfl rfl rfl rfl rfl rfl ?_ | refine call_req [] [900, 901, 902, 903, 904, 905] hf1 rfl rfl rfl rfl rfl rfl rfl ?_ | refine ify ?_ | refine ifn ?_ | refine i6 ?_ | refine ati ?_ | refine mst ?_ | refine rmd ?_ | refine ibo (fun _ => ?_) (fun _ => ?_)) <;> conv => whnf)); (all_goals (repeat' (first | exact trivial | exact rfl | refine And.intro ?_ ?_)))) ?_ | refine if_yes hv0 ?_ | refine i64_is hmb ?_ | refine i64_is hsb ?_ | refine i64_is hpb ?_ | refine call_req [] [900, 901, 902, 903, 904, 905] hpw rfl rfl rfl rfl rfl rfl rfl ?_ | refine call_eq rfl (code_pure 5 0 workerS) ?_ | refine call_req [] [900, 901, 902, 903, 904, 905] hwd rfl rfl rfl rfl rfl rfl rfl ?_ | refine call_req [] [900, 901, 902, 903, 904, 905] hwork rfl rfl rfl rfl rfl rfl rfl ?_ | refine call_req [] [900, 901, 902, 903, 904, 905] hf1 rfl rfl rfl rfl rfl rfl rfl ?_ | refine ify ?_ | refine ifn ?_ | refine i6 ?_ | refine ati ?_ | refine mst ?_ | refine rmd ?_ | refine ibo (fun _ => ?_) (fun _ => ?_)) <;> conv => whnf))
    refine ⟨(v, M1, wk.set v true), _, _, ⟨by simp only; omega, ?_, hcl1, hfl1, fun x hx => ?_, fun x h1 h2 => ?_⟩, .refl _ _, ⟨int_is (zI_pred v), rfl, rfl, rfl, trivial⟩, ⟨rfl, rfl, rfl, rfl, rfl, rfl, trivial⟩, by simp only; omega⟩
    · rw [show 1000 * (w - (v + 1)) + 1000 = 1000 * (w - v) by omega] at hM1
      exact hM1
    · simp only at hx ⊢
      rw [List.getElem?_set, if_neg (by omega)]; exact hwf x (by omega)
    · simp only at h1 ⊢
      have hlw := (List.getElem?_eq_some_iff.1 hwk).1
      rw [List.getElem?_set]
      by_cases e : v = x
      · rw [if_pos e, if_pos hlw]
      · rw [if_neg e]; exact hwt x (by omega) h2
  | zero =>
    refine sxCode_sound c1_ok (G := G_l20b) (pl := pl_l20b) _ _ _ _ (by kernel_rfl) ?_
    have hall : ∀ b ∈ wk, b = true := fun b hb => by
      obtain ⟨x, hx, rfl⟩ := List.getElem_of_mem hb
      have := hwt x (by omega) (by have := hM.inv.wl; rw [hel] at this; omega)
      rw [List.getElem?_eq_getElem hx] at this
      exact Option.some.inj this
    have hkk : w * w ≤ 5 * 5 := Nat.mul_le_mul hk5 hk5
    rw [Nat.sub_zero] at hfl
    (conv => whnf)
    (repeat' ((first | refine ord_ok (by (conv => whnf); (repeat' ((first | refine if_no (show ¬ (0 : Int) ≤ -1 by decide) ?_ | refine ify ?_ | refine ifn ?_ | refine i6 ?_ | refine ati ?_ | refine mst ?_ | refine rmd ?_ | refine ibo (fun _ => ?_) (fun _ => ?_)) <;> conv => whnf)); (all_goals (repeat' (first | exact trivial | exact rfl | refine And.intro ?_ ?_)))) ?_ | refine if_no (show ¬ (0 : Int) ≤ -1 by decide) ?_ | refine ify ?_ | refine ifn ?_ | refine i6 ?_ | refine ati ?_ | refine mst ?_ | refine rmd ?_ | refine ibo (fun _ => ?_) (fun _ => ?_)) <;> conv => whnf))
    refine loop_lo (ι := Nat × Mach) (fun x => RunM (allI w) (emp w) (List.replicate (emp w).length []) wk 0 (1000 * w + x.1) x.2 ∧ Clean x.2.net ∧ x.1 + x.2.net.flying.length = w * w)
      (fun x => [(13, .d (.int .i64 (x.1 : Nat))), (10, .own 900), (5, .d (.int .i64 (w : Nat))), (1, .d (.list 1 (order.map dU8)))]) (fun x => sM x.2) (fun x => x.2.net.flying.length) (0, M) (fun _ => rfl) ⟨by simpa using hM, hcl, by simp only; omega⟩ (.refl _ _) ⟨rfl, rfl, rfl, rfl, trivial⟩ ⟨rfl, rfl, rfl, rfl, rfl, rfl, trivial⟩ ?_
    rintro ⟨i, M2⟩ ⟨h2, hc2, hi⟩
    simp only at h2 hc2 hi
    have hf2 := mfly_ok M2 (by omega)
    have hnw : false ∉ M2.worked := by rw [h2.inv.wkd]; intro hm; have := hall _ hm; cases this
    have hwl2 : M2.worked.length ≤ 1000 := by rw [h2.inv.wkd, h2.inv.wl, hel]; omega
    refine sxCode_sound c1_ok (G := G_l20b) (pl := pl_l20b) _ _ _ _ (by kernel_rfl) ?_
    by_cases hfy : 0 < M2.net.flying.length
    · have hpf := mpass_fly M2 hnw hwl2 h2.inv.net (by omega) (by rw [hc2.M]; omega)
      rw [hc2.M] at hpf
      have hdel : ∀ m : Nat, m < M2.net.flying.length → ∃ l, M2.net.flying[m]? = some l := fun m hm => ⟨_, List.getElem?_eq_getElem hm⟩
      have hend : ∀ (m : Nat) l, M2.net.flying[m]? = some l → (M2.net.deliver m l).flying.length = M2.net.flying.length - 1 := fun m l hl => by
        simp only [NetM.deliver]; rw [List.length_eraseIdx, if_pos (List.getElem?_eq_some_iff.1 hl).1]
      by_cases hio : i < order.length
      · have hx := List.getElem?_eq_getElem hio
        have hxb := ho _ (List.getElem_mem hio)
        generalize order[i] = x at hx hxb
        have hxd : (order.map dU8)[i]? = some (.int .u8 x) := by rw [List.getElem?_map, hx]; rfl
        obtain ⟨m, hm, hml⟩ : ∃ m : Nat, x.tmod M2.net.flying.length = m ∧ m < M2.net.flying.length := ⟨(x % M2.net.flying.length).toNat, by rw [Int.tmod_eq_emod_of_nonneg hxb.1]; have := Int.emod_nonneg x (show (M2.net.flying.length : Int) ≠ 0 by omega); omega, by have := Int.emod_lt_of_pos x (show (0 : Int) < M2.net.flying.length by omega); have := Int.emod_nonneg x (show (M2.net.flying.length : Int) ≠ 0 by omega); omega⟩
        obtain ⟨l, hl⟩ := hdel m hml
        have hde := mdel_ok M2 m l hl (by omega)
        have he := hend m l hl
        (conv => whnf)
        (repeat' ((first | refine ord_ok (by (conv => whnf); (repeat' ((first | refine at_da hxd rfl ?_ | refine call_req [] [900, 901, 902, 903, 904, 905] hpf rfl rfl rfl rfl rfl rfl rfl ?_ | refine call_eq rfl (code_pure 13 M2.net.flying.length lettersS) ?_ | refine call_eq rfl (at_dF 13 M2.net.flying.length lettersS) ?_ | refine call_req [] [900, 901, 902, 903, 904, 905] hf2 rfl rfl rfl rfl rfl rfl rfl ?_ | refine call_mqf (M := M2) ⟨rfl, rfl, rfl, rfl, rfl⟩ rfl (by omega) ?_ | refine ify ?_ | refine ifn ?_ | refine i6 ?_ | refine ati ?_ | refine mst ?_ | refine rmd ?_ | refine ibo (fun _ => ?_) (fun _ => ?_)) <;> conv => whnf)); (all_goals (repeat' (first | exact trivial | exact rfl | refine And.intro ?_ ?_)))) ?_ | refine at_da hxd rfl ?_ | refine call_req [] [900, 901, 902, 903, 904, 905] hpf rfl rfl rfl rfl rfl rfl rfl ?_ | refine call_eq rfl (code_pure 13 M2.net.flying.length lettersS) ?_ | refine call_eq rfl (at_dF 13 M2.net.flying.length lettersS) ?_ | refine call_req [] [900, 901, 902, 903, 904, 905] hf2 rfl rfl rfl rfl rfl rfl rfl ?_ | refine call_mqf (M := M2) ⟨rfl, rfl, rfl, rfl, rfl⟩ rfl (by omega) ?_ | refine ify ?_ | refine ifn ?_ | refine i6 ?_ | refine ati ?_ | refine mst ?_ | refine rmd ?_ | refine ibo (fun _ => ?_) (fun _ => ?_)) <;> conv => whnf))
        rw [hm]
        (conv => whnf)
        (repeat' ((first | refine ord_ok (by (conv => whnf); (repeat' ((first | refine call_req [] [900, 901, 902, 903, 904, 905] hde rfl rfl rfl rfl rfl rfl rfl ?_ | refine ify ?_ | refine ifn ?_ | refine i6 ?_ | refine ati ?_ | refine mst ?_ | refine rmd ?_ | refine ibo (fun _ => ?_) (fun _ => ?_)) <;> conv => whnf)); (all_goals (repeat' (first | exact trivial | exact rfl | refine And.intro ?_ ?_)))) ?_ | refine call_req [] [900, 901, 902, 903, 904, 905] hde rfl rfl rfl rfl rfl rfl rfl ?_ | refine ify ?_ | refine ifn ?_ | refine i6 ?_ | refine ati ?_ | refine mst ?_ | refine rmd ?_ | refine ibo (fun _ => ?_) (fun _ => ?_)) <;> conv => whnf))
        exact ⟨(i + 1, _), _, _, ⟨h2.deliver hl, hc2.deliver hl, by simp only; omega⟩, .refl _ _, ⟨rfl, rfl, rfl, rfl, trivial⟩, ⟨rfl, rfl, rfl, rfl, rfl, rfl, trivial⟩, by simp only; omega⟩
      · obtain ⟨l, hl⟩ := hdel 0 hfy
        have hde := mdel_ok M2 0 l hl (by omega)
        have he := hend 0 l hl
        (conv => whnf)
        (repeat' ((first | refine ord_ok (by (conv => whnf); (repeat' ((first | refine call_req [] [900, 901, 902, 903, 904, 905] hpf rfl rfl rfl rfl rfl rfl rfl ?_ | refine call_eq rfl (code_pure 13 M2.net.flying.length lettersS) ?_ | refine call_eq rfl (at_dF 13 M2.net.flying.length lettersS) ?_ | refine call_req [] [900, 901, 902, 903, 904, 905] hf2 rfl rfl rfl rfl rfl rfl rfl ?_ | refine call_req [] [900, 901, 902, 903, 904, 905] hde rfl rfl rfl rfl rfl rfl rfl ?_ | refine ify ?_ | refine ifn ?_ | refine i6 ?_ | refine ati ?_ | refine mst ?_ | refine rmd ?_ | refine ibo (fun _ => ?_) (fun _ => ?_)) <;> conv => whnf)); (all_goals (repeat' (first | exact trivial | exact rfl | refine And.intro ?_ ?_)))) ?_ | refine call_req [] [900, 901, 902, 903, 904, 905] hpf rfl rfl rfl rfl rfl rfl rfl ?_ | refine call_eq rfl (code_pure 13 M2.net.flying.length lettersS) ?_ | refine call_eq rfl (at_dF 13 M2.net.flying.length lettersS) ?_ | refine call_req [] [900, 901, 902, 903, 904, 905] hf2 rfl rfl rfl rfl rfl rfl rfl ?_ | refine call_req [] [900, 901, 902, 903, 904, 905] hde rfl rfl rfl rfl rfl rfl rfl ?_ | refine ify ?_ | refine ifn ?_ | refine i6 ?_ | refine ati ?_ | refine mst ?_ | refine rmd ?_ | refine ibo (fun _ => ?_) (fun _ => ?_)) <;> conv => whnf))
        exact ⟨(i + 1, _), _, _, ⟨h2.deliver hl, hc2.deliver hl, by simp only; omega⟩, .refl _ _, ⟨rfl, rfl, rfl, rfl, trivial⟩, ⟨rfl, rfl, rfl, rfl, rfl, rfl, trivial⟩, by simp only; omega⟩
    · have hpa := pass_inv h2 (by omega) (by omega) hall (by rw [hc2.M]; omega)
      have hM3 := h2.pass hall
      generalize M2.pass (roundB (allI w) (emp w)) = M3 at hpa hM3
      have hr2 := mround_ok M2
      rw [h2.inv.rd] at hr2
      have hr3 := mround_ok M3
      rw [hM3.inv.rd] at hr3
      have hl3 : M3.states.length = w := by rw [hM3.len, roundS_len, hel]
      have hw3 := mworked_ok M3 0 false (by omega) (by rw [hM3.inv.wkd, List.getElem?_replicate, if_pos (by omega)])
      (conv => whnf)
      (repeat' ((first | refine ord_ok (by (conv => whnf); (repeat' ((first | refine call_req [] [900, 901, 902, 903, 904, 905] hf2 rfl rfl rfl rfl rfl rfl rfl ?_ | refine call_req [] [900, 901, 902, 903, 904, 905] hpa rfl rfl rfl rfl rfl rfl rfl ?_ | refine call_req [] [900, 901, 902, 903, 904, 905] hr2 rfl rfl rfl rfl rfl rfl rfl ?_ | refine call_req [] [900, 901, 902, 903, 904, 905] hr3 rfl rfl rfl rfl rfl rfl rfl ?_ | refine call_req [] [900, 901, 902, 903, 904, 905] hw3 rfl rfl rfl rfl rfl rfl rfl ?_ | refine ify ?_ | refine ifn ?_ | refine i6 ?_ | refine ati ?_ | refine mst ?_ | refine rmd ?_ | refine ibo (fun _ => ?_) (fun _ => ?_)) <;> conv => whnf)); (all_goals (repeat' (first | exact trivial | exact rfl | refine And.intro ?_ ?_)))) ?_ | refine call_req [] [900, 901, 902, 903, 904, 905] hf2 rfl rfl rfl rfl rfl rfl rfl ?_ | refine call_req [] [900, 901, 902, 903, 904, 905] hpa rfl rfl rfl rfl rfl rfl rfl ?_ | refine call_req [] [900, 901, 902, 903, 904, 905] hr2 rfl rfl rfl rfl rfl rfl rfl ?_ | refine call_req [] [900, 901, 902, 903, 904, 905] hr3 rfl rfl rfl rfl rfl rfl rfl ?_ | refine call_req [] [900, 901, 902, 903, 904, 905] hw3 rfl rfl rfl rfl rfl rfl rfl ?_ | refine ify ?_ | refine ifn ?_ | refine i6 ?_ | refine ati ?_ | refine mst ?_ | refine rmd ?_ | refine ibo (fun _ => ?_) (fun _ => ?_)) <;> conv => whnf))
      exact rfl
end Go.Proofs.YtlchegpgicdldaaDoor
