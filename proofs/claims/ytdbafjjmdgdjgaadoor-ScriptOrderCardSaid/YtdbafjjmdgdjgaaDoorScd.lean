/- script: Parse, Right, Count. ref25: Bad, Text. law24: Of. -/
import Derived.Test.YtdbafjjmdgdjgaaDoorSca
import Derived.Test.YtdbafjjmdgdjgaaDoorScq
namespace Go.Proofs.YtdbafjjmdgdjgaaDoor
open Go.Sx Go.RowKit Go.Reg Go.Gr
variable {X : LayG}

set_option maxRecDepth 100000
def lineS : ByteArray := ⟨#[108, 105, 110, 101]⟩
def actS : ByteArray := ⟨#[97, 99, 116]⟩
/-- what Parse tells -/
def parseY (l : List (Nat × Nat)) (ok : Bool) : Da := if ok then .tuple [dPs l, .nili] else .tuple [.nils, dF 14 l.length lineS]
theorem Pure.mono {C : Cx} {f : FuncId} {xs : List Da} {Q Q' : Da → Prop} (h : Sx.Pure C f xs Q) (hq : ∀ y, Q y → Q' y) : Sx.Pure C f xs Q' := fun O w us h1 h2 h3 => ⟨(h O w us h1 h2 h3).1, (h O w us h1 h2 h3).2.mono fun e w' ⟨v, y, e1, e2, e3, e4⟩ => ⟨v, y, e1, hq y e2, e3, e4⟩⟩
theorem act_yes {b : List UInt8} {p : Nat × Nat} (hb : b.length ≤ 1000000) (h : IsAct b p) : Pure (C2 X) 20 [.str (bs b)] (fun y => y = .tuple [dP p, .bool true]) :=
  Pure.mono (act_pure b hb) fun y hy => by
    rcases hy with ⟨q, hq, rfl⟩ | ⟨u, v, hn, _⟩
    · rw [isAct_uniq hq h]
    · exact absurd h (hn p)
theorem act_no {b : List UInt8} (hb : b.length ≤ 1000000) (h : ∀ p, ¬ IsAct b p) : Pure (C2 X) 20 [.str (bs b)] (fun y => ∃ u v : Int, y = .tuple [.agg [.int .i64 u, .int .i64 v], .bool false]) :=
  Pure.mono (act_pure b hb) fun y hy => by
    rcases hy with ⟨q, hq, _⟩ | ⟨u, v, _, rfl⟩
    · exact absurd hq (h q)
    · exact ⟨u, v, rfl⟩
theorem act_any {b : List UInt8} (hb : b.length ≤ 1000000) : Pure (C2 X) 20 [.str (bs b)] (fun y => ∃ (u v : Int) (t : Bool), y = .tuple [.agg [.int .i64 u, .int .i64 v], .bool t]) :=
  Pure.mono (act_pure b hb) fun y hy => by
    rcases hy with ⟨q, _, rfl⟩ | ⟨u, v, _, rfl⟩
    · exact ⟨q.1, q.2, true, rfl⟩
    · exact ⟨u, v, false, rfl⟩
theorem bs_ne {a : List UInt8} (h : a ≠ []) : ¬ bs a = ({ data := #[] } : ByteArray) := fun e => h (bs_inj (e.trans rfl : bs a = bs []))
def pl_scp : List (Nat × Plan) := []
def G_scp : List FuncId := []
theorem cok_scp : codeOk Tryd.prog G_scp pl_scp (Tryd.f8.body.getD .skip) = true := by kernel_rfl
theorem run_scp (vs : Array Value) (w : World) : (callFunc 8 vs).run (C2 X).P w = .ok (.enter 8 vs) w := by kernel_rfl
set_option maxHeartbeats 2000000 in
theorem parse_pure (s : List UInt8) (hs : s.length ≤ 200000) {l : List (Nat × Nat)} {ok : Bool} (h : Pars s l ok) : Pure (C2 X) 8 [.str (bs s)] (fun y => y = parseY l ok) := by
  have hz := bs_size s
  refine pure_of (c2_ok X) (pl := pl_scp) (G := G_scp) Tryd.func8 rfl Tryd.ntmps8 run_scp cok_scp (by simp) ?_
  ((conv => whnf); repeat' ((first | refine odw ?_ | refine ify ?_ | refine ifn ?_ | refine i6 ?_ | refine ati ?_ | refine mst ?_ | refine rmd ?_ | refine ibo (fun _ => ?_) (fun _ => ?_)) <;> conv => whnf))
  refine loop_lo (ι := List (Nat × Nat) × List UInt8) (fun x => ∃ l', Pars x.2 l' ok ∧ l = x.1 ++ l' ∧ x.1.length + x.2.length ≤ s.length) (fun x => [(4, .own 300), (0, .d (.str (bs x.2)))]) (fun x => [(300, .slice 36 2 (x.1.map dP))]) (fun x => x.2.length) ([], s) (fun _ => rfl) ⟨l, h, rfl, by simp⟩ (.own 4 300 36 2 rfl rfl (.refl _ _)) ⟨rfl, rfl, trivial⟩ ⟨rfl, trivial⟩ ?_
  rintro ⟨d, r⟩ ⟨l', hp, hl, hlen⟩
  simp only at hp hl hlen
  have hdl : (d.map dP).length = d.length := List.length_map _
  refine sxCode_sound (c2_ok X) (G := G_scp) (pl := pl_scp) _ _ _ _ (by kernel_rfl) ?_
  cases hp with
  | nil =>
    ((conv => whnf); repeat' ((first | refine odw ?_ | refine ify ?_ | refine ifn ?_ | refine i6 ?_ | refine ati ?_ | refine mst ?_ | refine rmd ?_ | refine ibo (fun _ => ?_) (fun _ => ?_)) <;> conv => whnf))
    subst hl
    rw [List.append_nil]
    exact rfl
  | @line b p r2 l2 _ ha hr =>
    have hne : ¬ bs (b ++ 10 :: r2) = ({ data := #[] } : ByteArray) := bs_ne (by simp)
    have hbl : (b ++ 10 :: r2).length = b.length + (r2.length + 1) := by rw [List.length_append, List.length_cons]
    have hcut := cut_pure X (b ++ 10 :: r2) [10] (by omega)
    rw [cut_sep 10 b r2 (isAct_no ha)] at hcut
    have hact := act_yes (X := X) (by omega) ha
    (conv => whnf)
    (repeat' ((first | refine ord_ok (by (conv => whnf); (repeat' ((first | refine call_eq rfl hcut ?_ | refine call_eq rfl hact ?_ | refine ify ?_ | refine ifn ?_ | refine i6 ?_ | refine ati ?_ | refine mst ?_ | refine rmd ?_ | refine ibo (fun _ => ?_) (fun _ => ?_)) <;> conv => whnf)); (all_goals (repeat' (first | exact trivial | exact rfl | refine And.intro ?_ ?_)))) ?_ | refine call_eq rfl hcut ?_ | refine call_eq rfl hact ?_ | refine ify ?_ | refine ifn ?_ | refine i6 ?_ | refine ati ?_ | refine mst ?_ | refine rmd ?_ | refine ibo (fun _ => ?_) (fun _ => ?_)) <;> conv => whnf))
    refine ⟨(d ++ [p], r2), _, _, ⟨l2, hr, by rw [hl]; simp, by simp only [List.length_append, List.length_singleton]; omega⟩, .refl _ _, ⟨rfl, rfl, trivial⟩, ⟨?_, trivial⟩, by simp only; omega⟩
    refine slice_is ?_
    simp [dP]
  | @bad b r2 hb hn =>
    have hne : ¬ bs (b ++ 10 :: r2) = ({ data := #[] } : ByteArray) := bs_ne (by simp)
    have hbl : (b ++ 10 :: r2).length = b.length + (r2.length + 1) := by rw [List.length_append, List.length_cons]
    have hcut := cut_pure X (b ++ 10 :: r2) [10] (by omega)
    rw [cut_sep 10 b r2 hb] at hcut
    have hw := wrong_pure (X := X) d.length lineS
    (conv => whnf)
    (repeat' ((first | refine ord_ok (by (conv => whnf); (repeat' ((first | refine call_eq rfl hcut ?_ | refine ify ?_ | refine ifn ?_ | refine i6 ?_ | refine ati ?_ | refine mst ?_ | refine rmd ?_ | refine ibo (fun _ => ?_) (fun _ => ?_)) <;> conv => whnf)); (all_goals (repeat' (first | exact trivial | exact rfl | refine And.intro ?_ ?_)))) ?_ | refine call_eq rfl hcut ?_ | refine ify ?_ | refine ifn ?_ | refine i6 ?_ | refine ati ?_ | refine mst ?_ | refine rmd ?_ | refine ibo (fun _ => ?_) (fun _ => ?_)) <;> conv => whnf))
    refine call_pure rfl (act_no (X := X) (b := b) (by omega) hn) ?_
    rintro y ⟨u, v, rfl⟩
    rw [← hdl] at hw
    (conv => whnf)
    (repeat' ((first | refine ord_ok (by (conv => whnf); (repeat' ((first | refine call_eq rfl hw ?_ | refine ify ?_ | refine ifn ?_ | refine i6 ?_ | refine ati ?_ | refine mst ?_ | refine rmd ?_ | refine ibo (fun _ => ?_) (fun _ => ?_)) <;> conv => whnf)); (all_goals (repeat' (first | exact trivial | exact rfl | refine And.intro ?_ ?_)))) ?_ | refine call_eq rfl hw ?_ | refine ify ?_ | refine ifn ?_ | refine i6 ?_ | refine ati ?_ | refine mst ?_ | refine rmd ?_ | refine ibo (fun _ => ?_) (fun _ => ?_)) <;> conv => whnf))
    subst hl
    rw [List.append_nil]
    show _ = Da.tuple [.nils, dF 14 d.length lineS]
    rw [← hdl]
    exact rfl
  | @last b hb hne =>
    have hne2 : ¬ bs r = ({ data := #[] } : ByteArray) := bs_ne hne
    have hcut := cut_pure X r [10] (by omega)
    rw [cut_none 10 r hb] at hcut
    have hw := wrong_pure (X := X) d.length lineS
    (conv => whnf)
    (repeat' ((first | refine ord_ok (by (conv => whnf); (repeat' ((first | refine call_eq rfl hcut ?_ | refine ify ?_ | refine ifn ?_ | refine i6 ?_ | refine ati ?_ | refine mst ?_ | refine rmd ?_ | refine ibo (fun _ => ?_) (fun _ => ?_)) <;> conv => whnf)); (all_goals (repeat' (first | exact trivial | exact rfl | refine And.intro ?_ ?_)))) ?_ | refine call_eq rfl hcut ?_ | refine ify ?_ | refine ifn ?_ | refine i6 ?_ | refine ati ?_ | refine mst ?_ | refine rmd ?_ | refine ibo (fun _ => ?_) (fun _ => ?_)) <;> conv => whnf))
    refine call_pure rfl (act_any (X := X) (b := r) (by omega)) ?_
    rintro y ⟨u, v, t, rfl⟩
    rw [← hdl] at hw
    (conv => whnf)
    (repeat' ((first | refine ord_ok (by (conv => whnf); (repeat' ((first | refine call_eq rfl hw ?_ | refine ify ?_ | refine ifn ?_ | refine i6 ?_ | refine ati ?_ | refine mst ?_ | refine rmd ?_ | refine ibo (fun _ => ?_) (fun _ => ?_)) <;> conv => whnf)); (all_goals (repeat' (first | exact trivial | exact rfl | refine And.intro ?_ ?_)))) ?_ | refine call_eq rfl hw ?_ | refine ify ?_ | refine ifn ?_ | refine i6 ?_ | refine ati ?_ | refine mst ?_ | refine rmd ?_ | refine ibo (fun _ => ?_) (fun _ => ?_)) <;> conv => whnf))
    subst hl
    rw [List.append_nil]
    show _ = Da.tuple [.nils, dF 14 d.length lineS]
    rw [← hdl]
    exact rfl
/-- acts of any numbers -/
def dA (p : Int × Int) : Da := .agg [.int .i64 p.1, .int .i64 p.2]
def dAs (l : List (Int × Int)) : Da := .list 2 (l.map dA)
theorem dPs_eq (m : List (Nat × Nat)) : dPs m = dAs (m.map toI) := by unfold dPs dAs; rw [List.map_map]; rfl
/-- the first act that is wrong -/
def fbad (l : List (Int × Int)) : Option Nat := l.findIdx? fun p => !decide (okA p)
theorem fbad_some {l : List (Int × Int)} {i : Nat} {p : Int × Int} (h : ∀ k q, k < i → l[k]? = some q → okA q) (hx : l[i]? = some p) (hp : ¬ okA p) : fbad l = some i := by
  unfold fbad
  rw [List.findIdx?_eq_some_iff_getElem]
  obtain ⟨h1, h2⟩ := List.getElem?_eq_some_iff.1 hx
  refine ⟨h1, by rw [h2]; simp [hp], fun j hj => ?_⟩
  have := h j _ hj (List.getElem?_eq_getElem (by omega))
  simp [this]
theorem fbad_none {l : List (Int × Int)} (h : ∀ k q, k < l.length → l[k]? = some q → okA q) : fbad l = none := by
  unfold fbad
  rw [List.findIdx?_eq_none_iff]
  intro p hp
  obtain ⟨i, hi, rfl⟩ := List.mem_iff_getElem.1 hp
  simp [h i _ hi (List.getElem?_eq_getElem hi)]
theorem okA_step {l : List (Int × Int)} {i : Nat} {p : Int × Int} (h : ∀ k q, k < i → l[k]? = some q → okA q) (hx : l[i]? = some p) (hp : okA p) : ∀ k q, k < i + 1 → l[k]? = some q → okA q := by
  intro k q hk hq
  rcases Nat.lt_or_ge k i with hl | hl
  · exact h k q hl hq
  · have : k = i := by omega
    subst this
    rw [hx] at hq; cases hq; exact hp
def rightY (l : List (Int × Int)) : Da := match fbad l with | none => .nili | some i => dF 14 i actS
def badY (l : List (Int × Int)) : Int := match fbad l with | none => -1 | some i => i
def pl_scr : List (Nat × Plan) := [(4, .leaf [0, 1, 0, 0, 0, 1, 2, 0, 0, 0, 0, 0, 1, 0, 0, 0, 0, 1, 0, 0, 0, 0, 1, 2, 0, 0, 1, 0, 0, 0] [0, 1, 2, 3, 4, 5, 6, 7, 8, 9, 10, 11, 12, 13, 14, 15, 16, 17, 18, 19, 20, 21, 22, 23, 24, 25, 26, 27, 28, 29] [0, 1, 3, 7, 15, 31, 15, 79, 255, 511, 1023, 2047, 4095, 8191, 16383, 32767, 65535, 131071, 262143, 524287, 1048575, 2097151, 4194303, 8388607, 16777215, 33554431, 67108863, 134217727, 268435455, 536870911])]
def G_scr : List FuncId := [24, 26]
theorem cok_scr : codeOk Tryd.prog G_scr pl_scr (Tryd.f13.body.getD .skip) = true := by kernel_rfl
theorem run_scr (vs : Array Value) (w : World) : (callFunc 13 vs).run (C2 X).P w = .ok (.enter 13 vs) w := by kernel_rfl
set_option maxHeartbeats 2000000 in
theorem right_pure (l : List (Int × Int)) (hlm : l.length ≤ 1000000) : Pure (C2 X) 13 [dAs l] (fun y => y = rightY l) := by
  have hdl : (l.map dA).length = l.length := List.length_map _
  have hnm := names_pure (X := X)
  have hnl : namesD.length = 6 := rfl
  refine pure_of (c2_ok X) (pl := pl_scr) (G := G_scr) Tryd.func13 rfl Tryd.ntmps13 run_scr cok_scr (by simp) ?_
  ((conv => whnf); repeat' ((first | refine odw ?_ | refine ify ?_ | refine ifn ?_ | refine i6 ?_ | refine ati ?_ | refine mst ?_ | refine rmd ?_ | refine ibo (fun _ => ?_) (fun _ => ?_)) <;> conv => whnf))
  refine loop_lo (ι := Nat) (fun i => i ≤ l.length ∧ ∀ k q, k < i → l[k]? = some q → okA q) (fun i => [(7, .d (.int .i64 i)), (6, .d (.int .i64 l.length)), (5, .d (dAs l))]) (fun _ => []) (fun i => l.length - i) 0 (fun _ => rfl) ⟨Nat.zero_le _, (by intro k q h; omega)⟩ (.refl _ _) ⟨rfl, by rw [← hdl]; rfl, rfl, trivial⟩ trivial ?_
  rintro i ⟨hi, hok⟩
  refine sxCode_sound (c2_ok X) (G := G_scr) (pl := pl_scr) _ _ _ _ (by kernel_rfl) ?_
  by_cases hil : i < l.length
  · have hx := List.getElem?_eq_getElem hil
    generalize l[i] = p at hx
    have hxd : (l.map dA)[i]? = some (.agg [.int .i64 p.1, .int .i64 p.2]) := by rw [List.getElem?_map, hx]; rfl
    have hbr := bare_pure (X := X) p.1
    by_cases hp : okA p
    · obtain ⟨h1, h2, h3, h4, h5⟩ := hp
      by_cases h6 : 3 < p.1
      · have h7 := h5 h6
        rw [decide_eq_true (by omega)] at hbr
        (conv => whnf)
        (repeat' ((first | refine ord_ok (by (conv => whnf); (repeat' ((first | refine at_ls hxd rfl ?_ | refine call_eq rfl hnm ?_ | refine call_eq rfl hbr ?_ | refine ify ?_ | refine ifn ?_ | refine i6 ?_ | refine ati ?_ | refine mst ?_ | refine rmd ?_ | refine ibo (fun _ => ?_) (fun _ => ?_)) <;> conv => whnf)); (all_goals (repeat' (first | exact trivial | exact rfl | refine And.intro ?_ ?_)))) ?_ | refine at_ls hxd rfl ?_ | refine call_eq rfl hnm ?_ | refine call_eq rfl hbr ?_ | refine ify ?_ | refine ifn ?_ | refine i6 ?_ | refine ati ?_ | refine mst ?_ | refine rmd ?_ | refine ibo (fun _ => ?_) (fun _ => ?_)) <;> conv => whnf))
        exact ⟨i + 1, _, _, ⟨by omega, okA_step hok hx ⟨h1, h2, h3, h4, h5⟩⟩, .refl _ _, ⟨rfl, rfl, rfl, trivial⟩, trivial, by omega⟩
      · rw [decide_eq_false (by omega)] at hbr
        (conv => whnf)
        (repeat' ((first | refine ord_ok (by (conv => whnf); (repeat' ((first | refine at_ls hxd rfl ?_ | refine call_eq rfl hnm ?_ | refine call_eq rfl hbr ?_ | refine ify ?_ | refine ifn ?_ | refine i6 ?_ | refine ati ?_ | refine mst ?_ | refine rmd ?_ | refine ibo (fun _ => ?_) (fun _ => ?_)) <;> conv => whnf)); (all_goals (repeat' (first | exact trivial | exact rfl | refine And.intro ?_ ?_)))) ?_ | refine at_ls hxd rfl ?_ | refine call_eq rfl hnm ?_ | refine call_eq rfl hbr ?_ | refine ify ?_ | refine ifn ?_ | refine i6 ?_ | refine ati ?_ | refine mst ?_ | refine rmd ?_ | refine ibo (fun _ => ?_) (fun _ => ?_)) <;> conv => whnf))
        exact ⟨i + 1, _, _, ⟨by omega, okA_step hok hx ⟨h1, h2, h3, h4, h5⟩⟩, .refl _ _, ⟨rfl, rfl, rfl, trivial⟩, trivial, by omega⟩
    · have hY : rightY l = dF 14 i actS := by unfold rightY; rw [fbad_some hok hx hp]
      have hw := wrong_pure (X := X) i actS
      rw [hY]
      by_cases h1 : p.1 < 0
      · (conv => whnf)
        (repeat' ((first | refine ord_ok (by (conv => whnf); (repeat' ((first | refine at_ls hxd rfl ?_ | refine call_eq rfl hw ?_ | refine ify ?_ | refine ifn ?_ | refine i6 ?_ | refine ati ?_ | refine mst ?_ | refine rmd ?_ | refine ibo (fun _ => ?_) (fun _ => ?_)) <;> conv => whnf)); (all_goals (repeat' (first | exact trivial | exact rfl | refine And.intro ?_ ?_)))) ?_ | refine at_ls hxd rfl ?_ | refine call_eq rfl hw ?_ | refine ify ?_ | refine ifn ?_ | refine i6 ?_ | refine ati ?_ | refine mst ?_ | refine rmd ?_ | refine ibo (fun _ => ?_) (fun _ => ?_)) <;> conv => whnf))
        exact rfl
      by_cases h2 : 5 < p.1
      · (conv => whnf)
        (repeat' ((first | refine ord_ok (by (conv => whnf); (repeat' ((first | refine at_ls hxd rfl ?_ | refine call_eq rfl hnm ?_ | refine call_eq rfl hw ?_ | refine ify ?_ | refine ifn ?_ | refine i6 ?_ | refine ati ?_ | refine mst ?_ | refine rmd ?_ | refine ibo (fun _ => ?_) (fun _ => ?_)) <;> conv => whnf)); (all_goals (repeat' (first | exact trivial | exact rfl | refine And.intro ?_ ?_)))) ?_ | refine at_ls hxd rfl ?_ | refine call_eq rfl hnm ?_ | refine call_eq rfl hw ?_ | refine ify ?_ | refine ifn ?_ | refine i6 ?_ | refine ati ?_ | refine mst ?_ | refine rmd ?_ | refine ibo (fun _ => ?_) (fun _ => ?_)) <;> conv => whnf))
        exact rfl
      by_cases h3 : p.2 < 0
      · (conv => whnf)
        (repeat' ((first | refine ord_ok (by (conv => whnf); (repeat' ((first | refine at_ls hxd rfl ?_ | refine call_eq rfl hnm ?_ | refine call_eq rfl hw ?_ | refine ify ?_ | refine ifn ?_ | refine i6 ?_ | refine ati ?_ | refine mst ?_ | refine rmd ?_ | refine ibo (fun _ => ?_) (fun _ => ?_)) <;> conv => whnf)); (all_goals (repeat' (first | exact trivial | exact rfl | refine And.intro ?_ ?_)))) ?_ | refine at_ls hxd rfl ?_ | refine call_eq rfl hnm ?_ | refine call_eq rfl hw ?_ | refine ify ?_ | refine ifn ?_ | refine i6 ?_ | refine ati ?_ | refine mst ?_ | refine rmd ?_ | refine ibo (fun _ => ?_) (fun _ => ?_)) <;> conv => whnf))
        exact rfl
      by_cases h4 : 999999 < p.2
      · (conv => whnf)
        (repeat' ((first | refine ord_ok (by (conv => whnf); (repeat' ((first | refine at_ls hxd rfl ?_ | refine call_eq rfl hnm ?_ | refine call_eq rfl hw ?_ | refine ify ?_ | refine ifn ?_ | refine i6 ?_ | refine ati ?_ | refine mst ?_ | refine rmd ?_ | refine ibo (fun _ => ?_) (fun _ => ?_)) <;> conv => whnf)); (all_goals (repeat' (first | exact trivial | exact rfl | refine And.intro ?_ ?_)))) ?_ | refine at_ls hxd rfl ?_ | refine call_eq rfl hnm ?_ | refine call_eq rfl hw ?_ | refine ify ?_ | refine ifn ?_ | refine i6 ?_ | refine ati ?_ | refine mst ?_ | refine rmd ?_ | refine ibo (fun _ => ?_) (fun _ => ?_)) <;> conv => whnf))
        exact rfl
      have h5 : 3 < p.1 ∧ p.2 ≠ 0 := by
        by_cases h6 : 3 < p.1
        · refine ⟨h6, fun h7 => hp ⟨by omega, by omega, by omega, by omega, fun _ => h7⟩⟩
        · exact absurd ⟨by omega, by omega, by omega, by omega, fun h => absurd h h6⟩ hp
      obtain ⟨h6, h7⟩ := h5
      rw [decide_eq_true (by omega)] at hbr
      (conv => whnf)
      (repeat' ((first | refine ord_ok (by (conv => whnf); (repeat' ((first | refine at_ls hxd rfl ?_ | refine call_eq rfl hnm ?_ | refine call_eq rfl hbr ?_ | refine call_eq rfl hw ?_ | refine ify ?_ | refine ifn ?_ | refine i6 ?_ | refine ati ?_ | refine mst ?_ | refine rmd ?_ | refine ibo (fun _ => ?_) (fun _ => ?_)) <;> conv => whnf)); (all_goals (repeat' (first | exact trivial | exact rfl | refine And.intro ?_ ?_)))) ?_ | refine at_ls hxd rfl ?_ | refine call_eq rfl hnm ?_ | refine call_eq rfl hbr ?_ | refine call_eq rfl hw ?_ | refine ify ?_ | refine ifn ?_ | refine i6 ?_ | refine ati ?_ | refine mst ?_ | refine rmd ?_ | refine ibo (fun _ => ?_) (fun _ => ?_)) <;> conv => whnf))
      exact rfl
  · have hY : rightY l = .nili := by unfold rightY; rw [fbad_none (fun k q hk hq => hok k q (by omega) hq)]
    rw [hY]
    ((conv => whnf); repeat' ((first | refine odw ?_ | refine ify ?_ | refine ifn ?_ | refine i6 ?_ | refine ati ?_ | refine mst ?_ | refine rmd ?_ | refine ibo (fun _ => ?_) (fun _ => ?_)) <;> conv => whnf))
    exact rfl
def pl_scn2 : List (Nat × Plan) := []
def G_scn2 : List FuncId := []
theorem cok_scn2 : codeOk Tryd.prog G_scn2 pl_scn2 (Tryd.f16.body.getD .skip) = true := by kernel_rfl
theorem run_scn2 (vs : Array Value) (w : World) : (callFunc 16 vs).run (C2 X).P w = .ok (.enter 16 vs) w := by kernel_rfl
theorem count_pure (l : List (Int × Int)) (k : Int) (hlm : l.length ≤ 1000000) : Pure (C2 X) 16 [dAs l, .int .i64 k] (fun y => y = .int .i64 (cntK k l)) := by
  have hdl : (l.map dA).length = l.length := List.length_map _
  refine pure_of (c2_ok X) (pl := pl_scn2) (G := G_scn2) Tryd.func16 rfl Tryd.ntmps16 run_scn2 cok_scn2 (by simp) ?_
  ((conv => whnf); repeat' ((first | refine odw ?_ | refine ify ?_ | refine ifn ?_ | refine i6 ?_ | refine ati ?_ | refine mst ?_ | refine rmd ?_ | refine ibo (fun _ => ?_) (fun _ => ?_)) <;> conv => whnf))
  refine loop_lo (ι := Nat) (fun i => i ≤ l.length) (fun i => [(10, .d (.int .i64 i)), (9, .d (.int .i64 l.length)), (8, .d (dAs l)), (5, .d (.int .i64 (cntK k (l.take i)))), (1, .d (.int .i64 k))]) (fun _ => []) (fun i => l.length - i) 0 (fun _ => rfl) (Nat.zero_le _) (.refl _ _) ⟨rfl, by rw [← hdl]; rfl, rfl, rfl, rfl, trivial⟩ trivial ?_
  intro i hi
  refine sxCode_sound (c2_ok X) (G := G_scn2) (pl := pl_scn2) _ _ _ _ (by kernel_rfl) ?_
  by_cases hil : i < l.length
  · have hx := List.getElem?_eq_getElem hil
    generalize l[i] = p at hx
    have hxd : (l.map dA)[i]? = some (.agg [.int .i64 p.1, .int .i64 p.2]) := by rw [List.getElem?_map, hx]; rfl
    have hc := cntK_take (k := k) hx
    have hcl := cntK_le k (l.take i)
    rw [List.length_take] at hcl
    by_cases hk : p.1 = k
    · rw [if_pos hk] at hc
      (conv => whnf)
      (repeat' ((first | refine ord_ok (by (conv => whnf); (repeat' ((first | refine at_ls hxd rfl ?_ | refine ify ?_ | refine ifn ?_ | refine i6 ?_ | refine ati ?_ | refine mst ?_ | refine rmd ?_ | refine ibo (fun _ => ?_) (fun _ => ?_)) <;> conv => whnf)); (all_goals (repeat' (first | exact trivial | exact rfl | refine And.intro ?_ ?_)))) ?_ | refine at_ls hxd rfl ?_ | refine ify ?_ | refine ifn ?_ | refine i6 ?_ | refine ati ?_ | refine mst ?_ | refine rmd ?_ | refine ibo (fun _ => ?_) (fun _ => ?_)) <;> conv => whnf))
      refine ⟨i + 1, _, _, by omega, .refl _ _, ⟨rfl, rfl, rfl, ?_, rfl, trivial⟩, trivial, by omega⟩
      show Dat.d (.int .i64 _) = Dat.d (.int .i64 _)
      rw [hc]; rfl
    · rw [if_neg hk] at hc
      (conv => whnf)
      (repeat' ((first | refine ord_ok (by (conv => whnf); (repeat' ((first | refine at_ls hxd rfl ?_ | refine ify ?_ | refine ifn ?_ | refine i6 ?_ | refine ati ?_ | refine mst ?_ | refine rmd ?_ | refine ibo (fun _ => ?_) (fun _ => ?_)) <;> conv => whnf)); (all_goals (repeat' (first | exact trivial | exact rfl | refine And.intro ?_ ?_)))) ?_ | refine at_ls hxd rfl ?_ | refine ify ?_ | refine ifn ?_ | refine i6 ?_ | refine ati ?_ | refine mst ?_ | refine rmd ?_ | refine ibo (fun _ => ?_) (fun _ => ?_)) <;> conv => whnf))
      refine ⟨i + 1, _, _, by omega, .refl _ _, ⟨rfl, rfl, rfl, ?_, rfl, trivial⟩, trivial, by omega⟩
      show Dat.d (.int .i64 _) = Dat.d (.int .i64 _)
      rw [hc]; rfl
  · have e : l.take i = l := List.take_of_length_le (by omega)
    rw [e]
    ((conv => whnf); repeat' ((first | refine odw ?_ | refine ify ?_ | refine ifn ?_ | refine i6 ?_ | refine ati ?_ | refine mst ?_ | refine rmd ?_ | refine ibo (fun _ => ?_) (fun _ => ?_)) <;> conv => whnf))
    exact rfl
def pl_sbd : List (Nat × Plan) := []
def G_sbd : List FuncId := []
theorem cok_sbd : codeOk Tryd.prog G_sbd pl_sbd (Tryd.f15.body.getD .skip) = true := by kernel_rfl
theorem run_sbd (vs : Array Value) (w : World) : (callFunc 15 vs).run (C2 X).P w = .ok (.enter 15 vs) w := by kernel_rfl
set_option maxHeartbeats 2000000 in
theorem rbad_pure (l : List (Int × Int)) (hlm : l.length ≤ 1000000) : Pure (C2 X) 15 [dAs l] (fun y => y = .int .i64 (badY l)) := by
  have hdl : (l.map dA).length = l.length := List.length_map _
  refine pure_of (c2_ok X) (pl := pl_sbd) (G := G_sbd) Tryd.func15 rfl Tryd.ntmps15 run_sbd cok_sbd (by simp) ?_
  ((conv => whnf); repeat' ((first | refine odw ?_ | refine ify ?_ | refine ifn ?_ | refine i6 ?_ | refine ati ?_ | refine mst ?_ | refine rmd ?_ | refine ibo (fun _ => ?_) (fun _ => ?_)) <;> conv => whnf))
  refine loop_lo (ι := Nat) (fun i => i ≤ l.length ∧ ∀ k q, k < i → l[k]? = some q → okA q) (fun i => [(3, .d (.int .i64 i)), (0, .d (dAs l))]) (fun _ => []) (fun i => l.length - i) 0 (fun _ => rfl) ⟨Nat.zero_le _, (by intro k q h; omega)⟩ (.refl _ _) ⟨rfl, rfl, trivial⟩ trivial ?_
  rintro i ⟨hi, hok⟩
  refine sxCode_sound (c2_ok X) (G := G_sbd) (pl := pl_sbd) _ _ _ _ (by kernel_rfl) ?_
  by_cases hil : i < l.length
  · have hx := List.getElem?_eq_getElem hil
    generalize l[i] = p at hx
    have hxd : (l.map dA)[i]? = some (.agg [.int .i64 p.1, .int .i64 p.2]) := by rw [List.getElem?_map, hx]; rfl
    by_cases hp : okA p
    · obtain ⟨h1, h2, h3, h4, h5⟩ := hp
      by_cases h6 : 3 < p.1
      · have h7 := h5 h6
        (conv => whnf)
        (repeat' ((first | refine ord_ok (by (conv => whnf); (repeat' ((first | refine at_ls hxd rfl ?_ | refine ify ?_ | refine ifn ?_ | refine i6 ?_ | refine ati ?_ | refine mst ?_ | refine rmd ?_ | refine ibo (fun _ => ?_) (fun _ => ?_)) <;> conv => whnf)); (all_goals (repeat' (first | exact trivial | exact rfl | refine And.intro ?_ ?_)))) ?_ | refine at_ls hxd rfl ?_ | refine ify ?_ | refine ifn ?_ | refine i6 ?_ | refine ati ?_ | refine mst ?_ | refine rmd ?_ | refine ibo (fun _ => ?_) (fun _ => ?_)) <;> conv => whnf))
        exact ⟨i + 1, _, _, ⟨by omega, okA_step hok hx ⟨h1, h2, h3, h4, h5⟩⟩, .refl _ _, ⟨rfl, rfl, trivial⟩, trivial, by omega⟩
      · (conv => whnf)
        (repeat' ((first | refine ord_ok (by (conv => whnf); (repeat' ((first | refine at_ls hxd rfl ?_ | refine ify ?_ | refine ifn ?_ | refine i6 ?_ | refine ati ?_ | refine mst ?_ | refine rmd ?_ | refine ibo (fun _ => ?_) (fun _ => ?_)) <;> conv => whnf)); (all_goals (repeat' (first | exact trivial | exact rfl | refine And.intro ?_ ?_)))) ?_ | refine at_ls hxd rfl ?_ | refine ify ?_ | refine ifn ?_ | refine i6 ?_ | refine ati ?_ | refine mst ?_ | refine rmd ?_ | refine ibo (fun _ => ?_) (fun _ => ?_)) <;> conv => whnf))
        exact ⟨i + 1, _, _, ⟨by omega, okA_step hok hx ⟨h1, h2, h3, h4, h5⟩⟩, .refl _ _, ⟨rfl, rfl, trivial⟩, trivial, by omega⟩
    · have hY : badY l = i := by unfold badY; rw [fbad_some hok hx hp]
      rw [hY]
      by_cases h1 : p.1 < 0
      · (conv => whnf)
        (repeat' ((first | refine ord_ok (by (conv => whnf); (repeat' ((first | refine at_ls hxd rfl ?_ | refine ify ?_ | refine ifn ?_ | refine i6 ?_ | refine ati ?_ | refine mst ?_ | refine rmd ?_ | refine ibo (fun _ => ?_) (fun _ => ?_)) <;> conv => whnf)); (all_goals (repeat' (first | exact trivial | exact rfl | refine And.intro ?_ ?_)))) ?_ | refine at_ls hxd rfl ?_ | refine ify ?_ | refine ifn ?_ | refine i6 ?_ | refine ati ?_ | refine mst ?_ | refine rmd ?_ | refine ibo (fun _ => ?_) (fun _ => ?_)) <;> conv => whnf))
        exact rfl
      by_cases h2 : 5 < p.1
      · (conv => whnf)
        (repeat' ((first | refine ord_ok (by (conv => whnf); (repeat' ((first | refine at_ls hxd rfl ?_ | refine ify ?_ | refine ifn ?_ | refine i6 ?_ | refine ati ?_ | refine mst ?_ | refine rmd ?_ | refine ibo (fun _ => ?_) (fun _ => ?_)) <;> conv => whnf)); (all_goals (repeat' (first | exact trivial | exact rfl | refine And.intro ?_ ?_)))) ?_ | refine at_ls hxd rfl ?_ | refine ify ?_ | refine ifn ?_ | refine i6 ?_ | refine ati ?_ | refine mst ?_ | refine rmd ?_ | refine ibo (fun _ => ?_) (fun _ => ?_)) <;> conv => whnf))
        exact rfl
      by_cases h3 : p.2 < 0
      · (conv => whnf)
        (repeat' ((first | refine ord_ok (by (conv => whnf); (repeat' ((first | refine at_ls hxd rfl ?_ | refine ify ?_ | refine ifn ?_ | refine i6 ?_ | refine ati ?_ | refine mst ?_ | refine rmd ?_ | refine ibo (fun _ => ?_) (fun _ => ?_)) <;> conv => whnf)); (all_goals (repeat' (first | exact trivial | exact rfl | refine And.intro ?_ ?_)))) ?_ | refine at_ls hxd rfl ?_ | refine ify ?_ | refine ifn ?_ | refine i6 ?_ | refine ati ?_ | refine mst ?_ | refine rmd ?_ | refine ibo (fun _ => ?_) (fun _ => ?_)) <;> conv => whnf))
        exact rfl
      by_cases h4 : 999999 < p.2
      · (conv => whnf)
        (repeat' ((first | refine ord_ok (by (conv => whnf); (repeat' ((first | refine at_ls hxd rfl ?_ | refine ify ?_ | refine ifn ?_ | refine i6 ?_ | refine ati ?_ | refine mst ?_ | refine rmd ?_ | refine ibo (fun _ => ?_) (fun _ => ?_)) <;> conv => whnf)); (all_goals (repeat' (first | exact trivial | exact rfl | refine And.intro ?_ ?_)))) ?_ | refine at_ls hxd rfl ?_ | refine ify ?_ | refine ifn ?_ | refine i6 ?_ | refine ati ?_ | refine mst ?_ | refine rmd ?_ | refine ibo (fun _ => ?_) (fun _ => ?_)) <;> conv => whnf))
        exact rfl
      have h5 : 3 < p.1 ∧ p.2 ≠ 0 := by
        by_cases h6 : 3 < p.1
        · refine ⟨h6, fun h7 => hp ⟨by omega, by omega, by omega, by omega, fun _ => h7⟩⟩
        · exact absurd ⟨by omega, by omega, by omega, by omega, fun h => absurd h h6⟩ hp
      obtain ⟨h6, h7⟩ := h5
      (conv => whnf)
      (repeat' ((first | refine ord_ok (by (conv => whnf); (repeat' ((first | refine at_ls hxd rfl ?_ | refine ify ?_ | refine ifn ?_ | refine i6 ?_ | refine ati ?_ | refine mst ?_ | refine rmd ?_ | refine ibo (fun _ => ?_) (fun _ => ?_)) <;> conv => whnf)); (all_goals (repeat' (first | exact trivial | exact rfl | refine And.intro ?_ ?_)))) ?_ | refine at_ls hxd rfl ?_ | refine ify ?_ | refine ifn ?_ | refine i6 ?_ | refine ati ?_ | refine mst ?_ | refine rmd ?_ | refine ibo (fun _ => ?_) (fun _ => ?_)) <;> conv => whnf))
      exact rfl
  · have hY : badY l = -1 := by unfold badY; rw [fbad_none (fun k q hk hq => hok k q (by omega) hq)]
    rw [hY]
    ((conv => whnf); repeat' ((first | refine odw ?_ | refine ify ?_ | refine ifn ?_ | refine i6 ?_ | refine ati ?_ | refine mst ?_ | refine rmd ?_ | refine ibo (fun _ => ?_) (fun _ => ?_)) <;> conv => whnf))
    exact rfl
def pl_sof : List (Nat × Plan) := []
def G_sof : List FuncId := []
theorem cok_sof : codeOk Tryd.prog G_sof pl_sof (Tryd.f14.body.getD .skip) = true := by kernel_rfl
theorem run_sof (vs : Array Value) (w : World) : (callFunc 14 vs).run (C2 X).P w = .ok (.enter 14 vs) w := by kernel_rfl
theorem aof_pure (l : List (Int × Int)) (hlm : l.length ≤ 8796093022207) : Pure (C2 X) 14 [dAs l] (fun y => y = dAs l) := by
  have hdl : (l.map dA).length = l.length := List.length_map _
  refine pure_of (c2_ok X) (pl := pl_sof) (G := G_sof) Tryd.func14 rfl Tryd.ntmps14 run_sof cok_sof (by simp) ?_
  ((conv => whnf); repeat' ((first | refine odw ?_ | refine ify ?_ | refine ifn ?_ | refine i6 ?_ | refine ati ?_ | refine mst ?_ | refine rmd ?_ | refine ibo (fun _ => ?_) (fun _ => ?_)) <;> conv => whnf))
  refine loop_lo (ι := Nat) (fun i => i ≤ l.length) (fun i => [(4, .d (.int .i64 i)), (3, .own 300), (0, .d (dAs l))]) (fun i => [(300, .slice 36 2 ((l.take i).map dA))]) (fun i => l.length - i) 0 (fun _ => rfl) (Nat.zero_le _) (.own 3 300 36 2 rfl rfl (.refl _ _)) ⟨rfl, rfl, rfl, trivial⟩ ⟨rfl, trivial⟩ ?_
  intro i hi
  have htl : ((l.take i).map dA).length = i := by rw [List.length_map, List.length_take]; omega
  refine sxCode_sound (c2_ok X) (G := G_sof) (pl := pl_sof) _ _ _ _ (by kernel_rfl) ?_
  by_cases hil : i < l.length
  · have hx := List.getElem?_eq_getElem hil
    generalize l[i] = p at hx
    have hxd : (l.map dA)[i]? = some (.agg [.int .i64 p.1, .int .i64 p.2]) := by rw [List.getElem?_map, hx]; rfl
    (conv => whnf)
    (repeat' ((first | refine ord_ok (by (conv => whnf); (repeat' ((first | refine at_ls hxd rfl ?_ | refine most16 (by simp only [List.length_map, List.length_take, List.length_cons, List.length_nil]; omega) ?_ | refine ify ?_ | refine ifn ?_ | refine i6 ?_ | refine ati ?_ | refine mst ?_ | refine rmd ?_ | refine ibo (fun _ => ?_) (fun _ => ?_)) <;> conv => whnf)); (all_goals (repeat' (first | exact trivial | exact rfl | refine And.intro ?_ ?_)))) ?_ | refine at_ls hxd rfl ?_ | refine most16 (by simp only [List.length_map, List.length_take, List.length_cons, List.length_nil]; omega) ?_ | refine ify ?_ | refine ifn ?_ | refine i6 ?_ | refine ati ?_ | refine mst ?_ | refine rmd ?_ | refine ibo (fun _ => ?_) (fun _ => ?_)) <;> conv => whnf))
    refine ⟨i + 1, _, _, by omega, .refl _ _, ⟨rfl, rfl, rfl, trivial⟩, ⟨?_, trivial⟩, by omega⟩
    refine slice_is ?_
    rw [List.take_add_one, hx]; simp [dA]
  · have e : l.take i = l := List.take_of_length_le (by omega)
    rw [e]
    ((conv => whnf); repeat' ((first | refine odw ?_ | refine ify ?_ | refine ifn ?_ | refine i6 ?_ | refine ati ?_ | refine mst ?_ | refine rmd ?_ | refine ibo (fun _ => ?_) (fun _ => ?_)) <;> conv => whnf))
    exact rfl
def pl_srt : List (Nat × Plan) := []
def G_srt : List FuncId := []
theorem cok_srt : codeOk Tryd.prog G_srt pl_srt (Tryd.f17.body.getD .skip) = true := by kernel_rfl
theorem run_srt (vs : Array Value) (w : World) : (callFunc 17 vs).run (C2 X).P w = .ok (.enter 17 vs) w := by kernel_rfl
theorem rtext_pure (m : List (Nat × Nat)) (hm : ∀ p ∈ m, actOk p) (hlm : m.length ≤ 1000000) : Pure (C2 X) 17 [dPs m] (fun y => y = .str (bs (textB m))) := by
  have hdl : (m.map dP).length = m.length := List.length_map _
  refine pure_of (c2_ok X) (pl := pl_srt) (G := G_srt) Tryd.func17 rfl Tryd.ntmps17 run_srt cok_srt (by simp) ?_
  ((conv => whnf); repeat' ((first | refine odw ?_ | refine ify ?_ | refine ifn ?_ | refine i6 ?_ | refine ati ?_ | refine mst ?_ | refine rmd ?_ | refine ibo (fun _ => ?_) (fun _ => ?_)) <;> conv => whnf))
  refine loop_lo (ι := Nat) (fun i => i ≤ m.length) (fun i => [(4, .d (.int .i64 i)), (3, .d (.str (bs (textB (m.take i))))), (0, .d (dPs m))]) (fun i => []) (fun i => m.length - i) 0 (fun _ => rfl) (Nat.zero_le _) (.refl _ _) ⟨rfl, rfl, rfl, trivial⟩ trivial ?_
  intro i hi
  refine sxCode_sound (c2_ok X) (G := G_srt) (pl := pl_srt) _ _ _ _ (by kernel_rfl) ?_
  by_cases hil : i < m.length
  · have hx := List.getElem?_eq_getElem hil
    have hpm := List.getElem_mem hil
    generalize m[i] = p at hx hpm
    have hpo := hm p hpm
    have hxd : (m.map dP)[i]? = some (.agg [.int .i64 p.1, .int .i64 p.2]) := by rw [List.getElem?_map, hx]; rfl
    have hrl := Pure.up (X := X) (rline_pure p.1 p.2 hpo.1 hpo.2.1)
    have h1 := textB_len (m.take i) (fun q hq => hm q (List.mem_of_mem_take hq))
    have h2 := textB_len [p] (fun q hq => by rw [List.mem_singleton.1 hq]; exact hpo)
    have e2 : textB [p] = lnB p.1 p.2 ++ [10] := rfl
    rw [e2] at h2
    rw [List.length_take] at h1
    simp only [List.length_singleton] at h2
    have e3 : textB (m.take (i + 1)) = textB (m.take i) ++ (lnB p.1 p.2 ++ [10]) := by rw [List.take_add_one, hx, textB_app]; rfl
    (conv => whnf)
    (repeat' ((first | refine ord_ok (by (conv => whnf); (repeat' ((first | refine at_ls hxd rfl ?_ | refine call_eq rfl hrl ?_ | refine cat_ok (by rw [bs_size, bs_size]; omega) ?_ | refine ify ?_ | refine ifn ?_ | refine i6 ?_ | refine ati ?_ | refine mst ?_ | refine rmd ?_ | refine ibo (fun _ => ?_) (fun _ => ?_)) <;> conv => whnf)); (all_goals (repeat' (first | exact trivial | exact rfl | refine And.intro ?_ ?_)))) ?_ | refine at_ls hxd rfl ?_ | refine call_eq rfl hrl ?_ | refine cat_ok (by rw [bs_size, bs_size]; omega) ?_ | refine ify ?_ | refine ifn ?_ | refine i6 ?_ | refine ati ?_ | refine mst ?_ | refine rmd ?_ | refine ibo (fun _ => ?_) (fun _ => ?_)) <;> conv => whnf))
    refine ⟨i + 1, _, _, by omega, .refl _ _, ⟨rfl, ?_, rfl, trivial⟩, trivial, by omega⟩
    show Dat.d (.str _) = Dat.d (.str _)
    rw [e3, bs_cat]
  · have e : m.take i = m := List.take_of_length_le (by omega)
    rw [e]
    ((conv => whnf); repeat' ((first | refine odw ?_ | refine ify ?_ | refine ifn ?_ | refine i6 ?_ | refine ati ?_ | refine mst ?_ | refine rmd ?_ | refine ibo (fun _ => ?_) (fun _ => ?_)) <;> conv => whnf))
    exact rfl
end Go.Proofs.YtdbafjjmdgdjgaaDoor
