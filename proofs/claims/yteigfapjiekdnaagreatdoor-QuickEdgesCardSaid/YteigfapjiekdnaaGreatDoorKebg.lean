/- Merged: Con Vsb Vlc Vlg Lng Vli Srq. -/
import Derived.Test.YteigfapjiekdnaaGreatDoorKeaq
import Derived.Test.YteigfapjiekdnaaGreatDoorKebf
import Derived.Test.YteigfapjiekdnaaGreatDoorKeax
import Derived.Test.YteigfapjiekdnaaGreatDoorKeaz
import Derived.Test.YteigfapjiekdnaaGreatDoorKeai
import Derived.Test.YteigfapjiekdnaaGreatDoorKeao
import Derived.Test.YteigfapjiekdnaaGreatDoorSxu
section
/- pat.Connected: the walk. -/
namespace Go.Sx
open Go Go.RowKit Go.Reg
section
variable {C : Cx} {fr : Fr} {σ : Sg}
/-- 'x | y', also where the order is drawn -/
theorem op_or0 (a b z : Nat) (hz : a ||| b = z) {n kd : Nat} {o : Oper} {K : Fr → Sg → Prop} {t ty : Nat} {x y : Operand} (ho : o.op = .binOp .or t x y ty) (hx : ev C.Γ fr x = .d (.int .i64 (a : Int))) (hy : ev C.Γ fr y = .d (.int .i64 (b : Int))) (ha : a < 9223372036854775808) (hb : b < 9223372036854775808) (hkd : kd = 0 ∨ kd = 3) (hd : dstOk o.dst n = true)
    (hK : K (putF o.dst (.d (.int .i64 (z : Int))) fr) σ) : OpSem C n kd o K fr σ := by
  subst hz
  refine opSem_calc (by rcases hkd with rfl | rfl <;> decide) (by rcases hkd with rfl | rfl <;> decide) hd fun B S w0 η φ a' w hM => ?_
  have e1 := rep_int (rd_da (ev_rep hM x) hx)
  have e2 := rep_int (rd_da (ev_rep hM y) hy)
  refine .inr ⟨_, _, hK, ?_, rd_int _ _, fun _ => by simp [dynPure, ho, e1, e2, plain2]⟩
  simp only [execOp, ho]
  rw [e1, e2]
  refine run_v ?_
  have := i64_or_nat a b ha hb
  rw [BitVec.ofInt_natCast, BitVec.ofInt_natCast] at this
  simp [eqGuard, binOp, Op.intBits]
  exact this
/-- '1 << b', also where the order is drawn -/
theorem op_bit0 (b : Nat) {n kd : Nat} {o : Oper} {K : Fr → Sg → Prop} {t ty : Nat} {x y : Operand} {yk : IntKind} (ho : o.op = .binOp .shl t x y ty) (hx : ev C.Γ fr x = .d (.int .i64 1)) (hy : ev C.Γ fr y = .d (.int yk (b : Int))) (hb : b ≤ 30) (hkd : kd = 0 ∨ kd = 3) (hd : dstOk o.dst n = true)
    (hK : K (putF o.dst (.d (.int .i64 ((2 ^ b : Nat) : Int))) fr) σ) : OpSem C n kd o K fr σ := by
  refine opSem_calc (by rcases hkd with rfl | rfl <;> decide) (by rcases hkd with rfl | rfl <;> decide) hd fun B S w0 η φ a' w hM => ?_
  have e1 := rep_int (rd_da (ev_rep hM x) hx)
  have e2 := rep_int (rd_da (ev_rep hM y) hy)
  refine .inr ⟨_, _, hK, ?_, rd_int _ _, fun _ => by simp [dynPure, ho, e1, e2, plain2]⟩
  simp only [execOp, ho]
  rw [e1, e2]
  refine run_v ?_
  have h1 : (2 : Nat) ^ b ≤ 2 ^ 30 := Nat.pow_le_pow_right (by decide) hb
  have h3 : ((2 ^ b : Nat) : Int) = (2 : Int) ^ b := by norm_cast
  have h2 : IntKind.i64.wrap ((2 : Int) ^ b) = (2 : Int) ^ b := by
    rw [← h3]
    generalize (2 : Nat) ^ b = q at h1
    exact wrap64_in ⟨by omega, by omega⟩
  simp [eqGuard, binOp, h2]
end
end Go.Sx
namespace Go.Gr
open Go.Proofs.YteigfapjiekdnaaGreatDoor
/-- an edge that touches what was seen: both ends are seen -/
def stepM (m : Nat) (e : Edg) : Nat := if m.testBit e.a.toNat = true ∨ m.testBit e.b.toNat = true then m ||| (2 ^ e.a.toNat ||| 2 ^ e.b.toNat) else m
def roundM (E : List Edg) (m : Nat) : Nat := E.foldl stepM m
def seenM (E : List Edg) : Nat → Nat
  | 0 => 1
  | r + 1 => roundM E (seenM E r)
theorem stepM_lt {m n : Nat} {e : Edg} (h : m < 2 ^ n) (ha : e.a.toNat < n) (hb : e.b.toNat < n) : stepM m e < 2 ^ n := by
  unfold stepM
  split
  · exact Nat.or_lt_two_pow h (Nat.or_lt_two_pow (Nat.pow_lt_pow_right (by decide) ha) (Nat.pow_lt_pow_right (by decide) hb))
  · exact h
theorem foldM_lt {n : Nat} : ∀ {E : List Edg} {m : Nat}, m < 2 ^ n → (∀ e ∈ E, e.a.toNat < n ∧ e.b.toNat < n) → E.foldl stepM m < 2 ^ n
  | [], _, h, _ => h
  | e :: E, m, h, hE => foldM_lt (E := E) (stepM_lt h (hE e (by simp)).1 (hE e (by simp)).2) fun x hx => hE x (by simp [hx])
theorem seenM_lt {n : Nat} {E : List Edg} (hn : 0 < n) (hE : ∀ e ∈ E, e.a.toNat < n ∧ e.b.toNat < n) : ∀ r, seenM E r < 2 ^ n
  | 0 => by show 1 < 2 ^ n; exact Nat.one_lt_two_pow (by omega)
  | r + 1 => foldM_lt (seenM_lt hn hE r) hE
theorem fold_take {E : List Edg} {m i : Nat} {e : Edg} (h : E[i]? = some e) : (E.take (i + 1)).foldl stepM m = stepM ((E.take i).foldl stepM m) e := by
  rw [List.take_add_one, h, List.foldl_append]; rfl
end Go.Gr
namespace Go.Proofs.YteigfapjiekdnaaGreatDoor
open Go.Sx Go.RowKit Go.Reg Go.Gr

set_option maxRecDepth 100000
def pl_pcn : List (Nat × Plan) := [(10, .leaf [0, 0, 1, 0, 0, 1, 0, 0, 0, 0] [0, 1, 4, 2, 3, 5, 6, 7, 8, 9] [0, 0, 2, 6, 0, 16, 48, 126, 255, 511])]
def G_pcn : List FuncId := [31]
theorem cok_pcn : codeOk Tryz.prog G_pcn pl_pcn (Tryz.f47.body.getD .skip) = true := by kernel_rfl
theorem run_pcn (vs : Array Value) (w : World) : (callFunc 47 vs).run C1.P w = .ok (.enter 47 vs) w := by kernel_rfl
set_option maxHeartbeats 8000000 in
theorem conn_pure {p : Pt} (hp : pErr p = none) (h0 : p.labels ≠ []) (hfin : seenM p.edges p.labels.length = 2 ^ p.labels.length - 1) : Pure C1 47 [dPt p] (fun y => y = .bool true) := by
  have hpos := List.length_pos_iff.2 h0
  have hpo := pt_of hp
  have h8 := (lErr_none (pErr_none hp).1).1
  have hE := pt_edges hp
  have hri := pright_pure p (by omega) (by omega)
  rw [rightP_none hp] at hri
  have hdl : (p.labels.map dI).length = p.labels.length := List.length_map _
  have hde : (p.edges.map dE).length = p.edges.length := List.length_map _
  have hEn : ∀ e ∈ p.edges, e.a.toNat < p.labels.length ∧ e.b.toNat < p.labels.length := fun e he => by
    have := hpo.edge e he; omega
  have hlt := fun r => seenM_lt (E := p.edges) hpos hEn r
  obtain ⟨n, hn⟩ : ∃ n, p.labels.length = n := ⟨_, rfl⟩
  rw [hn] at hfin hEn hlt h8 hpos
  have h2n : 2 ^ n ≤ 2 ^ 8 := Nat.pow_le_pow_right (by decide) h8
  refine pure_of c1_ok (pl := pl_pcn) (G := G_pcn) Tryz.func47 rfl Tryz.ntmps47 run_pcn cok_pcn (by simp) ?_
  (conv => whnf)
  (repeat' ((first | refine ord_ok (by (conv => whnf); (repeat' ((first | refine call_eq rfl hri ?_ | refine ify ?_ | refine ifn ?_ | refine i6 ?_ | refine ati ?_ | refine mst ?_ | refine rmd ?_ | refine ibo (fun _ => ?_) (fun _ => ?_)) <;> conv => whnf)); (all_goals (repeat' (first | exact trivial | exact rfl | refine And.intro ?_ ?_)))) ?_ | refine call_eq rfl hri ?_ | refine ify ?_ | refine ifn ?_ | refine i6 ?_ | refine ati ?_ | refine mst ?_ | refine rmd ?_ | refine ibo (fun _ => ?_) (fun _ => ?_)) <;> conv => whnf))
  refine loop_lo (ι := Nat) (fun r => r ≤ n) (fun r => [(18, .d (.int .i64 r)), (17, .d (.int .i64 (p.labels.map dI).length)), (3, .d (.int .i64 (seenM p.edges r : Nat))), (1, .own 1)]) (fun _ => [(1, .cells 38 [.d (dIs p.labels), .d (dEs p.edges)])]) (fun r => n - r) 0 (fun _ => rfl) (Nat.zero_le _) (.refl _ _) ⟨rfl, rfl, rfl, rfl, trivial⟩ ⟨rfl, trivial⟩ ?_
  intro r hr
  refine sxCode_sound c1_ok (G := G_pcn) (pl := pl_pcn) _ _ _ _ (by kernel_rfl) ?_
  have hlr := hlt r
  by_cases hrl : r < n
  · have hsn : seenM p.edges (r + 1) = p.edges.foldl stepM (seenM p.edges r) := rfl
    generalize seenM p.edges r = m0 at hlr hsn ⊢
    (conv => whnf)
    (repeat' ((first | refine ord_ok (by (conv => whnf); (repeat' ((first | refine same_ok ?_ | refine ify ?_ | refine ifn ?_ | refine i6 ?_ | refine ati ?_ | refine mst ?_ | refine rmd ?_ | refine ibo (fun _ => ?_) (fun _ => ?_)) <;> conv => whnf)); (all_goals (repeat' (first | exact trivial | exact rfl | refine And.intro ?_ ?_)))) ?_ | refine same_ok ?_ | refine ify ?_ | refine ifn ?_ | refine i6 ?_ | refine ati ?_ | refine mst ?_ | refine rmd ?_ | refine ibo (fun _ => ?_) (fun _ => ?_)) <;> conv => whnf))
    refine loop_lo (ι := Nat) (fun i => i ≤ p.edges.length) (fun i => [(23, .d (.int .i64 i)), (22, .d (.int .i64 (p.edges.map dE).length)), (21, .d (dEs p.edges)), (18, .d (.int .i64 r)), (17, .d (.int .i64 (p.labels.map dI).length)), (3, .d (.int .i64 ((p.edges.take i).foldl stepM m0 : Nat))), (1, .own 1)]) (fun _ => [(1, .cells 38 [.d (dIs p.labels), .d (dEs p.edges)])]) (fun i => p.edges.length - i) 0 (fun _ => rfl) (Nat.zero_le _) (.refl _ _) ⟨rfl, rfl, rfl, rfl, rfl, rfl, rfl, trivial⟩ ⟨rfl, trivial⟩ ?_
    intro i hi
    refine sxCode_sound c1_ok (G := G_pcn) (pl := pl_pcn) _ _ _ _ (by kernel_rfl) ?_
    by_cases hil : i < p.edges.length
    · have hx := List.getElem?_eq_getElem hil
      have hxm := List.getElem_mem hil
      generalize p.edges[i] = x at hx hxm
      have hxo := hpo.edge x hxm
      obtain ⟨u, hu⟩ := Int.eq_ofNat_of_zero_le (show 0 ≤ x.a by omega)
      obtain ⟨v, hv⟩ := Int.eq_ofNat_of_zero_le (show 0 ≤ x.b by omega)
      have hxd : (p.edges.map dE)[i]? = some (.agg [.int .i64 (u : Nat), .int .i64 (v : Nat)]) := by rw [List.getElem?_map, hx]; simp [dE, hu, hv]
      have hml : (p.edges.take i).foldl stepM m0 < 2 ^ n := foldM_lt hlr fun e he => hEn e (List.mem_of_mem_take he)
      have hst := fold_take (m := m0) hx
      have hsl : stepM ((p.edges.take i).foldl stepM m0) x < 2 ^ n := stepM_lt hml (hEn x hxm).1 (hEn x hxm).2
      generalize (p.edges.take i).foldl stepM m0 = m at hml hst hsl ⊢
      have hse : stepM m x = if m.testBit u = true ∨ m.testBit v = true then m ||| (2 ^ u ||| 2 ^ v) else m := by
        unfold stepM; rw [hu, hv, Int.toNat_natCast, Int.toNat_natCast]
      have b1 := bit_of m u
      have b2 := bit_of m v
      have hpu : 2 ^ u ≤ 2 ^ 8 := Nat.pow_le_pow_right (by decide) (by omega)
      have hpv : 2 ^ v ≤ 2 ^ 8 := Nat.pow_le_pow_right (by decide) (by omega)
      have hou : 2 ^ u ||| 2 ^ v < 2 ^ 9 := Nat.or_lt_two_pow (by omega) (by omega)
      obtain ⟨w, hw⟩ : ∃ w, 2 ^ u ||| 2 ^ v = w := ⟨_, rfl⟩
      rw [hw] at hou hse
      obtain ⟨z, hz⟩ : ∃ z, m ||| w = z := ⟨_, rfl⟩
      rw [hz] at hse
      have d1 := Nat.div_le_self m (2 ^ u)
      have d2 := Nat.div_le_self m (2 ^ v)
      obtain ⟨q1, hq1⟩ : ∃ q, m / 2 ^ u = q := ⟨_, rfl⟩
      obtain ⟨q2, hq2⟩ : ∃ q, m / 2 ^ v = q := ⟨_, rfl⟩
      rw [hq1] at b1 d1
      rw [hq2] at b2 d2
      by_cases tu : m.testBit u = true
      · rw [if_pos tu] at b1
        have hs : stepM m x = z := by rw [hse, if_pos (.inl tu)]
        (conv => whnf)
        (repeat' ((first | refine ord_ok (by (conv => whnf); (repeat' ((first | refine at_da hxd rfl ?_ | refine op_shrz u m q1 hq1 rfl rfl rfl (by omega) rfl rfl ?_ | refine op_and q1 1 _ b1 rfl rfl rfl (by omega) (by decide) rfl rfl ?_ | refine op_shrz v m q2 hq2 rfl rfl rfl (by omega) rfl rfl ?_ | refine op_and q2 1 _ b2 rfl rfl rfl (by omega) (by decide) rfl rfl ?_ | refine op_bit0 u rfl rfl rfl (by omega) (.inl rfl) rfl ?_ | refine op_bit0 v rfl rfl rfl (by omega) (.inl rfl) rfl ?_ | refine op_or0 (2 ^ u) (2 ^ v) w hw rfl rfl rfl (by omega) (by omega) (.inl rfl) rfl ?_ | refine op_or0 m w z hz rfl rfl rfl (by omega) (by omega) (.inl rfl) rfl ?_ | refine ify ?_ | refine ifn ?_ | refine i6 ?_ | refine ati ?_ | refine mst ?_ | refine rmd ?_ | refine ibo (fun _ => ?_) (fun _ => ?_)) <;> conv => whnf)); (all_goals (repeat' (first | exact trivial | exact rfl | refine And.intro ?_ ?_)))) ?_ | refine at_da hxd rfl ?_ | refine op_shrz u m q1 hq1 rfl rfl rfl (by omega) rfl rfl ?_ | refine op_and q1 1 _ b1 rfl rfl rfl (by omega) (by decide) rfl rfl ?_ | refine op_shrz v m q2 hq2 rfl rfl rfl (by omega) rfl rfl ?_ | refine op_and q2 1 _ b2 rfl rfl rfl (by omega) (by decide) rfl rfl ?_ | refine op_bit0 u rfl rfl rfl (by omega) (.inl rfl) rfl ?_ | refine op_bit0 v rfl rfl rfl (by omega) (.inl rfl) rfl ?_ | refine op_or0 (2 ^ u) (2 ^ v) w hw rfl rfl rfl (by omega) (by omega) (.inl rfl) rfl ?_ | refine op_or0 m w z hz rfl rfl rfl (by omega) (by omega) (.inl rfl) rfl ?_ | refine ify ?_ | refine ifn ?_ | refine i6 ?_ | refine ati ?_ | refine mst ?_ | refine rmd ?_ | refine ibo (fun _ => ?_) (fun _ => ?_)) <;> conv => whnf))
        exact ⟨i + 1, _, _, hil, .refl _ _, ⟨rfl, rfl, rfl, rfl, rfl, int_is (by rw [hst, hs]), rfl, trivial⟩, ⟨rfl, trivial⟩, by omega⟩
      · rw [if_neg tu] at b1
        by_cases tv : m.testBit v = true
        · rw [if_pos tv] at b2
          have hs : stepM m x = z := by rw [hse, if_pos (.inr tv)]
          (conv => whnf)
          (repeat' ((first | refine ord_ok (by (conv => whnf); (repeat' ((first | refine at_da hxd rfl ?_ | refine op_shrz u m q1 hq1 rfl rfl rfl (by omega) rfl rfl ?_ | refine op_and q1 1 _ b1 rfl rfl rfl (by omega) (by decide) rfl rfl ?_ | refine op_shrz v m q2 hq2 rfl rfl rfl (by omega) rfl rfl ?_ | refine op_and q2 1 _ b2 rfl rfl rfl (by omega) (by decide) rfl rfl ?_ | refine op_bit0 u rfl rfl rfl (by omega) (.inl rfl) rfl ?_ | refine op_bit0 v rfl rfl rfl (by omega) (.inl rfl) rfl ?_ | refine op_or0 (2 ^ u) (2 ^ v) w hw rfl rfl rfl (by omega) (by omega) (.inl rfl) rfl ?_ | refine op_or0 m w z hz rfl rfl rfl (by omega) (by omega) (.inl rfl) rfl ?_ | refine ify ?_ | refine ifn ?_ | refine i6 ?_ | refine ati ?_ | refine mst ?_ | refine rmd ?_ | refine ibo (fun _ => ?_) (fun _ => ?_)) <;> conv => whnf)); (all_goals (repeat' (first | exact trivial | exact rfl | refine And.intro ?_ ?_)))) ?_ | refine at_da hxd rfl ?_ | refine op_shrz u m q1 hq1 rfl rfl rfl (by omega) rfl rfl ?_ | refine op_and q1 1 _ b1 rfl rfl rfl (by omega) (by decide) rfl rfl ?_ | refine op_shrz v m q2 hq2 rfl rfl rfl (by omega) rfl rfl ?_ | refine op_and q2 1 _ b2 rfl rfl rfl (by omega) (by decide) rfl rfl ?_ | refine op_bit0 u rfl rfl rfl (by omega) (.inl rfl) rfl ?_ | refine op_bit0 v rfl rfl rfl (by omega) (.inl rfl) rfl ?_ | refine op_or0 (2 ^ u) (2 ^ v) w hw rfl rfl rfl (by omega) (by omega) (.inl rfl) rfl ?_ | refine op_or0 m w z hz rfl rfl rfl (by omega) (by omega) (.inl rfl) rfl ?_ | refine ify ?_ | refine ifn ?_ | refine i6 ?_ | refine ati ?_ | refine mst ?_ | refine rmd ?_ | refine ibo (fun _ => ?_) (fun _ => ?_)) <;> conv => whnf))
          exact ⟨i + 1, _, _, hil, .refl _ _, ⟨rfl, rfl, rfl, rfl, rfl, int_is (by rw [hst, hs]), rfl, trivial⟩, ⟨rfl, trivial⟩, by omega⟩
        · rw [if_neg tv] at b2
          have hs : stepM m x = m := by rw [hse, if_neg (fun h => h.elim tu tv)]
          (conv => whnf)
          (repeat' ((first | refine ord_ok (by (conv => whnf); (repeat' ((first | refine at_da hxd rfl ?_ | refine op_shrz u m q1 hq1 rfl rfl rfl (by omega) rfl rfl ?_ | refine op_and q1 1 _ b1 rfl rfl rfl (by omega) (by decide) rfl rfl ?_ | refine op_shrz v m q2 hq2 rfl rfl rfl (by omega) rfl rfl ?_ | refine op_and q2 1 _ b2 rfl rfl rfl (by omega) (by decide) rfl rfl ?_ | refine op_bit0 u rfl rfl rfl (by omega) (.inl rfl) rfl ?_ | refine op_bit0 v rfl rfl rfl (by omega) (.inl rfl) rfl ?_ | refine op_or0 (2 ^ u) (2 ^ v) w hw rfl rfl rfl (by omega) (by omega) (.inl rfl) rfl ?_ | refine op_or0 m w z hz rfl rfl rfl (by omega) (by omega) (.inl rfl) rfl ?_ | refine ify ?_ | refine ifn ?_ | refine i6 ?_ | refine ati ?_ | refine mst ?_ | refine rmd ?_ | refine ibo (fun _ => ?_) (fun _ => ?_)) <;> conv => whnf)); (all_goals (repeat' (first | exact trivial | exact rfl | refine And.intro ?_ ?_)))) ?_ | refine at_da hxd rfl ?_ | refine op_shrz u m q1 hq1 rfl rfl rfl (by omega) rfl rfl ?_ | refine op_and q1 1 _ b1 rfl rfl rfl (by omega) (by decide) rfl rfl ?_ | refine op_shrz v m q2 hq2 rfl rfl rfl (by omega) rfl rfl ?_ | refine op_and q2 1 _ b2 rfl rfl rfl (by omega) (by decide) rfl rfl ?_ | refine op_bit0 u rfl rfl rfl (by omega) (.inl rfl) rfl ?_ | refine op_bit0 v rfl rfl rfl (by omega) (.inl rfl) rfl ?_ | refine op_or0 (2 ^ u) (2 ^ v) w hw rfl rfl rfl (by omega) (by omega) (.inl rfl) rfl ?_ | refine op_or0 m w z hz rfl rfl rfl (by omega) (by omega) (.inl rfl) rfl ?_ | refine ify ?_ | refine ifn ?_ | refine i6 ?_ | refine ati ?_ | refine mst ?_ | refine rmd ?_ | refine ibo (fun _ => ?_) (fun _ => ?_)) <;> conv => whnf))
          exact ⟨i + 1, _, _, hil, .refl _ _, ⟨rfl, rfl, rfl, rfl, rfl, int_is (by rw [hst, hs]), rfl, trivial⟩, ⟨rfl, trivial⟩, by omega⟩
    · rw [List.take_of_length_le (show p.edges.length ≤ i by omega)]
      ((conv => whnf); repeat' ((first | refine odw ?_ | refine ify ?_ | refine ifn ?_ | refine i6 ?_ | refine ati ?_ | refine mst ?_ | refine rmd ?_ | refine ibo (fun _ => ?_) (fun _ => ?_)) <;> conv => whnf))
      exact ⟨r + 1, _, _, hrl, .refl _ _, ⟨rfl, rfl, int_is (by rw [hsn]), rfl, trivial⟩, ⟨rfl, trivial⟩, by omega⟩
  · have hrn : r = n := by omega
    rw [hrn, hfin]
    have hq : 2 ^ (p.labels.map dI).length = 2 ^ n := by rw [hdl, hn]
    have hq1 : 1 ≤ 2 ^ n := Nat.one_le_two_pow
    obtain ⟨q, hqe⟩ : ∃ q, 2 ^ n = q := ⟨_, rfl⟩
    rw [hqe] at hq hq1 h2n
    rw [hqe]
    (conv => whnf)
    (repeat' ((first | refine ord_ok (by (conv => whnf); (repeat' ((first | refine op_bit0 (p.labels.map dI).length rfl rfl rfl (by omega) (.inr rfl) rfl ?_ | refine ify ?_ | refine ifn ?_ | refine i6 ?_ | refine ati ?_ | refine mst ?_ | refine rmd ?_ | refine ibo (fun _ => ?_) (fun _ => ?_)) <;> conv => whnf)); (all_goals (repeat' (first | exact trivial | exact rfl | refine And.intro ?_ ?_)))) ?_ | refine op_bit0 (p.labels.map dI).length rfl rfl rfl (by omega) (.inr rfl) rfl ?_ | refine ify ?_ | refine ifn ?_ | refine i6 ?_ | refine ati ?_ | refine mst ?_ | refine rmd ?_ | refine ibo (fun _ => ?_) (fun _ => ?_)) <;> conv => whnf))
    exact congrArg Da.bool (decide_eq_true (by rw [hq]; omega))
end Go.Proofs.YteigfapjiekdnaaGreatDoor
end

section
/- The end of an owned slice of ints by itself: s[m:], clear of it, s[:m]. · vert: plain laws: a linked list's set has a list; a canonical list is the list of its set; what is beside, what may come behind. · slices.DeleteFunc at an owned slice of ints; vert: Grow. -/

namespace Go.Proofs.YteigfapjiekdnaaGreatDoor
open Go.Gr
theorem linkedV_at {G : Gr} {l : List Int} (h : linkedV G l = true) {i : Nat} {v : Int} (hx : l[i]? = some v) : linkAt G l i v = true := by
  cases hh : linkAt G l i v with
  | true => rfl
  | false => rw [linkedV_no hx hh] at h; cases h
theorem linkAt_iff {G : Gr} {l : List Int} {i : Nat} {v : Int} : linkAt G l i v = true ↔ hasV G v = true ∧ v ∉ l.take i ∧ (i = 0 ∨ (l.take i).any (besP G.edges v) = true) := by
  simp only [linkAt, Bool.and_eq_true, Bool.not_eq_true', decide_eq_false_iff_not, Bool.or_eq_true, decide_eq_true_eq]
end Go.Proofs.YteigfapjiekdnaaGreatDoor
end
