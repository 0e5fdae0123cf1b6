/- Merged: Vtc Lvx. -/
import Derived.Test.YtjejpdfldmempaaGreatDoorOen
import Derived.Test.YtjejpdfldmempaaGreatDoorlgbd
import Derived.Test.YtjejpdfldmempaaGreatDoorlgbb
section
namespace Go.Sx
open Go Go.RowKit Go.Reg Go.Proofs.YtjejpdfldmempaaGreatDoor
section
variable {C : Cx} {fr : Fr} {σ : Sg}
theorem shl_of {k : IntKind} {a : Int} (b : Nat) (hb : b ≤ 8) (yk : IntKind) : Op.shift .shl k a yk (b : Int) = pure (.int k (k.wrap (a * 2 ^ b))) := by
 unfold Op.shift
 have h1 : ¬ ((b : Int) < 0) := by omega
 have h2 : min ((b : Int).toNat) k.bits = b := by
  have h3 : 8 ≤ k.bits := by cases k <;> decide
  rw [Int.toNat_natCast]; omega
 rw [if_neg h1, h2]
theorem op_shl (b : Nat) {z : Int} {n kd : Nat} {o : Oper} {K : Fr → Sg → Prop} {t ty : Nat} {x y : Operand} {k yk : IntKind} {a : Int} (ho : o.op = .binOp .shl t x y ty) (hx : ev C.Γ fr x = .d (.int k a)) (hy : ev C.Γ fr y = .d (.int yk (b : Int))) (hb : b ≤ 8) (hz : k.wrap (a * 2 ^ b) = z) (hkd : kd = 3) (hd : dstOk o.dst n = true)
  (hK : K (putF o.dst (.d (.int k z)) fr) σ) : OpSem C n kd o K fr σ := by
 subst hkd
 refine opSem_calc (by decide) (by decide) hd fun B S w0 η φ a' w hM => ?_
 have e1 := rep_int (rd_da (ev_rep hM x) hx)
 have e2 := rep_int (rd_da (ev_rep hM y) hy)
 refine .inr ⟨_, _, hK, ?_, rd_int _ _, fun h => by cases h⟩
 simp only [execOp, ho]
 rw [e1, e2]
 refine run_v ?_
 simp [eqGuard, binOp, shl_of b hb, hz]
theorem op_shrn (b m : Nat) {n kd : Nat} {o : Oper} {K : Fr → Sg → Prop} {t ty : Nat} {x y : Operand} {k yk : IntKind} (ho : o.op = .binOp .shr t x y ty) (hx : ev C.Γ fr x = .d (.int k (m : Int))) (hy : ev C.Γ fr y = .d (.int yk (b : Int))) (hb : b ≤ 8) (hkd : kd = 3) (hd : dstOk o.dst n = true)
  (hK : K (putF o.dst (.d (.int k ((m / 2 ^ b : Nat) : Int))) fr) σ) : OpSem C n kd o K fr σ := by
 refine op_shr b ho hx hy hb hkd hd ?_
 have : (m : Int).fdiv (2 ^ b) = ((m / 2 ^ b : Nat) : Int) := by
  rw [Int.fdiv_eq_ediv_of_nonneg _ (Int.pow_nonneg (by decide))]
  simp
 rw [this]; exact hK
end
end Go.Sx
namespace Go.Proofs.YtjejpdfldmempaaGreatDoor
open Go.Sx Go.RowKit Go.Reg Go.Gr
set_option maxRecDepth 100000
def cmpL : List Int → List Int → Int
 | [], [] => 0
 | [], _ :: _ => -1
 | _ :: _, [] => 1
 | x :: a, y :: b => if x < y then -1 else if y < x then 1 else cmpL a b
def pl_c06 : List (Nat × Plan) := [(4, .leaf [0, 0, 0, 1, 0, 0, 0, 1, 0] [0, 1, 2, 4, 5, 6, 3, 7, 8] [0, 0, 3, 7, 0, 0, 48, 112, 255]),
 (6, .leaf [0, 0, 0, 1, 0, 0, 0, 1, 0] [0, 1, 2, 4, 5, 6, 3, 7, 8] [0, 0, 3, 7, 0, 0, 48, 112, 255])]
def G_c06 : List FuncId := []
theorem cok_c06 : codeOk Tryz.prog G_c06 pl_c06 (Tryz.f27.body.getD .skip) = true := by kernel_rfl
theorem run_c06 (vs : Array Value) (w : World) : (callFunc 27 vs).run C1.P w = .ok (.enter 27 vs) w := by kernel_rfl
theorem cmp06_pure (a b : List Int) : Pure C1 27 [dIs a, dIs b] (fun y => y = .int .i64 (cmpL a b)) := by
 refine Pure.len1 fun hm => ?_
 have hal : (a.map dI).length = a.length := List.length_map _
 have hbl : (b.map dI).length = b.length := List.length_map _
 refine pure_of c1_ok (pl := pl_c06) (G := G_c06) Tryz.func27 rfl Tryz.ntmps27 run_c06 cok_c06 (by simp) ?_
 ((conv => whnf); repeat' ((first | refine odw ?_ | refine ify ?_ | refine ifn ?_ | refine i6 ?_ | refine ati ?_ | refine mst ?_ | refine rmd ?_ | refine ibo (fun _ => ?_) (fun _ => ?_)) <;> conv => whnf))
 refine loop_lo (ι := Nat) (fun i => (i ≤ a.length ∧ i ≤ b.length) ∧ cmpL (a.drop i) (b.drop i) = cmpL a b) (fun i => [(5, .d (.int .i64 i)), (1, .d (dIs b)), (0, .d (dIs a))]) (fun _ => []) (fun i => a.length - i) 0 (fun _ => rfl) ⟨⟨Nat.zero_le _, Nat.zero_le _⟩, rfl⟩ (.refl _ _) ⟨rfl, rfl, rfl, trivial⟩ trivial ?_
 rintro i ⟨⟨hi, hi2⟩, hc⟩
 rw [← hc]
 refine sxCode_sound c1_ok (G := G_c06) (pl := pl_c06) _ _ _ _ (by kernel_rfl) ?_
 by_cases hlt : i < a.length
 ·have hx := List.getElem?_eq_getElem hlt
  rw [List.drop_eq_getElem_cons hlt] at hc ⊢
  generalize a[i] = x at hx hc ⊢
  have hxd : (a.map dI)[i]? = some (.int .i64 x) := by rw [List.getElem?_map, hx]; rfl
  by_cases hlt2 : i < b.length
  ·have hy := List.getElem?_eq_getElem hlt2
   rw [List.drop_eq_getElem_cons hlt2] at hc ⊢
   generalize b[i] = z at hy hc ⊢
   have hyd : (b.map dI)[i]? = some (.int .i64 z) := by rw [List.getElem?_map, hy]; rfl
   by_cases h1 : x < z
   ·have : cmpL (x :: a.drop (i + 1)) (z :: b.drop (i + 1)) = -1 := by unfold cmpL; rw [if_pos h1]
    rw [this]
    (conv => whnf)
    (repeat' ((first | refine ord_ok ?_ ?_ | refine at_da hxd rfl ?_ | refine at_da hyd rfl ?_ | refine ify ?_ | refine ifn ?_ | refine i6 ?_ | refine ati ?_ | refine mst ?_ | refine rmd ?_ | refine ibo (fun _ => ?_) (fun _ => ?_) | exact oend) <;> conv => whnf))
    exact rfl
   ·by_cases h2 : z < x
    ·have : cmpL (x :: a.drop (i + 1)) (z :: b.drop (i + 1)) = 1 := by unfold cmpL; rw [if_neg h1, if_pos h2]
     rw [this]
     (conv => whnf)
     (repeat' ((first | refine ord_ok ?_ ?_ | refine at_da hxd rfl ?_ | refine at_da hyd rfl ?_ | refine ify ?_ | refine ifn ?_ | refine i6 ?_ | refine ati ?_ | refine mst ?_ | refine rmd ?_ | refine ibo (fun _ => ?_) (fun _ => ?_) | exact oend) <;> conv => whnf))
     exact rfl
    ·have he : cmpL (x :: a.drop (i + 1)) (z :: b.drop (i + 1)) = cmpL (a.drop (i + 1)) (b.drop (i + 1)) := by rw [cmpL, if_neg h1, if_neg h2]
     (conv => whnf)
     (repeat' ((first | refine ord_ok ?_ ?_ | refine at_da hxd rfl ?_ | refine at_da hyd rfl ?_ | refine ify ?_ | refine ifn ?_ | refine i6 ?_ | refine ati ?_ | refine mst ?_ | refine rmd ?_ | refine ibo (fun _ => ?_) (fun _ => ?_) | exact oend) <;> conv => whnf))
     exact ⟨i + 1, _, _, ⟨⟨hlt, hlt2⟩, by rw [← he]⟩, .refl _ _, ⟨rfl, rfl, rfl, trivial⟩, trivial, by omega⟩
  ·have hbn : b.drop i = [] := List.drop_eq_nil_of_le (by omega)
   rw [hbn]
   ((conv => whnf); repeat' ((first | refine odw ?_ | refine ify ?_ | refine ifn ?_ | refine i6 ?_ | refine ati ?_ | refine mst ?_ | refine rmd ?_ | refine ibo (fun _ => ?_) (fun _ => ?_)) <;> conv => whnf))
   exact rfl
 ·by_cases hlt2 : i < b.length
  ·have han : a.drop i = [] := List.drop_eq_nil_of_le (by omega)
   rw [han, List.drop_eq_getElem_cons hlt2]
   ((conv => whnf); repeat' ((first | refine odw ?_ | refine ify ?_ | refine ifn ?_ | refine i6 ?_ | refine ati ?_ | refine mst ?_ | refine rmd ?_ | refine ibo (fun _ => ?_) (fun _ => ?_)) <;> conv => whnf))
   exact rfl
  ·have han : a.drop i = [] := List.drop_eq_nil_of_le (by omega)
   have hbn : b.drop i = [] := List.drop_eq_nil_of_le (by omega)
   rw [han, hbn]
   ((conv => whnf); repeat' ((first | refine odw ?_ | refine ify ?_ | refine ifn ?_ | refine i6 ?_ | refine ati ?_ | refine mst ?_ | refine rmd ?_ | refine ibo (fun _ => ?_) (fun _ => ?_)) <;> conv => whnf))
   exact rfl
def dLs (P : List (List Int)) : Da := .list 1 (P.map dIs)
theorem picksK_len (s : List Int) (k M : Nat) : (picksK s k M).length ≤ M := by
 unfold picksK
 have := List.length_filter_le (fun p : List Int => decide (p.length = k)) ((List.range M).map (pick s))
 rw [List.length_map, List.length_range] at this; exact this
theorem ins_perm {P Q : List (List Int)} {p : List Int} (h : P.Perm Q) (t : Nat) : ((P.take t ++ [p]) ++ P.drop t).Perm (Q ++ [p]) := by
 rw [List.append_assoc]
 refine (List.perm_append_comm_assoc _ _ _).trans ?_
 rw [List.take_append_drop]
 exact List.perm_append_comm.trans (h.append_right _)
theorem pow7 {n : Nat} (h : n ≤ 8) : 2 ^ n ≤ 256 := Nat.le_trans (Nat.pow_le_pow_right (by decide) h) (by decide)
theorem one_shl {n : Nat} (h : n ≤ 8) : IntKind.i64.wrap (1 * 2 ^ n) = ((2 ^ n : Nat) : Int) := by
 have h1 := pow7 h
 have h2 : (1 * 2 ^ n : Int) = ((2 ^ n : Nat) : Int) := by simp
 rw [h2]
 generalize 2 ^ n = N at h1 ⊢
 exact wrap64_in (by omega)
def pl_pks : List (Nat × Plan) := []
def G_pks : List FuncId := [27]
theorem cok_pks : codeOk Tryz.prog G_pks pl_pks (Tryz.f138.body.getD .skip) = true := by kernel_rfl
theorem run_pks (vs : Array Value) (w : World) : (callFunc 138 vs).run C1.P w = .ok (.enter 138 vs) w := by kernel_rfl
set_option maxHeartbeats 4000000 in
theorem picks_pure (s : List Int) (k : Nat) (hs : s.length ≤ 8) : Pure C1 138 [dIs s, .int .i64 k] (fun y => ∃ P : List (List Int), y = dLs P ∧ P.Perm (picksK s k (2 ^ s.length))) := by
 have hsl : (s.map dI).length = s.length := List.length_map _
 have hpow := pow7 hs
 have hw := one_shl hs
 rw [← hsl] at hw
 rw [show ((2 ^ (s.map dI).length : Nat) : Int) = ((2 ^ s.length : Nat) : Int) by rw [hsl]] at hw
 refine pure_of c1_ok (pl := pl_pks) (G := G_pks) Tryz.func138 rfl Tryz.ntmps138 run_pks cok_pks (by simp) ?_
 ((conv => whnf); repeat' ((first | refine odw ?_ | refine ify ?_ | refine ifn ?_ | refine i6 ?_ | refine ati ?_ | refine mst ?_ | refine rmd ?_ | refine ibo (fun _ => ?_) (fun _ => ?_)) <;> conv => whnf))
 refine loop_lo (ι := Nat × List (List Int)) (fun q => q.1 ≤ 2 ^ s.length ∧ q.2.Perm (picksK s k q.1)) (fun q => [(6, .d (.int .i64 (q.1 : Nat))), (5, .d (dLs q.2)), (1, .d (.int .i64 k)), (0, .d (dIs s))]) (fun _ => []) (fun q => 2 ^ s.length - q.1) (0, []) (fun _ => rfl) ⟨Nat.zero_le _, List.Perm.refl _⟩ (.lax 5 rfl (.nils 1) (.refl _ _)) ⟨rfl, rfl, rfl, rfl, trivial⟩ trivial ?_
 rintro ⟨m, P⟩ ⟨hm, hP⟩
 dsimp only at hm hP
 have hPl : P.length ≤ m := by rw [hP.length_eq]; exact picksK_len _ _ _
 have hPm : (P.map dIs).length = P.length := List.length_map _
 refine sxCode_sound c1_ok (G := G_pks) (pl := pl_pks) _ _ _ _ (by kernel_rfl) ?_
 (conv => whnf)
 (repeat' ((first | refine ord_ok ?_ ?_ | refine u64_is (by omega) ?_ | refine ify ?_ | refine ifn ?_ | refine i6 ?_ | refine ati ?_ | refine mst ?_ | refine rmd ?_ | refine ibo (fun _ => ?_) (fun _ => ?_) | exact oend) <;> conv => whnf))
 refine op_shl (s.map dI).length rfl rfl rfl (by omega) hw rfl rfl ?_
 by_cases hlt : m < 2 ^ s.length
 ·((conv => whnf); repeat' ((first | refine odw ?_ | refine ify ?_ | refine ifn ?_ | refine i6 ?_ | refine ati ?_ | refine mst ?_ | refine rmd ?_ | refine ibo (fun _ => ?_) (fun _ => ?_)) <;> conv => whnf))
  refine loop_lo (ι := Nat) (fun i => i ≤ s.length) (fun i => [(8, .d (.int .i64 i)), (7, .own 301), (6, .d (.int .i64 m)), (5, .d (dLs P)), (1, .d (.int .i64 k)), (0, .d (dIs s))]) (fun i => [(301, .slice 3 1 ((pick (s.take i) m).map dI))]) (fun i => s.length - i) 0 (fun _ => rfl) (Nat.zero_le _) (.own 7 301 3 1 rfl rfl (.refl _ _)) ⟨rfl, rfl, rfl, rfl, rfl, rfl, trivial⟩ ⟨rfl, trivial⟩ ?_
  intro i hi
  refine sxCode_sound c1_ok (G := G_pks) (pl := pl_pks) _ _ _ _ (by kernel_rfl) ?_
  have hpl := (pick_sub (s.take i) m).length_le
  rw [List.length_take] at hpl
  have hpm : ((pick (s.take i) m).map dI).length = (pick (s.take i) m).length := List.length_map _
  by_cases hil : i < s.length
  ·have hx := List.getElem?_eq_getElem hil
   generalize s[i] = x at hx
   have hxd : (s.map dI)[i]? = some (.int .i64 x) := by rw [List.getElem?_map, hx]; rfl
   have hst : pick (s.take (i + 1)) m = pick (s.take i) m ++ (if m / 2 ^ i % 2 = 1 then [x] else []) := by
    rw [tk1 hx, pick_snoc, List.length_take, Nat.min_eq_left (by omega)]
   (conv => whnf)
   (repeat' ((first | refine ord_ok ?_ ?_ | refine u64_is (by omega) ?_ | refine ify ?_ | refine ifn ?_ | refine i6 ?_ | refine ati ?_ | refine mst ?_ | refine rmd ?_ | refine ibo (fun _ => ?_) (fun _ => ?_) | exact oend) <;> conv => whnf))
   refine op_shrn i m rfl rfl rfl (by omega) rfl rfl ?_
   generalize m / 2 ^ i = r at hst ⊢
   have htm : ((r : Int)).tmod 2 = ((r % 2 : Nat) : Int) := by rw [Int.tmod_eq_emod_of_nonneg (by omega)]; omega
   by_cases hb : r % 2 = 1
   ·rw [if_pos hb] at hst
    have hb1 : ((r : Int)).tmod 2 = 1 := by rw [htm]; omega
    have hfin : (pick (s.take i) m).map dI ++ [.int .i64 x] = (pick (s.take (i + 1)) m).map dI := by rw [hst, List.map_append]; rfl
    (conv => whnf)
    (repeat' ((first | refine ord_ok ?_ ?_ | refine at_da hxd rfl ?_ | refine ify ?_ | refine ifn ?_ | refine i6 ?_ | refine ati ?_ | refine mst ?_ | refine rmd ?_ | refine ibo (fun _ => ?_) (fun _ => ?_) | exact oend) <;> conv => whnf))
    exact ⟨i + 1, _, _, hil, .refl _ _, ⟨rfl, rfl, rfl, rfl, rfl, rfl, trivial⟩, ⟨slice_is hfin, trivial⟩, by omega⟩
   ·rw [if_neg hb, List.append_nil] at hst
    have hb1 : ¬ ((r : Int)).tmod 2 = 1 := by rw [htm]; omega
    (conv => whnf)
    (repeat' ((first | refine ord_ok ?_ ?_ | refine at_da hxd rfl ?_ | refine ify ?_ | refine ifn ?_ | refine i6 ?_ | refine ati ?_ | refine mst ?_ | refine rmd ?_ | refine ibo (fun _ => ?_) (fun _ => ?_) | exact oend) <;> conv => whnf))
    exact ⟨i + 1, _, _, hil, .refl _ _, ⟨rfl, rfl, rfl, rfl, rfl, rfl, trivial⟩, ⟨slice_is (by rw [hst]), trivial⟩, by omega⟩
  ·have hii : s.take i = s := List.take_of_length_le (by omega)
   rw [hii] at hpl hpm ⊢
   have hst := picksK_step s k m
   generalize hp : pick s m = p at hpl hpm hst ⊢
   by_cases hlen : p.length = k
   ·rw [if_pos hlen] at hst
    have hlen2 : ((p.map dI).length : Int) = k := by rw [hpm, hlen]
    ((conv => whnf); repeat' ((first | refine odw ?_ | refine ify ?_ | refine ifn ?_ | refine i6 ?_ | refine ati ?_ | refine mst ?_ | refine rmd ?_ | refine ibo (fun _ => ?_) (fun _ => ?_)) <;> conv => whnf))
    refine loop_lo (ι := Int) (fun t => 0 ≤ t ∧ t ≤ P.length) (fun t => [(9, .d (.int .i64 t)), (7, .d (dIs p)), (6, .d (.int .i64 m)), (5, .d (dLs P)), (1, .d (.int .i64 k)), (0, .d (dIs s))]) (fun _ => []) (fun t => t.toNat) ((P.map dIs).length : Int) (fun _ => rfl) ⟨by omega, by omega⟩ (.frz 301 rfl (.refl _ _)) ⟨rfl, rfl, rfl, rfl, rfl, rfl, trivial⟩ trivial ?_
    rintro t ⟨ht0, htl⟩
    obtain ⟨t, rfl⟩ := Int.eq_ofNat_of_zero_le ht0
    refine sxCode_sound c1_ok (G := G_pks) (pl := pl_pks) _ _ _ _ (by kernel_rfl) ?_
    have hfin : ((P.map dIs).take t ++ [.list 1 (p.map dI)]) ++ (P.map dIs).drop t = ((P.take t ++ [p]) ++ P.drop t).map dIs := by
     rw [List.map_append, List.map_append, List.map_take, List.map_drop]; rfl
    have hper := ins_perm (p := p) hP t
    rw [← hst] at hper
    by_cases h0 : 0 < t
    ·obtain ⟨j, rfl⟩ : ∃ j, t = j + 1 := ⟨t - 1, by omega⟩
     have hq := List.getElem?_eq_getElem (l := P) (i := j) (by omega)
     generalize P[j]'(by omega) = q at hq
     have hqd : (P.map dIs)[j]? = some (dIs q) := by rw [List.getElem?_map, hq]; rfl
     have hcm := cmp06_pure p q
     by_cases hz : cmpL p q < 0
     ·generalize cmpL p q = z at hcm hz
      (conv => whnf)
      (repeat' ((first | refine ord_ok ?_ ?_ | refine at_da hqd (by omega) ?_ | refine call_eq rfl hcm ?_ | refine ify ?_ | refine ifn ?_ | refine i6 ?_ | refine ati ?_ | refine mst ?_ | refine rmd ?_ | refine ibo (fun _ => ?_) (fun _ => ?_) | exact oend) <;> conv => whnf))
      exact ⟨((j + 1 : Nat) : Int) - 1, _, _, ⟨by omega, by omega⟩, .refl _ _, ⟨rfl, rfl, rfl, rfl, rfl, rfl, trivial⟩, trivial, by omega⟩
     ·generalize cmpL p q = z at hcm hz
      (conv => whnf)
      (repeat' ((first | refine ord_ok ?_ ?_ | refine at_da hqd (by omega) ?_ | refine call_eq rfl hcm ?_ | refine hi_is rfl (show j + 1 ≤ (P.map dIs).length by omega) ?_ | refine sl_is (j + 1) rfl (by omega) ?_ | refine ify ?_ | refine ifn ?_ | refine i6 ?_ | refine ati ?_ | refine mst ?_ | refine rmd ?_ | refine ibo (fun _ => ?_) (fun _ => ?_) | exact oend) <;> conv => whnf))
      exact ⟨(m + 1, (P.take (j + 1) ++ [p]) ++ P.drop (j + 1)), _, _, ⟨hlt, hper⟩, .frz 58 rfl (.refl _ _), ⟨rfl, congrArg (fun x => Dat.d (.list 1 x)) hfin, rfl, rfl, trivial⟩, trivial, by dsimp only; omega⟩
    ·have ht : t = 0 := by omega
     subst ht
     (conv => whnf)
     (repeat' ((first | refine ord_ok ?_ ?_ | refine hi_is rfl (show 0 ≤ (P.map dIs).length by omega) ?_ | refine sl_is 0 rfl (by omega) ?_ | refine ify ?_ | refine ifn ?_ | refine i6 ?_ | refine ati ?_ | refine mst ?_ | refine rmd ?_ | refine ibo (fun _ => ?_) (fun _ => ?_) | exact oend) <;> conv => whnf))
     exact ⟨(m + 1, (P.take 0 ++ [p]) ++ P.drop 0), _, _, ⟨hlt, hper⟩, .frz 58 rfl (.refl _ _), ⟨rfl, congrArg (fun x => Dat.d (.list 1 x)) hfin, rfl, rfl, trivial⟩, trivial, by dsimp only; omega⟩
   ·rw [if_neg hlen, List.append_nil] at hst
    have hlen2 : ¬ ((p.map dI).length : Int) = k := by rw [hpm]; omega
    ((conv => whnf); repeat' ((first | refine odw ?_ | refine ify ?_ | refine ifn ?_ | refine i6 ?_ | refine ati ?_ | refine mst ?_ | refine rmd ?_ | refine ibo (fun _ => ?_) (fun _ => ?_)) <;> conv => whnf))
    exact ⟨(m + 1, P), _, _, ⟨hlt, by dsimp only; rw [hst]; exact hP⟩, .refl _ _, ⟨rfl, rfl, rfl, rfl, trivial⟩, trivial, by dsimp only; omega⟩
 ·have hme : m = 2 ^ s.length := by omega
  subst hme
  ((conv => whnf); repeat' ((first | refine odw ?_ | refine ify ?_ | refine ifn ?_ | refine i6 ?_ | refine ati ?_ | refine mst ?_ | refine rmd ?_ | refine ibo (fun _ => ?_) (fun _ => ?_)) <;> conv => whnf))
  exact ⟨P, rfl, hP⟩
def pl_rst : List (Nat × Plan) := [(11, .leaf [1, 0, 0, 0, 1, 2, 0, 0, 0, 0, 0] [1, 2, 3, 0, 4, 5, 6, 7, 8, 9, 10] [0, 0, 0, 6, 14, 31, 63, 127, 127, 255, 1023])]
def G_rst : List FuncId := [138, 94]
theorem cok_rst : codeOk Tryz.prog G_rst pl_rst (Tryz.f93.body.getD .skip) = true := by kernel_rfl
theorem run_rst (vs : Array Value) (w : World) : (callFunc 93 vs).run C1.P w = .ok (.enter 93 vs) w := by kernel_rfl
theorem sets_pure (G : Gr) (k : Nat) (hn : G.labels.length ≤ 8) (hk : k ≤ 1000000) : Pure C1 93 [dM G.labels G.edges, .int .i64 k] (fun y => ∃ W : List (List Int), y = dLs W ∧ setsV G k W) := by
 have hll : (G.labels.map dI).length = G.labels.length := List.length_map _
 refine pure_of c1_ok (pl := pl_rst) (G := G_rst) Tryz.func93 rfl Tryz.ntmps93 run_rst cok_rst (by simp) ?_
 ((conv => whnf); repeat' ((first | refine odw ?_ | refine ify ?_ | refine ifn ?_ | refine i6 ?_ | refine ati ?_ | refine mst ?_ | refine rmd ?_ | refine ibo (fun _ => ?_) (fun _ => ?_)) <;> conv => whnf))
 refine loop_lo (ι := Nat) (fun v => v ≤ G.labels.length) (fun v => [(6, .d (.int .i64 v)), (5, .own 300), (2, .own 2), (1, .d (.int .i64 k))]) (fun v => [(2, .cells 59 [.d (dIs G.labels), .d (dEs G.edges)]), (300, .slice 3 1 ((upto v).map dI))]) (fun v => G.labels.length - v) 0 (fun _ => rfl) (Nat.zero_le _)
  (.own 5 300 3 1 rfl rfl (.refl _ _)) ⟨rfl, rfl, rfl, rfl, trivial⟩ ⟨rfl, rfl, trivial⟩ ?_
 intro v hv
 refine sxCode_sound c1_ok (G := G_rst) (pl := pl_rst) _ _ _ _ (by kernel_rfl) ?_
 by_cases hlt : v < G.labels.length
 ·have hul := upto_len v
  have hfin : (upto v).map dI ++ [.int .i64 (v : Int)] = (upto (v + 1)).map dI := by rw [upto_succ, List.map_append]; rfl
  ((conv => whnf); repeat' ((first | refine odw ?_ | refine ify ?_ | refine ifn ?_ | refine i6 ?_ | refine ati ?_ | refine mst ?_ | refine rmd ?_ | refine ibo (fun _ => ?_) (fun _ => ?_)) <;> conv => whnf))
  exact ⟨v + 1, _, _, hlt, .refl _ _, ⟨rfl, rfl, rfl, rfl, trivial⟩, ⟨rfl, slice_is hfin, trivial⟩, by omega⟩
 ·have hve : v = G.labels.length := by omega
  subst hve
  have hul := upto_len G.labels.length
  have hpk := picks_pure (upto G.labels.length) k (by omega)
  rw [hul] at hpk
  ((conv => whnf); repeat' ((first | refine odw ?_ | refine ify ?_ | refine ifn ?_ | refine i6 ?_ | refine ati ?_ | refine mst ?_ | refine rmd ?_ | refine ibo (fun _ => ?_) (fun _ => ?_)) <;> conv => whnf))
  refine call_frz 300 rfl ?_
  refine call_pure rfl hpk ?_
  rintro y ⟨P, rfl, hP⟩
  have hPm : (P.map dIs).length = P.length := List.length_map _
  have hPl : P.length ≤ 256 := by rw [hP.length_eq]; exact Nat.le_trans (picksK_len _ _ _) (pow7 hn)
  have hmem : ∀ q ∈ P, q.length = k := fun q hq => by
   have h1 := hP.mem_iff.1 hq
   have h2 := mem_picksK (k := k) (p := q) (upto_rise G.labels.length)
   rw [hul] at h2
   exact (h2.1 h1).2.2
  ((conv => whnf); repeat' ((first | refine odw ?_ | refine ify ?_ | refine ifn ?_ | refine i6 ?_ | refine ati ?_ | refine mst ?_ | refine rmd ?_ | refine ibo (fun _ => ?_) (fun _ => ?_)) <;> conv => whnf))
  refine loop_lo (ι := Nat) (fun i => i ≤ P.length) (fun i => [(9, .d (.int .i64 i)), (8, .own 301), (7, .d (dLs P)), (2, .own 2)]) (fun i => [(2, .cells 59 [.d (dIs G.labels), .d (dEs G.edges)]), (301, .slice 28 1 (((P.take i).filter fun p => (listV G p).isSome).map dIs))]) (fun i => P.length - i) 0 (fun _ => rfl) (Nat.zero_le _)
   (.own 8 301 28 1 rfl rfl (.refl _ _)) ⟨rfl, rfl, rfl, rfl, trivial⟩ ⟨rfl, rfl, trivial⟩ ?_
  intro i hi
  refine sxCode_sound c1_ok (G := G_rst) (pl := pl_rst) _ _ _ _ (by kernel_rfl) ?_
  have hfl := List.length_filter_le (fun p => (listV G p).isSome) (P.take i)
  rw [List.length_take] at hfl
  by_cases hil : i < P.length
  ·have hx := List.getElem?_eq_getElem hil
   have hxm := hmem _ (List.getElem_mem hil)
   generalize P[i] = q at hx hxm
   have hxd : (P.map dIs)[i]? = some (dIs q) := by rw [List.getElem?_map, hx]; rfl
   have hst : (P.take (i + 1)).filter (fun p => (listV G p).isSome) = (P.take i).filter (fun p => (listV G p).isSome) ++ (if (listV G q).isSome = true then [q] else []) := by
    rw [List.take_add_one, hx, Option.toList_some, List.filter_append]; congr 1; rw [List.filter_cons, List.filter_nil]
   have hls := rlist_pure G q (by omega)
   cases hr : listV G q with
   | none =>
     rw [hr] at hls hst
     unfold listY at hls
     rw [if_neg (by decide), List.append_nil] at hst
     (conv => whnf)
     (repeat' ((first | refine ord_ok ?_ ?_ | refine at_da hxd rfl ?_ | refine call_eq rfl hls ?_ | refine ify ?_ | refine ifn ?_ | refine i6 ?_ | refine ati ?_ | refine mst ?_ | refine rmd ?_ | refine ibo (fun _ => ?_) (fun _ => ?_) | exact oend) <;> conv => whnf))
     exact ⟨i + 1, _, _, hil, .refl _ _, ⟨rfl, rfl, rfl, rfl, trivial⟩, ⟨rfl, slice_is (by rw [hst]), trivial⟩, by omega⟩
   | some r =>
     rw [hr] at hls hst
     unfold listY at hls
     rw [if_pos (show (some r).isSome = true from rfl)] at hst
     have hfin : ((P.take i).filter fun p => (listV G p).isSome).map dIs ++ [.list 1 (q.map dI)] = ((P.take (i + 1)).filter fun p => (listV G p).isSome).map dIs := by rw [hst, List.map_append]; rfl
     (conv => whnf)
     (repeat' ((first | refine ord_ok ?_ ?_ | refine at_da hxd rfl ?_ | refine call_eq rfl hls ?_ | refine ify ?_ | refine ifn ?_ | refine i6 ?_ | refine ati ?_ | refine mst ?_ | refine rmd ?_ | refine ibo (fun _ => ?_) (fun _ => ?_) | exact oend) <;> conv => whnf))
     exact ⟨i + 1, _, _, hil, .refl _ _, ⟨rfl, rfl, rfl, rfl, trivial⟩, ⟨rfl, slice_is hfin, trivial⟩, by omega⟩
  ·have hii : P.take i = P := List.take_of_length_le (by omega)
   rw [hii]
   ((conv => whnf); repeat' ((first | refine odw ?_ | refine ify ?_ | refine ifn ?_ | refine i6 ?_ | refine ati ?_ | refine mst ?_ | refine rmd ?_ | refine ibo (fun _ => ?_) (fun _ => ?_)) <;> conv => whnf))
   exact ⟨_, rfl, sets_of hP⟩
end Go.Proofs.YtjejpdfldmempaaGreatDoor
end
section
namespace Go.Proofs.YtjejpdfldmempaaGreatDoor
open Go.Sx Go.RowKit Go.Reg Go.Gr
set_option maxRecDepth 100000
def pl_lxi : List (Nat × Plan) := []
def G_lxi : List FuncId := []
theorem cok_lxi : codeOk Tryz.prog G_lxi pl_lxi (Tryz.f197.body.getD .skip) = true := by kernel_rfl
theorem run_lxi (vs : Array Value) (w : World) : (callFunc 197 vs).run C1.P w = .ok (.enter 197 vs) w := by kernel_rfl
theorem lindexF_pure (P : List (List Int)) (g : FuncId) (cs : List Da) (p : List Int → Bool) (hm : P.length ≤ 9223372036854775807) (hp : ∀ x ∈ P, Pure C1 g (dIs x :: cs) (fun y => y = .bool (p x))) : Pure C1 197 [dLs P, .func (.func g) [] cs] (fun y => y = .int .i64 (optI (P.findIdx? p))) := by
 have hl : (P.map dIs).length = P.length := List.length_map _
 refine pure_of c1_ok (pl := pl_lxi) (G := G_lxi) Tryz.func197 rfl Tryz.ntmps197 run_lxi cok_lxi (by simp) ?_
 ((conv => whnf); repeat' ((first | refine odw ?_ | refine ify ?_ | refine ifn ?_ | refine i6 ?_ | refine ati ?_ | refine mst ?_ | refine rmd ?_ | refine ibo (fun _ => ?_) (fun _ => ?_)) <;> conv => whnf))
 refine loop_lo (ι := Nat) (fun i => i ≤ P.length ∧ ∀ y ∈ P.take i, p y = false) (fun i => [(8, .d (.int .i64 i)), (7, .d (.int .i64 (P.map dIs).length)), (1, .d (.func (.func g) [] cs)), (0, .d (dLs P))]) (fun _ => []) (fun i => P.length - i) 0 (fun _ => rfl) ⟨Nat.zero_le _, by simp⟩ (.refl _ _) ⟨rfl, rfl, rfl, rfl, trivial⟩ trivial ?_
 rintro i ⟨hi, hne⟩
 refine sxCode_sound c1_ok (G := G_lxi) (pl := pl_lxi) _ _ _ _ (by kernel_rfl) ?_
 by_cases hlt : i < P.length
 ·have hx := List.getElem?_eq_getElem hlt
  generalize P[i] = y at hx
  have hxd : (P.map dIs)[i]? = some (.list 1 (y.map dI)) := by rw [List.getElem?_map, hx]; rfl
  have hpy := hp y (List.mem_of_getElem? hx)
  cases hy : p y with
  | true =>
    rw [hy] at hpy
    rw [idxG_at hx hy hne]
    (conv => whnf)
    (repeat' ((first | refine ord_ok ?_ ?_ | refine at_da hxd rfl ?_ | refine call_eq (allD_fn _ _) hpy ?_ | refine ify ?_ | refine ifn ?_ | refine i6 ?_ | refine ati ?_ | refine mst ?_ | refine rmd ?_ | refine ibo (fun _ => ?_) (fun _ => ?_) | exact oend) <;> conv => whnf))
    exact rfl
  | false =>
    rw [hy] at hpy
    (conv => whnf)
    (repeat' ((first | refine ord_ok ?_ ?_ | refine at_da hxd rfl ?_ | refine call_eq (allD_fn _ _) hpy ?_ | refine ify ?_ | refine ifn ?_ | refine i6 ?_ | refine ati ?_ | refine mst ?_ | refine rmd ?_ | refine ibo (fun _ => ?_) (fun _ => ?_) | exact oend) <;> conv => whnf))
    refine ⟨i + 1, _, _, ⟨hlt, ?_⟩, .refl _ _, ⟨rfl, rfl, rfl, rfl, trivial⟩, trivial, by omega⟩
    intro z hz
    rw [List.take_add_one, hx] at hz
    rcases List.mem_append.1 hz with hz | hz
    ·exact hne z hz
    ·simp at hz; subst hz; exact hy
 ·have hii : P.take i = P := List.take_of_length_le (by omega)
  rw [hii] at hne
  rw [idxG_none hne]
  ((conv => whnf); repeat' ((first | refine odw ?_ | refine ify ?_ | refine ifn ?_ | refine i6 ?_ | refine ati ?_ | refine mst ?_ | refine rmd ?_ | refine ibo (fun _ => ?_) (fun _ => ?_)) <;> conv => whnf))
  exact rfl
end Go.Proofs.YtjejpdfldmempaaGreatDoor
end
