/- Merged: Imc Ime Pso Bit Prm. -/
import Derived.Test.YteigfapjiekdnaaGreatDoorKeaj
import Derived.Test.YteigfapjiekdnaaGreatDoorKeap
import Derived.Test.YteigfapjiekdnaaGreatDoorKeag
import Derived.Test.YteigfapjiekdnaaGreatDoorKeaf
import Derived.Test.YteigfapjiekdnaaGreatDoorSxu
import Derived.Test.YteigfapjiekdnaaGreatDoorKeab
import Derived.Test.YteigfapjiekdnaaGreatDoorKeae
section
/- quick, plain: how many images there are (for QuickCounts). -/
namespace Go.Gr
/-! ### how many images there are -/
theorem mem_iterL (n : Nat) : ∀ (k : Nat) (L : List Int), L ∈ iterL n k [[]] ↔ L.length = k ∧ L.Nodup ∧ ∀ x ∈ L, 0 ≤ x ∧ x < (n : Int)
  | 0, L => by
    show L ∈ [[]] ↔ _
    rw [List.mem_singleton]
    constructor
    · rintro rfl; exact ⟨rfl, List.nodup_nil, by simp⟩
    · intro h; exact List.eq_nil_of_length_eq_zero h.1
  | k + 1, L => by
    rw [iterL_succ]
    simp only [stepL, List.mem_flatMap, List.mem_map, List.mem_filter, List.mem_range, Bool.not_eq_true', decide_eq_false_iff_not]
    constructor
    · rintro ⟨l, hl, v, ⟨hv, hn⟩, rfl⟩
      obtain ⟨h1, h2, h3⟩ := (mem_iterL n k l).1 hl
      refine ⟨by simp [h1], ?_, fun x hx => ?_⟩
      · rw [List.nodup_append]
        exact ⟨h2, by simp, fun a ha b hb => by rw [List.mem_singleton.1 hb]; exact fun e => hn (e ▸ ha)⟩
      · rcases List.mem_append.1 hx with hx | hx
        · exact h3 x hx
        · rw [List.mem_singleton.1 hx]; omega
    · rintro ⟨h1, h2, h3⟩
      have hne : L ≠ [] := fun e => by rw [e] at h1; cases h1
      obtain ⟨l, v, rfl⟩ : ∃ l v, L = l ++ [v] := ⟨L.dropLast, L.getLast hne, (List.dropLast_concat_getLast hne).symm⟩
      rw [List.nodup_append] at h2
      obtain ⟨g1, _, g3⟩ := h2
      have hv := h3 v (by simp)
      refine ⟨l, (mem_iterL n k l).2 ⟨by simpa using h1, g1, fun x hx => h3 x (by simp [hx])⟩, v.toNat, ⟨by omega, fun hm => ?_⟩, by rw [Int.toNat_of_nonneg hv.1]⟩
      rw [Int.toNat_of_nonneg hv.1] at hm
      exact g3 v hm v (by simp) rfl
end Go.Gr
end

section
/- quick, plain: images by their places; how many. -/
namespace Go.Gr
open Go.Proofs.YteigfapjiekdnaaGreatDoor
theorem sub_len {α : Type} [DecidableEq α] : ∀ {l m : List α}, l.Nodup → (∀ x ∈ l, x ∈ m) → l.length ≤ m.length
  | [], _, _, _ => Nat.zero_le _
  | x :: l, m, hn, hs => by
    have hx : x ∈ m := hs x (by simp)
    rw [List.nodup_cons] at hn
    have h := sub_len (m := m.erase x) hn.2 fun y hy => by
      have hne : y ≠ x := fun e => hn.1 (e ▸ hy)
      exact (List.mem_erase_of_ne hne).2 (hs y (by simp [hy]))
    rw [List.length_erase_of_mem hx] at h
    have := List.length_pos_of_mem hx
    rw [List.length_cons]; omega
theorem nodup_le {α : Type} [DecidableEq α] {l m : List α} (hn : l.Nodup) (hs : ∀ x ∈ l, x ∈ m) : l.length ≤ m.length := sub_len hn hs
def imgP (G : Gr) (p : Pt) (whole : Bool) : List (List Int) := imgs G.labels.length (okI G p whole) p.labels.length []
structure IsImg (G : Gr) (p : Pt) (whole : Bool) (L : List Int) : Prop where
  len : L.length = p.labels.length
  nodup : L.Nodup
  lt : ∀ x ∈ L, 0 ≤ x ∧ x < (G.labels.length : Int)
  label : ∀ i x, L[i]? = some x → labelV G x = plOf p i
  has : ∀ i j x y, i ≠ j → L[i]? = some x → L[j]? = some y → phOf p i j = true → hasG G x y = true
  only : whole = true → ∀ i j x y, i ≠ j → L[i]? = some x → L[j]? = some y → hasG G x y = true → phOf p i j = true
theorem turn_comm (a b : Int) : turn ⟨a, b⟩ = turn ⟨b, a⟩ := by unfold turn; simp only [Edg.mk.injEq]; omega
theorem phOf_comm (p : Pt) (i j : Nat) : phOf p i j = phOf p j i := by unfold phOf; rw [turn_comm]
theorem hasG_comm (G : Gr) (x y : Int) : hasG G x y = hasG G y x := by unfold hasG; rw [turn_comm]
theorem okB_iff {G : Gr} {p : Pt} {whole : Bool} {n i : Nat} {u v : Int} : okB G p whole n i u v = true ↔ (phOf p i n = true → hasG G u v = true) ∧ (whole = true → hasG G u v = true → phOf p i n = true) := by
  unfold okB
  cases phOf p i n <;> cases hasG G u v <;> cases whole <;> simp
theorem nodup_at {L : List Int} (h : L.Nodup) {i j : Nat} {x : Int} (hi : L[i]? = some x) (hj : L[j]? = some x) : i = j := by
  obtain ⟨h1, e1⟩ := List.getElem?_eq_some_iff.1 hi
  obtain ⟨h2, e2⟩ := List.getElem?_eq_some_iff.1 hj
  rcases Nat.lt_trichotomy i j with hl | hl | hl
  · exact absurd (e1.trans e2.symm) (List.pairwise_iff_getElem.1 h i j h1 h2 hl)
  · exact hl
  · exact absurd (e2.trans e1.symm) (List.pairwise_iff_getElem.1 h j i h2 h1 hl)
theorem mem_imgP {G : Gr} {p : Pt} {whole : Bool} {L : List Int} : L ∈ imgP G p whole ↔ IsImg G p whole L := by
  unfold imgP
  rw [imgs_eq (fun l v h => okI_not h), List.mem_filter, mem_iterL, List.length_nil, okAll0_iff]
  constructor
  · rintro ⟨⟨h1, h2, h3⟩, h4⟩
    have key : ∀ i v, L[i]? = some v → labelV G v = plOf p i ∧ ∀ k u, k < i → L[k]? = some u → okB G p whole i k u v = true := by
      intro i v hv
      have hil := (List.getElem?_eq_some_iff.1 hv).1
      have := okI_iff.1 (h4 i v hv)
      rw [List.length_take, Nat.min_eq_left (by omega)] at this
      exact ⟨this.1, fun k u hk hu => this.2.2 k u hk (by rw [List.getElem?_take, if_pos hk]; exact hu)⟩
    refine ⟨h1, h2, h3, fun i x hx => (key i x hx).1, fun i j x y hij hx hy hp => ?_, fun hw i j x y hij hx hy hp => ?_⟩
    · rcases Nat.lt_or_gt_of_ne hij with h | h
      · exact (okB_iff.1 ((key j y hy).2 i x h hx)).1 hp
      · rw [hasG_comm]
        exact (okB_iff.1 ((key i x hx).2 j y h hy)).1 (by rw [phOf_comm]; exact hp)
    · rcases Nat.lt_or_gt_of_ne hij with h | h
      · exact (okB_iff.1 ((key j y hy).2 i x h hx)).2 hw hp
      · rw [phOf_comm]
        exact (okB_iff.1 ((key i x hx).2 j y h hy)).2 hw (by rw [hasG_comm]; exact hp)
  · intro h
    refine ⟨⟨h.len, h.nodup, h.lt⟩, fun i v hv => ?_⟩
    have hil := (List.getElem?_eq_some_iff.1 hv).1
    rw [okI_iff, List.length_take, Nat.min_eq_left (by omega)]
    refine ⟨h.label i v hv, fun hm => ?_, fun k u hk hu => ?_⟩
    · obtain ⟨u, hu, e⟩ := List.mem_take_iff_getElem.1 hm
      have := nodup_at h.nodup hv (List.getElem?_eq_some_iff.2 ⟨by omega, e⟩)
      omega
    · rw [List.getElem?_take, if_pos hk] at hu
      exact okB_iff.2 ⟨fun hp => h.has k i u v (by omega) hu hv hp, fun hw hp => h.only hw k i u v (by omega) hu hv hp⟩
end Go.Gr
end

section
/- Patterns: edges put in order in their place by slices.SortFunc with pat.order (as Gre, with graph.order). -/
namespace Go.Proofs.YteigfapjiekdnaaGreatDoor
open Go.Sx Go.RowKit Go.Reg Go.Gr

open Go.Sort Go.Proofs in
set_option maxRecDepth 100000 in
set_option maxHeartbeats 1000000 in
theorem paorder_ok (x y : Edg) (W : World) : Calls Tryz.prog 74 #[valE x, valE y] W fun e w' => e = .returned (.int .i64 (cmpE x y)) ∧ ∃ q os', w' = grow (W.drewN q) os' := by
  unfold valE
  go_enter Tryz.func74, Tryz.ntmps74
  go_wp2_with fail
  refine wp_region_t [121] [0, 1, 0, 1, 2, 0, 1, 0, 1, 2, 6, 3, 0] [0, 2, 5, 7, 1, 3, 6, 8, 4, 9, 10, 11, 12] [0, 1, 0, 4, 15, 0, 32, 0, 128, 511, 1023, 2047, 4095] (by kernel_rfl) (by kernel_rfl) ?_
  go_wp2_with (first | (refine wpT_pure rfl rfl rfl rfl (fun _ _ => ?_)) | (refine wpT_look rfl rfl rfl (fun _ _ => ?_)))
  refine wpT_call rfl rfl rfl (fun K1 hK1 => ?_)
  go_wp2_with (go_at_call 121; refine (compare_ok _ _ _).mono ?_; rintro e w' ⟨rfl, rfl⟩)
  refine hK1 _ _ (Ext.refl _) ?_
  go_wp2_with (first | (refine wpT_pure rfl rfl rfl rfl (fun _ _ => ?_)) | (refine wpT_look rfl rfl rfl (fun _ _ => ?_)))
  refine wpT_call rfl rfl rfl (fun K2 hK2 => ?_)
  go_wp2_with (go_at_call 121; refine (compare_ok _ _ _).mono ?_; rintro e w' ⟨rfl, rfl⟩)
  refine hK2 _ _ (Ext.refl _) ?_
  go_wp2_with (first | (refine wpT_pure rfl rfl rfl rfl (fun _ _ => ?_)) | (refine wpT_look rfl rfl rfl (fun _ _ => ?_)))
  refine wpT_one rfl rfl rfl (fun K3 hK3 => ?_)
  go_wp2_with fail
  refine (or_ok _ _ _ _ (cell_new _ _ _ (by simp) rfl) (cell_new _ _ _ (by simp) rfl)).mono ?_
  rintro e w' ⟨rfl, rfl⟩
  refine hK3 _ _ ?_
  go_wp2_with (first | (refine wpT_pure rfl rfl rfl rfl (fun _ _ => ?_)) | (refine wpT_look rfl rfl rfl (fun _ _ => ?_)) | refine wpT_nil ?_)
  go_ret
  have e : orI (cmpI x.a y.a) (cmpI x.b y.b) = cmpE x y := by
    unfold orI cmpE
    by_cases h : cmpI x.a y.a = 0 <;> simp [h]
  exact ⟨by rw [← e]; rfl, 1, _, by rw [alloc_eq_grow, alloc_eq_grow, alloc_eq_grow, grow_grow, grow_grow]; rfl⟩

open Go.Sort in
theorem pasort_ok (v : Value) (l : List Edg) (w : World) (h : Sl 40 2 encE w v l) (hl : l.length ≤ 4294967296) :
    Calls Tryz.prog 81 #[v, .func (.func 74) #[] #[]] w fun e w' => e = .returned (.tuple #[]) ∧ ∃ out, Sl 40 2 encE w' v out ∧ out.Perm l ∧
      out.Pairwise (fun a b => ¬ cmpE b a < 0) ∧ Tch v.ownBlock.toList w w' := by
  rcases h.shape with ⟨rfl, rfl⟩ | ⟨g, cap, rfl, hc⟩
  · refine (AnyF.slices_SortFunc_none Tryz.sortE none 0 _ w).mono ?_
    rintro e w' ⟨rfl, rfl⟩
    exact ⟨rfl, [], h, List.Perm.refl _, List.Pairwise.nil, Tch.refl _ _⟩
  · refine (AnyQ.slices_SortFunc Tryz.sortE 2 Tryz.isAgg40 Tryz.sizeOf40 encE (fun _ => rfl) encE_one cmpE cmpE_swo 74 #[] g 0 cap l.toArray w
      (enters_of Tryz.func74 (by kernel_rfl) rfl) (fun m os dk hs x y => paorder_ok x y _) (h.holdsK encE_len (by decide)) (h.lt rfl) (by simp; omega)).mono ?_
    rintro e w' ⟨rfl, d, n, os, hp, hs, rfl⟩
    obtain ⟨hp1, hp2, hp3⟩ := hp
    have hd : d.size = l.length := by simpa using hp1
    obtain ⟨hS, hT⟩ := h.sorted encE_len (by decide) d hd n os
    refine ⟨rfl, d.toList, hS, ?_, ?_, hT⟩
    · have e1 : d.extract 0 l.toArray.size = d := by rw [← hp1]; exact Array.extract_size
      have e2 : l.toArray.extract 0 l.toArray.size = l.toArray := Array.extract_size
      rw [e1, e2] at hp3
      exact hp3
    · rw [List.pairwise_iff_getElem]
      intro i j hi hj hij
      have hj' : j < l.length := by rw [← hd]; simpa using hj
      have hi' : i < l.length := by omega
      have := hs i j (Nat.zero_le _) hij (by simpa using hj')
      rw [getElem!_pos d j (by omega), getElem!_pos d i (by omega)] at this
      simpa [ltOf] using this
theorem pasort_tsl (l : List Edg) (hl : l.length ≤ 4294967296) : TurnSl C1 81 40 2 (l.map dE) [.func (.func 74) [] []] (fun _ ds => ∃ out : List Edg, ds = out.map dE ∧ out.Perm l ∧ out.Pairwise (fun a b => ¬ cmpE b a < 0)) := by
  intro O w v css us hs hb hO hr hk hg hus
  obtain ⟨u, us', rfl, h1, h2⟩ := reps_inv hus
  obtain rfl := reps_inv0 h2
  obtain ⟨cs, r, rfl⟩ := h1
  simp only [RepC, RepCss] at r
  obtain ⟨_, _, rfl, rfl, rfl⟩ := r
  obtain rfl := edges_cs hr
  refine ⟨by kernel_rfl, (pasort_ok v l w (edges_sl.1 hs) hl).mono ?_⟩
  rintro e w' ⟨rfl, out, hs', hp, ho, ht⟩
  refine ⟨.tuple #[], .tuple [], _, out.map encE, rfl, ⟨out, rfl, hp, ho⟩, edges_sl.2 hs', edges_rep _ _ _, ?_, ⟨[.tuple #[]], by simp only [RepC, RepCss]; exact ⟨[], rfl, rfl⟩, rfl⟩, ht⟩
  intro x hx
  obtain ⟨e, _, rfl⟩ := List.mem_map.1 hx
  exact ⟨rfl, encE_one e⟩
end Go.Proofs.YteigfapjiekdnaaGreatDoor
end

section
/- The engine's rules of '&', '|', '<<' on numbers from 0 on; a set of places as bits. -/
namespace Go.Sx
open Go Go.RowKit Go.Reg
theorem i64_and_nat (a b : Nat) (ha : a < 9223372036854775808) (hb : b < 9223372036854775808) : IntKind.i64.wrap ((BitVec.ofInt 64 (a : Int) &&& BitVec.ofInt 64 (b : Int)).toNat : Int) = ((a &&& b : Nat) : Int) := by
  have hx : a &&& b < 2 ^ 63 := Nat.and_lt_two_pow _ (by omega)
  have h1 : (BitVec.ofInt 64 (a : Int)).toNat = a := by rw [BitVec.ofInt_natCast, BitVec.toNat_ofNat]; exact Nat.mod_eq_of_lt (by omega)
  have h2 : (BitVec.ofInt 64 (b : Int)).toNat = b := by rw [BitVec.ofInt_natCast, BitVec.toNat_ofNat]; exact Nat.mod_eq_of_lt (by omega)
  rw [BitVec.toNat_and, h1, h2, IntKind.wrap_i64]
  omega
theorem i64_or_nat (a b : Nat) (ha : a < 9223372036854775808) (hb : b < 9223372036854775808) : IntKind.i64.wrap ((BitVec.ofInt 64 (a : Int) ||| BitVec.ofInt 64 (b : Int)).toNat : Int) = ((a ||| b : Nat) : Int) := by
  have hx : a ||| b < 2 ^ 63 := Nat.or_lt_two_pow (by omega) (by omega)
  have h1 : (BitVec.ofInt 64 (a : Int)).toNat = a := by rw [BitVec.ofInt_natCast, BitVec.toNat_ofNat]; exact Nat.mod_eq_of_lt (by omega)
  have h2 : (BitVec.ofInt 64 (b : Int)).toNat = b := by rw [BitVec.ofInt_natCast, BitVec.toNat_ofNat]; exact Nat.mod_eq_of_lt (by omega)
  rw [BitVec.toNat_or, h1, h2, IntKind.wrap_i64]
  omega
section
variable {C : Cx} {fr : Fr} {σ : Sg}
/-- 'x & y' -/
theorem op_and (a b z : Nat) (hz : a &&& b = z) {n kd : Nat} {o : Oper} {K : Fr → Sg → Prop} {t ty : Nat} {x y : Operand} (ho : o.op = .binOp .and t x y ty) (hx : ev C.Γ fr x = .d (.int .i64 (a : Int))) (hy : ev C.Γ fr y = .d (.int .i64 (b : Int))) (ha : a < 9223372036854775808) (hb : b < 9223372036854775808) (hkd : kd = 3) (hd : dstOk o.dst n = true)
    (hK : K (putF o.dst (.d (.int .i64 (z : Int))) fr) σ) : OpSem C n kd o K fr σ := by
  subst hkd hz
  refine opSem_calc (by decide) (by decide) hd fun B S w0 η φ a' w hM => ?_
  have e1 := rep_int (rd_da (ev_rep hM x) hx)
  have e2 := rep_int (rd_da (ev_rep hM y) hy)
  refine .inr ⟨_, _, hK, ?_, rd_int _ _, fun h => by cases h⟩
  simp only [execOp, ho]
  rw [e1, e2]
  refine run_v ?_
  have := i64_and_nat a b ha hb
  rw [BitVec.ofInt_natCast, BitVec.ofInt_natCast] at this
  simp [eqGuard, binOp, Op.intBits]
  exact this
/-- 'x | y' -/
theorem op_or (a b z : Nat) (hz : a ||| b = z) {n kd : Nat} {o : Oper} {K : Fr → Sg → Prop} {t ty : Nat} {x y : Operand} (ho : o.op = .binOp .or t x y ty) (hx : ev C.Γ fr x = .d (.int .i64 (a : Int))) (hy : ev C.Γ fr y = .d (.int .i64 (b : Int))) (ha : a < 9223372036854775808) (hb : b < 9223372036854775808) (hkd : kd = 3) (hd : dstOk o.dst n = true)
    (hK : K (putF o.dst (.d (.int .i64 (z : Int))) fr) σ) : OpSem C n kd o K fr σ := by
  subst hkd hz
  refine opSem_calc (by decide) (by decide) hd fun B S w0 η φ a' w hM => ?_
  have e1 := rep_int (rd_da (ev_rep hM x) hx)
  have e2 := rep_int (rd_da (ev_rep hM y) hy)
  refine .inr ⟨_, _, hK, ?_, rd_int _ _, fun h => by cases h⟩
  simp only [execOp, ho]
  rw [e1, e2]
  refine run_v ?_
  have := i64_or_nat a b ha hb
  rw [BitVec.ofInt_natCast, BitVec.ofInt_natCast] at this
  simp [eqGuard, binOp, Op.intBits]
  exact this
/-- '1 << b' -/
theorem op_bit (b : Nat) {n kd : Nat} {o : Oper} {K : Fr → Sg → Prop} {t ty : Nat} {x y : Operand} {yk : IntKind} (ho : o.op = .binOp .shl t x y ty) (hx : ev C.Γ fr x = .d (.int .i64 1)) (hy : ev C.Γ fr y = .d (.int yk (b : Int))) (hb : b ≤ 30) (hkd : kd = 3) (hd : dstOk o.dst n = true)
    (hK : K (putF o.dst (.d (.int .i64 ((2 ^ b : Nat) : Int))) fr) σ) : OpSem C n kd o K fr σ := by
  subst hkd
  refine opSem_calc (by decide) (by decide) hd fun B S w0 η φ a' w hM => ?_
  have e1 := rep_int (rd_da (ev_rep hM x) hx)
  have e2 := rep_int (rd_da (ev_rep hM y) hy)
  refine .inr ⟨_, _, hK, ?_, rd_int _ _, fun h => by cases h⟩
  simp only [execOp, ho]
  rw [e1, e2]
  refine run_v ?_
  have h1 : (2 : Nat) ^ b ≤ 2 ^ 30 := Nat.pow_le_pow_right (by decide) hb
  have h3 : ((2 ^ b : Nat) : Int) = (2 : Int) ^ b := by norm_cast
  have h2 : IntKind.i64.wrap ((2 : Int) ^ b) = (2 : Int) ^ b := by
    rw [← h3]
    generalize (2 : Nat) ^ b = q at h1
    exact wrap64_in ⟨by omega, by omega⟩
  simp [eqGuard, binOp, h2]
/-- 'x >> b' of a number from 0 on -/
theorem op_shrz (b m z : Nat) (hz : m / 2 ^ b = z) {n kd : Nat} {o : Oper} {K : Fr → Sg → Prop} {t ty : Nat} {x y : Operand} {k yk : IntKind} (ho : o.op = .binOp .shr t x y ty) (hx : ev C.Γ fr x = .d (.int k (m : Int))) (hy : ev C.Γ fr y = .d (.int yk (b : Int))) (hb : b ≤ 8) (hkd : kd = 3) (hd : dstOk o.dst n = true)
    (hK : K (putF o.dst (.d (.int k (z : Int))) fr) σ) : OpSem C n kd o K fr σ := by
  subst hz
  refine op_shr b ho hx hy hb hkd hd ?_
  have : (m : Int).fdiv (2 ^ b) = ((m / 2 ^ b : Nat) : Int) := by
    rw [Int.fdiv_eq_ediv_of_nonneg _ (Int.pow_nonneg (by decide))]
    simp
  rw [this]; exact hK
end
end Go.Sx
namespace Go.Gr
/-- places as bits -/
def maskOf (l : List Nat) : Nat := l.foldl (fun s x => s ||| 2 ^ x) 0
theorem mask_snoc (l : List Nat) (x : Nat) : maskOf (l ++ [x]) = maskOf l ||| 2 ^ x := by simp [maskOf, List.foldl_append]
theorem mask_bit (l : List Nat) (k : Nat) : (maskOf l).testBit k = decide (k ∈ l) := by
  suffices h : ∀ l : List Nat, (maskOf l.reverse).testBit k = decide (k ∈ l) by
    have := h l.reverse
    rw [List.reverse_reverse] at this
    rw [this]; simp
  intro l
  induction l with
  | nil => simp [maskOf]
  | cons x l ih =>
    rw [List.reverse_cons, mask_snoc, Nat.testBit_or, ih, Nat.testBit_two_pow]
    by_cases h : x = k
    · subst h; simp
    · simp [h, Ne.symm h]
theorem mask_lt (l : List Nat) (n : Nat) (h : ∀ x ∈ l, x < n) : maskOf l < 2 ^ n := by
  suffices hh : ∀ l : List Nat, (∀ x ∈ l, x < n) → maskOf l.reverse < 2 ^ n by
    have := hh l.reverse (by simpa using h)
    rwa [List.reverse_reverse] at this
  intro l
  induction l with
  | nil => intro _; simp [maskOf]; exact Nat.pos_of_ne_zero (by simp)
  | cons x l ih =>
    intro h
    rw [List.reverse_cons, mask_snoc]
    exact Nat.or_lt_two_pow (ih fun y hy => h y (by simp [hy])) (Nat.pow_lt_pow_right (by decide) (h x (by simp)))
theorem bit_of (m k : Nat) : (m / 2 ^ k) &&& 1 = if m.testBit k then 1 else 0 := by
  rw [Nat.and_one_is_mod, Nat.testBit_eq_decide_div_mod_eq]
  by_cases h : m / 2 ^ k % 2 = 1
  · simp [h]
  · simp [h]; omega
end Go.Gr
end

section
/- perm: Right, Put. -/
namespace Go.Proofs.YteigfapjiekdnaaGreatDoor
open Go.Sx Go.RowKit Go.Reg Go.Gr

set_option maxRecDepth 100000
def ordR (p : List Int) : Bool := decide (p.length ≤ 8) && (decide (∀ x ∈ p, 0 ≤ x ∧ x < p.length) && decide p.Nodup)
def pl_pmr : List (Nat × Plan) := []
def G_pmr : List FuncId := []
theorem cok_pmr : codeOk Tryz.prog G_pmr pl_pmr (Tryz.f156.body.getD .skip) = true := by kernel_rfl
theorem run_pmr (vs : Array Value) (w : World) : (callFunc 156 vs).run C1.P w = .ok (.enter 156 vs) w := by kernel_rfl
set_option maxHeartbeats 4000000 in
theorem permright_pure (p : List Int) (hm : p.length ≤ 9000000000000000000) : Pure C1 156 [dIs p] (fun y => y = .bool (ordR p)) := by
  have hdp : (p.map dI).length = p.length := List.length_map _
  refine pure_of c1_ok (pl := pl_pmr) (G := G_pmr) Tryz.func156 rfl Tryz.ntmps156 run_pmr cok_pmr (by simp) ?_
  by_cases h8 : 8 < p.length
  · have : ordR p = false := by unfold ordR; rw [decide_eq_false (by omega)]; rfl
    rw [this]
    ((conv => whnf); repeat' ((first | refine odw ?_ | refine ify ?_ | refine ifn ?_ | refine i6 ?_ | refine ati ?_ | refine mst ?_ | refine rmd ?_ | refine ibo (fun _ => ?_) (fun _ => ?_)) <;> conv => whnf))
    exact rfl
  · ((conv => whnf); repeat' ((first | refine odw ?_ | refine ify ?_ | refine ifn ?_ | refine i6 ?_ | refine ati ?_ | refine mst ?_ | refine rmd ?_ | refine ibo (fun _ => ?_) (fun _ => ?_)) <;> conv => whnf))
    refine loop_lo (ι := Nat) (fun i => i ≤ p.length ∧ (∀ x ∈ p.take i, 0 ≤ x ∧ x < (p.length : Int)) ∧ (p.take i).Nodup) (fun i => [(11, .d (.int .i64 i)), (10, .d (.int .i64 (p.map dI).length)), (9, .d (dIs p)), (3, .d (.int .i64 (maskOf ((p.take i).map Int.toNat) : Nat))), (0, .d (dIs p))]) (fun _ => []) (fun i => p.length - i) 0 (fun _ => rfl) ⟨Nat.zero_le _, by simp, by simp⟩ (.refl _ _) ⟨rfl, rfl, rfl, rfl, rfl, trivial⟩ trivial ?_
    rintro i ⟨hi, hr, hn⟩
    refine sxCode_sound c1_ok (G := G_pmr) (pl := pl_pmr) _ _ _ _ (by kernel_rfl) ?_
    by_cases hil : i < p.length
    · have hx := List.getElem?_eq_getElem hil
      have hxm := List.getElem_mem hil
      generalize p[i] = x at hx hxm
      have hxd : (p.map dI)[i]? = some (.int .i64 x) := by rw [List.getElem?_map, hx]; rfl
      have hno : ¬ (0 ≤ x ∧ x < (p.length : Int)) → ordR p = false := fun h => by
        unfold ordR
        rw [decide_eq_false (p := ∀ x ∈ p, 0 ≤ x ∧ x < (p.length : Int)) (fun hh => h (hh x hxm))]
        simp
      by_cases h0 : x < 0
      · rw [hno (by omega)]
        (conv => whnf)
        (repeat' ((first | refine ord_ok (by (conv => whnf); (repeat' ((first | refine at_da hxd rfl ?_ | refine ify ?_ | refine ifn ?_ | refine i6 ?_ | refine ati ?_ | refine mst ?_ | refine rmd ?_ | refine ibo (fun _ => ?_) (fun _ => ?_)) <;> conv => whnf)); (all_goals (repeat' (first | exact trivial | exact rfl | refine And.intro ?_ ?_)))) ?_ | refine at_da hxd rfl ?_ | refine ify ?_ | refine ifn ?_ | refine i6 ?_ | refine ati ?_ | refine mst ?_ | refine rmd ?_ | refine ibo (fun _ => ?_) (fun _ => ?_)) <;> conv => whnf))
        exact rfl
      by_cases h1 : (p.length : Int) ≤ x
      · rw [hno (by omega)]
        (conv => whnf)
        (repeat' ((first | refine ord_ok (by (conv => whnf); (repeat' ((first | refine at_da hxd rfl ?_ | refine ify ?_ | refine ifn ?_ | refine i6 ?_ | refine ati ?_ | refine mst ?_ | refine rmd ?_ | refine ibo (fun _ => ?_) (fun _ => ?_)) <;> conv => whnf)); (all_goals (repeat' (first | exact trivial | exact rfl | refine And.intro ?_ ?_)))) ?_ | refine at_da hxd rfl ?_ | refine ify ?_ | refine ifn ?_ | refine i6 ?_ | refine ati ?_ | refine mst ?_ | refine rmd ?_ | refine ibo (fun _ => ?_) (fun _ => ?_)) <;> conv => whnf))
        exact rfl
      obtain ⟨k, rfl⟩ := Int.eq_ofNat_of_zero_le (show 0 ≤ x by omega)
      have hm8 : maskOf ((p.take i).map Int.toNat) < 2 ^ 8 := mask_lt _ 8 (fun y hy => by
        obtain ⟨z, hz, rfl⟩ := List.mem_map.1 hy
        have := hr z hz; omega)
      have hbt : (maskOf ((p.take i).map Int.toNat)).testBit k = decide ((k : Int) ∈ p.take i) := by
        rw [mask_bit]
        congr 1
        simp only [List.mem_map, eq_iff_iff]
        constructor
        · rintro ⟨z, hz, hzk⟩
          have := hr z hz
          rw [show (k : Int) = z by omega]; exact hz
        · exact fun h => ⟨k, h, Int.toNat_natCast k⟩
      have hba := bit_of (maskOf ((p.take i).map Int.toNat)) k
      have hsn : maskOf ((p.take (i + 1)).map Int.toNat) = maskOf ((p.take i).map Int.toNat) ||| 2 ^ k := by
        rw [List.take_add_one, hx, Option.toList_some, List.map_append, List.map_cons, List.map_nil, Int.toNat_natCast, mask_snoc]
      have hdv : maskOf ((p.take i).map Int.toNat) / 2 ^ k ≤ maskOf ((p.take i).map Int.toNat) := Nat.div_le_self _ _
      have hpk : (2 : Nat) ^ k ≤ 2 ^ 8 := Nat.pow_le_pow_right (by decide) (by omega)
      generalize hM : maskOf ((p.take i).map Int.toNat) = M at *
      generalize hD : M / 2 ^ k = D at *
      obtain ⟨Z, hZ⟩ : ∃ Z, M ||| 2 ^ k = Z := ⟨_, rfl⟩
      rw [hZ] at hsn
      by_cases hc : (k : Int) ∈ p.take i
      · rw [hbt, decide_eq_true hc, if_pos rfl] at hba
        have hf : ordR p = false := by
          unfold ordR
          rw [decide_eq_false (p := p.Nodup) (fun hh => ?_)]
          · simp
          · obtain ⟨j, hj, hjk⟩ := List.mem_take_iff_getElem.1 hc
            have hj2 : j < p.length := by omega
            have := (List.getElem?_inj hj2 hh).1 ((List.getElem?_eq_getElem hj2).trans ((congrArg some hjk).trans hx.symm))
            omega
        rw [hf]
        (conv => whnf)
        (repeat' ((first | refine ord_ok (by (conv => whnf); (repeat' ((first | refine at_da hxd rfl ?_ | refine op_shrz k M D hD rfl rfl rfl (by omega) rfl rfl ?_ | refine op_and D 1 1 hba rfl rfl rfl (by omega) (by omega) rfl rfl ?_ | refine ify ?_ | refine ifn ?_ | refine i6 ?_ | refine ati ?_ | refine mst ?_ | refine rmd ?_ | refine ibo (fun _ => ?_) (fun _ => ?_)) <;> conv => whnf)); (all_goals (repeat' (first | exact trivial | exact rfl | refine And.intro ?_ ?_)))) ?_ | refine at_da hxd rfl ?_ | refine op_shrz k M D hD rfl rfl rfl (by omega) rfl rfl ?_ | refine op_and D 1 1 hba rfl rfl rfl (by omega) (by omega) rfl rfl ?_ | refine ify ?_ | refine ifn ?_ | refine i6 ?_ | refine ati ?_ | refine mst ?_ | refine rmd ?_ | refine ibo (fun _ => ?_) (fun _ => ?_)) <;> conv => whnf))
        exact rfl
      · rw [hbt, decide_eq_false hc, if_neg (by decide)] at hba
        (conv => whnf)
        (repeat' ((first | refine ord_ok (by (conv => whnf); (repeat' ((first | refine at_da hxd rfl ?_ | refine op_shrz k M D hD rfl rfl rfl (by omega) rfl rfl ?_ | refine op_and D 1 0 hba rfl rfl rfl (by omega) (by omega) rfl rfl ?_ | refine op_bit k rfl rfl rfl (by omega) rfl rfl ?_ | refine op_or M (2 ^ k) Z hZ rfl rfl rfl (by omega) (by omega) rfl rfl ?_ | refine ify ?_ | refine ifn ?_ | refine i6 ?_ | refine ati ?_ | refine mst ?_ | refine rmd ?_ | refine ibo (fun _ => ?_) (fun _ => ?_)) <;> conv => whnf)); (all_goals (repeat' (first | exact trivial | exact rfl | refine And.intro ?_ ?_)))) ?_ | refine at_da hxd rfl ?_ | refine op_shrz k M D hD rfl rfl rfl (by omega) rfl rfl ?_ | refine op_and D 1 0 hba rfl rfl rfl (by omega) (by omega) rfl rfl ?_ | refine op_bit k rfl rfl rfl (by omega) rfl rfl ?_ | refine op_or M (2 ^ k) Z hZ rfl rfl rfl (by omega) (by omega) rfl rfl ?_ | refine ify ?_ | refine ifn ?_ | refine i6 ?_ | refine ati ?_ | refine mst ?_ | refine rmd ?_ | refine ibo (fun _ => ?_) (fun _ => ?_)) <;> conv => whnf))
        refine ⟨i + 1, _, _, ⟨by omega, ?_, ?_⟩, .refl _ _, ⟨rfl, rfl, rfl, by rw [hsn]; rfl, rfl, trivial⟩, trivial, by omega⟩
        · intro y hy
          rw [List.take_add_one, hx, Option.toList_some] at hy
          rcases List.mem_append.1 hy with hy | hy
          · exact hr y hy
          · simp at hy; subst hy; omega
        · rw [List.take_add_one, hx, Option.toList_some]
          exact List.nodup_append.2 ⟨hn, by simp, fun a ha b hb e => by simp at hb; subst hb; subst e; exact hc ha⟩
    · have e : p.take i = p := List.take_of_length_le (by omega)
      rw [e] at hr hn
      have : ordR p = true := by
        unfold ordR
        rw [decide_eq_true (show p.length ≤ 8 by omega), decide_eq_true hr, decide_eq_true hn]; rfl
      rw [this]
      ((conv => whnf); repeat' ((first | refine odw ?_ | refine ify ?_ | refine ifn ?_ | refine i6 ?_ | refine ati ?_ | refine mst ?_ | refine rmd ?_ | refine ibo (fun _ => ?_) (fun _ => ?_)) <;> conv => whnf))
      exact rfl
end Go.Proofs.YteigfapjiekdnaaGreatDoor
end
