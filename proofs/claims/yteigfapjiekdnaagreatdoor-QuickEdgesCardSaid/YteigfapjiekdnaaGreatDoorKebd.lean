/- Merged: Sec Sed See. -/
import Derived.Test.YteigfapjiekdnaaGreatDoorKebc
import Derived.WalkKit
import Derived.OwnWalkIn
import Derived.TacticsInMore
import Derived.LoopNIn
import Derived.LoopIn
import Derived.Laws.Bits64b
import Derived.Test.YteigfapjiekdnaaGreatDoorKeak
import Derived.Test.YteigfapjiekdnaaGreatDoorKeae
section
/- canon.search: no place to go. -/
namespace Go.Proofs.YteigfapjiekdnaaGreatDoor
open Go.Sx Go.RowKit Go.Reg Go.Gr

set_option maxRecDepth 100000
theorem rep_list_shape {O : List Nat} {w : World} {l : List Int} {v : Value} (h : Rep O w (dInts l) v) : ∃ a c, v = .slice a l.length c ∧ l.length ≤ c ∧ c ≤ maxLen := by
  obtain ⟨cs, r, rfl⟩ := h
  simp only [dInts, RepC] at r
  obtain ⟨a, c, css, rfl, h1, h2, _⟩ := r
  rw [List.length_map] at h1
  exact ⟨a, c, by rw [List.length_map]; rfl, h1, h2⟩
set_option maxHeartbeats 4000000 in
theorem search_zero (fr to : List Int) : SearchAt fr to 0 := by
  intro ah hk haj h8 h8' l XS J Jx hJ hY O A vf vt va pre hO hgl rf rt ra hj hpre
  have hcl := fun (B : World) => @clone_rep O A hO hgl (ah.map fun j : Nat => (j : Int)) (by simp; omega) va ra
  obtain ⟨a1, c1, rfl, _, _⟩ := rep_list_shape rf
  obtain ⟨a2, c2, rfl, _, _⟩ := rep_list_shape rt
  obtain ⟨a3, c3, rfl, _, _⟩ := rep_list_shape ra
  have hcl := hcl A
  rw [List.length_map] at hcl ⊢
  have hlen : fr.length = ah.length := by omega
  rw [hlen]
  refine callsIn_of_wp Tryz.func116 rfl trivial ?_ rfl
  simp only [Tryz.ntmps116, List.size_toArray, List.length_cons, List.length_nil, Nat.reduceAdd, Nat.reduceSub, Array.replicate_succ, Array.replicate_zero, List.push_toArray, List.append_toArray, List.nil_append, List.cons_append]
  gi_wp2_with (refine ⟨trivial, ?_⟩; gi_at_call 55; refine (callsIn_wide.2 hcl).mono ?_; rintro e B ⟨u, rfl, hru, htB⟩; obtain ⟨fn, tmps, assign, body, hy, hR⟩ := hY O pre (ah.map fun j : Nat => (j : Int)) u B (fun b hb => Nat.lt_of_lt_of_le (hO b hb) htB.size) (hJ _ _ _ _ hj htB) hpre hru)
  refine hR.mono ?_
  rintro e B2 ⟨S', hg2, ⟨rfl, hj2⟩ | ⟨rfl, hx2⟩⟩
  · gi_wp2
    go_ret
    exact ⟨S', (Grow.same (htB.mono (by simp)) hO).trans hg2, .inl ⟨rfl, hj2⟩⟩
  · gi_wp2
    go_ret
    exact ⟨S', (Grow.same (htB.mono (by simp)) hO).trans hg2, .inr ⟨rfl, _, List.prefix_refl _, hx2⟩⟩
end Go.Proofs.YteigfapjiekdnaaGreatDoor
end

section
/- canon.search: one place more. -/
namespace Go.Proofs.YteigfapjiekdnaaGreatDoor
open Go.Sx Go.RowKit Go.Reg Go.Gr

set_option maxRecDepth 100000
theorem icss {O : List Nat} {w : World} : ∀ {l : List Int} {css : List (List Value)}, RepCss O w (l.map fun n => Da.int .i64 n) css → css = l.map fun n => [Value.int .i64 n]
  | [], css, h => by simpa only [List.map_nil, RepCss] using h
  | x :: l, css, h => by
    simp only [List.map_cons, RepCss, RepC] at h
    obtain ⟨c1, c2, rfl, rfl, h⟩ := h
    rw [icss h]; rfl
theorem iflat : ∀ l : List Int, (l.map fun n => [Value.int .i64 n]).flatten = l.map (Value.int .i64)
  | [] => rfl
  | x :: l => by simp only [List.map_cons, List.flatten_cons, iflat l]; rfl
theorem rep_ints_cells {O : List Nat} {w : World} {l : List Int} {v : Value} (h : Rep O w (dInts l) v) : (l = [] ∧ ∃ a c, v = .slice a 0 c) ∨ ∃ b o c, v = .slice (some ⟨b, o, none⟩) l.length c ∧ l.length ≤ c ∧ c ≤ maxLen ∧ b ∉ O ∧ b < w.heap.size ∧ ∀ j x, l[j]? = some x → w.cell? ⟨b, o + j, none⟩ = some (.int .i64 x) := by
  obtain ⟨cs, r, rfl⟩ := h
  simp only [dInts, RepC] at r
  obtain ⟨a, c, css, rfl, h1, h2, h3, _, h5⟩ := r
  have hf := icss h3
  rcases h5 with h5 | ⟨b, o, rfl, hb, hbl, hc⟩
  · have : l = [] := by simpa using h5
    subst this
    exact .inl ⟨rfl, a, c, rfl⟩
  · refine .inr ⟨b, o, c, by rw [List.length_map]; rfl, by rw [List.length_map] at h1; exact h1, h2, hb, hbl, fun j x hx => ?_⟩
    refine hc j _ ?_
    rw [hf, iflat, List.getElem?_map, hx]; rfl
theorem Tch.later {O : List Nat} {A B : World} (h : Tch O A B) : Later O A O B := ⟨h.size, fun b hb hn => h.blk b hb hn, fun _ h _ => h⟩
theorem rep_on {O : List Nat} {A B : World} {d : Da} {v : Value} (h : Tch O A B) (r : Rep O A d v) : Rep O B d v := r.later (Tch.later h)
theorem glob_on {C : Cx} {O : List Nat} {A B : World} (h : Tch O A B) (r : Glob C O A) : Glob C O B := fun g hg => (r g hg).later (Tch.later h)
theorem below_on {O : List Nat} {A B : World} (h : Tch O A B) (r : ∀ b ∈ O, b < A.heap.size) : ∀ b ∈ O, b < B.heap.size := fun b hb => Nat.lt_of_lt_of_le (r b hb) h.size
theorem sclip_fn : ClipFn C1 126 := by
  intro w a n c hn hc
  refine ⟨by kernel_rfl, ?_⟩
  show Calls Tryz.prog _ _ _ _
  go_enter Tryz.func126, Tryz.ntmps126
  go_wp2
  go_ret
  exact ⟨rfl, rfl⟩
/-- one int behind a list of ints without room: a new list -/
theorem append_one {O : List Nat} {w : World} (hO : ∀ b ∈ O, b < w.heap.size) {l : List Int} (hl : l.length ≤ 1000) {p : Option Addr} {c : Nat} (hp : Rep O w (dInts l) (.slice p l.length c)) {b : Nat} {m : Int} (hc : w.cell? ⟨b, 0, none⟩ = some (.int .i64 m)) (ty : TypeId) :
    ∃ v' w', (Builtin.append_ #[22, 22] ty #[.slice p l.length l.length, .slice (some ⟨b, 0, none⟩) 1 1]).run Tryz.prog w = .ok v' w' ∧ Rep O w' (dInts (l ++ [m])) v' ∧ Tch [] w w' := by
  obtain ⟨cs, r, e⟩ := hp
  simp only [dInts, RepC] at r
  obtain ⟨a, c', css, rfl, h1, h2, h3, h4, h5⟩ := r
  have ep : p = a := by simp only [dInts, toV] at e; injection e
  subst ep
  have hcl : css.length = l.length := by rw [css_len h3, List.length_map]
  obtain ⟨v', w', css2, g1, g2, g3, g4, g5, g6⟩ := append_clip (P := Tryz.prog) (w := w) (c1_ok.ty (t := 22) rfl) rfl (c1_ok.ty (t := 3) rfl) (by decide) (by decide) (p := p) (css := css) h4
    (by
      rcases h5 with h5 | ⟨b', o, h5, _, _, h6⟩
      · exact .inl (List.eq_nil_of_length_eq_zero (by rw [hcl]; simpa using h5))
      · exact .inr ⟨b', o, h5, h6⟩)
    (O := O) (es := [.int .i64 m]) (vy := .slice (some ⟨b, 0, none⟩) 1 1) ⟨⟨_, _, [[.int .i64 m]], rfl, by simp [RepCss, RepC], by intro x hx; simp at hx; subst hx; exact ⟨rfl, by intro y hy; simp at hy; subst hy; rfl⟩, .inr ⟨b, 0, rfl, fun j u hj => by
      cases j with
      | zero => simp at hj; subst hj; exact hc
      | succ j => simp at hj⟩⟩⟩ (by simp) (by rw [hcl]; refine Nat.le_trans (m := 1001) (by simp; omega) (by decide)) ty
  rw [hcl] at g1
  refine ⟨v', w', g1, ?_, g5⟩
  have : dInts (l ++ [m]) = .list 1 ((l.map fun n => Da.int .i64 n) ++ [.int .i64 m]) := by unfold dInts; rw [List.map_append]; rfl
  rw [this]
  refine rep_of_sl g2 (fun b hb hm => ?_) (repCss_append ?_ ?_) (fun x hx => ?_)
  · have := g6 b hb; have := hO b hm; omega
  · exact RepCss.later ⟨g5.size, fun _ h _ => g5.blk _ h (by simp), fun _ h _ => h⟩ _ _ h3
  · exact RepCss.later ⟨g5.size, fun _ h _ => g5.blk _ h (by simp), fun _ h _ => h⟩ _ _ g3
  · rcases List.mem_append.1 hx with hx | hx
    · exact h4 x hx
    · exact g4 x hx
theorem ordU_pre (fr to : List Int) (k : Nat) (ah : List Nat) {m : Nat} : ∀ {m' : Nat}, m ≤ m' → ordU fr to k m ah <+: ordU fr to k m' ah
  | 0, h => by rw [show m = 0 by omega]; exact List.prefix_refl _
  | m' + 1, h => by
    rcases Nat.lt_or_ge m (m' + 1) with h1 | h1
    · rw [ordU_step]
      exact (ordU_pre fr to k ah (m := m) (m' := m') (by omega)).trans (List.prefix_append _ _)
    · rw [show m = m' + 1 by omega]; exact List.prefix_refl _
theorem mask_or {ah : List Nat} {m : Nat} (h : maskOf ah < 2 ^ 8) (hm : m < 8) : bits BinOp.or IntKind.u64 (maskOf ah : Int) (IntKind.u64.wrap (2 ^ m)) = ((maskOf (ah ++ [m]) : Nat) : Int) := by
  have h1 : (2 : Nat) ^ m ≤ 2 ^ 8 := Nat.pow_le_pow_right (by decide) (by omega)
  have h2 : IntKind.u64.wrap ((2 : Int) ^ m) = ((2 ^ m : Nat) : Int) := by
    have : (2 : Int) ^ m = ((2 ^ m : Nat) : Int) := by norm_cast
    rw [this]
    generalize (2 : Nat) ^ m = q at h1
    rw [IntKind.wrap_u64]; omega
  rw [h2, bits_or_u64_nat _ _ (by omega) (by omega), mask_snoc]
set_option maxHeartbeats 800000 in
theorem search_succ (fr to : List Int) (k : Nat) (ih : SearchAt fr to k) : SearchAt fr to (k + 1) := by
  intro ah hk haj h8 h8' l XS J Jx hJ hY O A vf vt va pre hO hgl rf rt ra hj hpre
  obtain ⟨a1, c1, rfl, _, _⟩ := rep_list_shape rf
  obtain ⟨a2, c2, rfl, _, _⟩ := rep_list_shape rt
  obtain ⟨a3, c3, rfl, hn3, hc3⟩ := rep_list_shape ra
  rw [List.length_map] at ra ⊢
  have hne : ¬ ((ah.length : Int) = (fr.length : Int)) := by omega
  refine callsIn_of_wp Tryz.func116 rfl trivial ?_ rfl
  simp only [Tryz.ntmps116, List.size_toArray, List.length_cons, List.length_nil, Nat.reduceAdd, Nat.reduceSub, Array.replicate_succ, Array.replicate_zero, List.push_toArray, List.append_toArray, List.nil_append, List.cons_append]
  gi_wp2
  have hne' : ((ah.length : Int) == (fr.length : Int)) = false := by simpa using hne
  simp only [hne']
  gi_loopw [24] (fun i wr => ∃ (m : Nat) (S : List Nat), m ≤ to.length ∧ i = .int .i64 m ∧ J S (pre ++ ordU fr to k m ah) wr ∧ Grow O A S wr)
    (fun i _ => to.length - (intOf i).toNat)
  case atStart => exact ⟨0, O, Nat.zero_le _, rfl, by simpa [ordU] using hj, Grow.refl hO⟩
  case round =>
    obtain ⟨m, S, hm, rfl, hJs, hgs⟩ := hrel
    have hts := hgs.tch
    by_cases hlt : m < to.length
    · have hx := List.getElem?_eq_getElem hlt
      generalize to[m] = x at hx
      have hah : ah.length < fr.length := by omega
      have hy := List.getElem?_eq_getElem hah
      generalize fr[ah.length] = y at hy
      rcases rep_ints_cells rt with ⟨h, _⟩ | ⟨b2, o2, c2', hv2, _, _, hb2, hbl2, hc2⟩
      · subst h; simp at hlt
      rcases rep_ints_cells rf with ⟨h, _⟩ | ⟨b1, o1, c1', hv1, _, _, hb1, hbl1, hc1⟩
      · subst h; simp at hah
      cases hv2
      cases hv1
      have e2 : wr.cell? ⟨b2, o2 + m, none⟩ = some (.int .i64 x) := hts.cell (hc2 m x hx) hb2
      have e1 : wr.cell? ⟨b1, o1 + ah.length, none⟩ = some (.int .i64 y) := hts.cell (hc1 ah.length y hy) hb1
      have HR := hid (And.intro rf rt)
      clear hc1 hc2 rf rt
      have hmk : maskOf ah < 2 ^ 8 := mask_lt _ 8 (fun j hj => by have := haj j hj; omega)
      have hbt : bits BinOp.and IntKind.u64 ((maskOf ah : Int) / 2 ^ m) 1 = if m ∈ ah then 1 else 0 := by
        have h1 : ((maskOf ah : Int) / 2 ^ m) = ((maskOf ah / 2 ^ m : Nat) : Int) := by simp
        have h2 : maskOf ah / 2 ^ m ≤ maskOf ah := Nat.div_le_self _ _
        rw [h1, show (1 : Int) = ((1 : Nat) : Int) from rfl, bits_and_u64_nat _ _ (by omega) (by omega), bit_of, mask_bit]
        by_cases h : m ∈ ah <;> simp [h]
      have hou := ordU_step fr to k m ah
      rw [hx, hy] at hou
      by_cases hin : m ∈ ah
      · rw [if_pos hin] at hbt
        have hou' : ordU fr to k (m + 1) ah = ordU fr to k m ah := by rw [hou]; simp [hin]
        gi_wp2
        go_roundw
        case rel => exact ⟨m + 1, S, by omega, by simp, by rw [hou']; exact hJs, hgs⟩
        case measure => simp [intOf]; omega
      rw [if_neg hin] at hbt
      by_cases hxy : x = y
      · subst hxy
        have hou' : ordU fr to k (m + 1) ah = ordU fr to k m ah ++ ordL fr to k (ah ++ [m]) := by rw [hou]; simp [hin]
        gi_wp2
        refine wpIn_wide.2 ?_
        refine wp_region_2g [126] [0, 0, 0, 2, 0, 6, 3, 0, 0, 0, 0, 0, 3, 0] 3 5 [0, 1, 2, 4, 7, 8, 9, 10, 11, 3, 5, 6, 12, 13] [0, 0, 0, 4, 0, 28, 60, 0, 0, 256, 896, 0, 4095, 8191] [0, 1, 2, 4, 7, 8, 9, 10, 11, 5, 3, 6, 12, 13] [0, 0, 0, 52, 0, 16, 60, 0, 0, 256, 896, 0, 4095, 8191] (by kernel_rfl) (by decide) (by kernel_rfl) (by kernel_rfl) ?_ ?_
        · intro w1 hT
          have HT := hid hT
          clear hT
          go_wp2_with (first | (refine wpT_pure rfl rfl rfl rfl (fun _ _ => ?_)))
          refine wpT_call rfl rfl rfl (fun K1 hK1 => ?_)
          go_wp2_with (go_at_call 126; refine ((sclip_fn w1 _ _ _ (by simpa using hn3) hc3).2).mono ?_; rintro e w' ⟨rfl, rfl⟩)
          refine hK1 _ _ (Ext.refl _) ?_
          go_wp2_with (first | (refine wpT_pure rfl rfl rfl rfl (fun _ _ => ?_)) | (refine wpT_look rfl rfl rfl (fun _ _ => ?_)))
          have T1 : Tch O A w' := hts.then0 HT.out
          have T2 : Tch O A (w'.alloc (Obj.cells #[Value.int IntKind.i64 (m : Int)] 3)) := T1.andAlloc _
          have G2 : Grow O A S (w'.alloc (Obj.cells #[Value.int IntKind.i64 (m : Int)] 3)) := hgs.trans (Grow.same ((HT.out.andAlloc _).mono (by simp)) hgs.lt)
          have hcell : (w'.alloc (Obj.cells #[Value.int IntKind.i64 (m : Int)] 3)).cell? ⟨w'.heap.size, 0, none⟩ = some (.int .i64 (m : Int)) := by
            simp only [World.cell?]
            rw [World.alloc_heap_new]; rfl
          have ra2 := ra.later G2.later
          have hla : (ah.map fun j : Nat => (j : Int)).length = ah.length := List.length_map _
          rw [← hla] at ra2
          obtain ⟨va, w3, ha1, ha2, ha3⟩ := append_one G2.lt (by rw [hla]; omega) ra2 hcell 22
          rw [hla] at ha1
          refine wpT_one rfl rfl rfl (fun K2 hK2 => ?_)
          refine wp_append rfl rfl rfl ha1 (hK2 _ _ ?_)
          refine wpT_one rfl rfl rfl (fun K3 hK3 => ?_)
          have hor := mask_or hmk (show m < 8 by omega)
          have hpre2 : pre ++ ordU fr to k m ah ++ ordL fr to k (ah ++ [m]) <+: XS := by
            rw [List.append_assoc, ← hou']
            refine List.IsPrefix.trans ?_ hpre
            rw [← ordU_all]
            exact (List.prefix_append_right_inj _).2 (ordU_pre fr to k ah (by omega))
          have hpre3 : ordU fr to k m ah ++ ordL fr to k (ah ++ [m]) <+: ordL fr to (k + 1) ah := by
            rw [← hou', ← ordU_all]
            exact ordU_pre fr to k ah (by omega)
          have ha2' : Rep S w3 (dInts ((ah ++ [m]).map fun j : Nat => (j : Int))) va := by rw [List.map_append]; exact ha2
          have G3 : Grow O A S w3 := G2.trans (Grow.same (ha3.mono (by simp)) G2.lt)
          have hcs := ih (ah ++ [m]) (by rw [List.length_append, List.length_singleton]; omega) (fun j hj => by
            rcases List.mem_append.1 hj with hj | hj
            · exact haj j hj
            · rw [List.mem_singleton.1 hj]; exact hlt) h8 h8' l XS J Jx hJ hY S w3 _ _ va (pre ++ ordU fr to k m ah) G3.lt (fun g hg => (hgl g hg).later G3.later) (HR.out.1.later G3.later) (HR.out.2.later G3.later) ha2' (hJ _ _ _ _ hJs ((HT.out.andAlloc _).then0 ha3)) hpre2
          have hcs := callsIn_wide.1 hcs
          go_wp2_with (go_at_call 116; refine Calls.mono hcs ?_; rintro e B ⟨S', hgB, ⟨rfl, hj3⟩ | ⟨rfl, q, hq, hx3⟩⟩)
          · go_wp2_with (first | (refine wpT_pure rfl rfl rfl rfl (fun _ _ => ?_)) | refine wpT_nil ?_)
            gi_wp2
            go_roundw
            case rel => exact ⟨m + 1, S', by omega, by simp, by rw [hou', ← List.append_assoc]; exact hj3, G3.trans hgB⟩
            case measure => simp [intOf]; omega
          · go_wp2_with (first | (refine wpT_pure rfl rfl rfl rfl (fun _ _ => ?_)) | refine wpT_nil ?_)
            gi_wp2
            go_ret
            exact ⟨S', G3.trans hgB, .inr ⟨rfl, ordU fr to k m ah ++ q, ((List.prefix_append_right_inj _).2 hq).trans hpre3, by rw [← List.append_assoc]; exact hx3⟩⟩
        · intro w1 hT
          have HT := hid hT
          clear hT
          go_wp2_with (first | (refine wpT_pure rfl rfl rfl rfl (fun _ _ => ?_)) | (refine wpT_look rfl rfl rfl (fun _ _ => ?_)))
          refine wpT_call rfl rfl rfl (fun K1 hK1 => ?_)
          go_wp2_with (go_at_call 126; refine ((sclip_fn _ _ _ _ (by simpa using hn3) hc3).2).mono ?_; rintro e w' ⟨rfl, rfl⟩)
          refine hK1 _ _ (Ext.refl _) ?_
          have T1 : Tch O A w1 := hts.then0 HT.out
          have T2 : Tch O A (w1.alloc (Obj.cells #[Value.int IntKind.i64 (m : Int)] 3)) := T1.andAlloc _
          have G2 : Grow O A S (w1.alloc (Obj.cells #[Value.int IntKind.i64 (m : Int)] 3)) := hgs.trans (Grow.same ((HT.out.andAlloc _).mono (by simp)) hgs.lt)
          have hcell : (w1.alloc (Obj.cells #[Value.int IntKind.i64 (m : Int)] 3)).cell? ⟨w1.heap.size, 0, none⟩ = some (.int .i64 (m : Int)) := by
            simp only [World.cell?]
            rw [World.alloc_heap_new]; rfl
          have ra2 := ra.later G2.later
          have hla : (ah.map fun j : Nat => (j : Int)).length = ah.length := List.length_map _
          rw [← hla] at ra2
          obtain ⟨va, w3, ha1, ha2, ha3⟩ := append_one G2.lt (by rw [hla]; omega) ra2 hcell 22
          rw [hla] at ha1
          refine wpT_one rfl rfl rfl (fun K2 hK2 => ?_)
          refine wp_append rfl rfl rfl ha1 (hK2 _ _ ?_)
          refine wpT_one rfl rfl rfl (fun K3 hK3 => ?_)
          have hor := mask_or hmk (show m < 8 by omega)
          have hpre2 : pre ++ ordU fr to k m ah ++ ordL fr to k (ah ++ [m]) <+: XS := by
            rw [List.append_assoc, ← hou']
            refine List.IsPrefix.trans ?_ hpre
            rw [← ordU_all]
            exact (List.prefix_append_right_inj _).2 (ordU_pre fr to k ah (by omega))
          have hpre3 : ordU fr to k m ah ++ ordL fr to k (ah ++ [m]) <+: ordL fr to (k + 1) ah := by
            rw [← hou', ← ordU_all]
            exact ordU_pre fr to k ah (by omega)
          have ha2' : Rep S w3 (dInts ((ah ++ [m]).map fun j : Nat => (j : Int))) va := by rw [List.map_append]; exact ha2
          have G3 : Grow O A S w3 := G2.trans (Grow.same (ha3.mono (by simp)) G2.lt)
          have hcs := ih (ah ++ [m]) (by rw [List.length_append, List.length_singleton]; omega) (fun j hj => by
            rcases List.mem_append.1 hj with hj | hj
            · exact haj j hj
            · rw [List.mem_singleton.1 hj]; exact hlt) h8 h8' l XS J Jx hJ hY S w3 _ _ va (pre ++ ordU fr to k m ah) G3.lt (fun g hg => (hgl g hg).later G3.later) (HR.out.1.later G3.later) (HR.out.2.later G3.later) ha2' (hJ _ _ _ _ hJs ((HT.out.andAlloc _).then0 ha3)) hpre2
          have hcs := callsIn_wide.1 hcs
          go_wp2_with (go_at_call 116; refine Calls.mono hcs ?_; rintro e B ⟨S', hgB, ⟨rfl, hj3⟩ | ⟨rfl, q, hq, hx3⟩⟩)
          · go_wp2_with (first | (refine wpT_pure rfl rfl rfl rfl (fun _ _ => ?_)) | refine wpT_nil ?_)
            gi_wp2
            go_roundw
            case rel => exact ⟨m + 1, S', by omega, by simp, by rw [hou', ← List.append_assoc]; exact hj3, G3.trans hgB⟩
            case measure => simp [intOf]; omega
          · go_wp2_with (first | (refine wpT_pure rfl rfl rfl rfl (fun _ _ => ?_)) | refine wpT_nil ?_)
            gi_wp2
            go_ret
            exact ⟨S', G3.trans hgB, .inr ⟨rfl, ordU fr to k m ah ++ q, ((List.prefix_append_right_inj _).2 hq).trans hpre3, by rw [← List.append_assoc]; exact hx3⟩⟩
      · have hou' : ordU fr to k (m + 1) ah = ordU fr to k m ah := by rw [hou]; simp [hxy]
        gi_wp2
        go_roundw
        case rel => exact ⟨m + 1, S, by omega, by simp, by rw [hou']; exact hJs, hgs⟩
        case measure => simp [intOf]; omega
    · obtain rfl : m = to.length := by omega
      rw [ordU_all] at hJs
      gi_wp2
      go_ret
      exact ⟨S, hgs, .inl ⟨rfl, hJs⟩⟩
theorem search_all (fr to : List Int) : ∀ k, SearchAt fr to k
  | 0 => search_zero fr to
  | k + 1 => search_succ fr to k (search_all fr to k)
end Go.Proofs.YteigfapjiekdnaaGreatDoor
end

section
/- canon.orders: what its iterator owes. -/
namespace Go.Proofs.YteigfapjiekdnaaGreatDoor
open Go.Sx Go.RowKit Go.Reg Go.Gr

set_option maxRecDepth 100000
/-- the iterator of canon.orders -/
def ordersD (p : Pt) (labels : List Int) : Da := .func (.func 115) [] [.ref (dPt p), .ref (dIs labels)]
set_option maxHeartbeats 1000000 in
theorem orders_seq {p : Pt} {labels : List Int} (h8 : p.labels.length ≤ 8) (h8' : labels.length ≤ 8) {O : List Nat} {l : Nat} {W : World} {fv : Value} (hO : ∀ b ∈ O, b < W.heap.size) (hg : Glob C1 O W) (hr : Rep O W (ordersD p labels) fv) :
    SeqAt C1 fv (ordL p.labels labels p.labels.length []) O l W := by
  obtain ⟨cs, r, rfl⟩ := hr
  simp only [ordersD, RepC, RepCss, dPt] at r
  obtain ⟨fs, cs', rfl, ⟨k1, k2, rfl, ⟨b1, o1, c1, rfl, hb1, hs1, ⟨d1, d2, rfl, hd1, hd2⟩, hc1⟩, k3, k4, rfl, ⟨b2, o2, c2, rfl, hb2, hs2, hd3, hc2⟩, rfl⟩, rfl⟩ := r
  obtain ⟨v1, rfl, rv1⟩ : ∃ v1, d1 = [v1] ∧ Rep O W (dInts p.labels) v1 := by
    have hd1' := hd1
    simp only [dIs, RepC] at hd1
    obtain ⟨a, c, css, rfl, _⟩ := hd1
    exact ⟨_, rfl, _, hd1', rfl⟩
  obtain ⟨v2, rfl, rv2⟩ : ∃ v2, c2 = [v2] ∧ Rep O W (dInts labels) v2 := by
    have hd3' := hd3
    simp only [dIs, RepC] at hd3
    obtain ⟨a, c, css, rfl, _⟩ := hd3
    exact ⟨_, rfl, _, hd3', rfl⟩
  have e1 : W.cell? ⟨b1, o1, none⟩ = some v1 := hc1 0 v1 rfl
  have e2 : W.cell? ⟨b2, o2, none⟩ = some v2 := hc2 0 v2 rfl
  refine ⟨115, #[.pointer (some ⟨b1, o1, none⟩), .pointer (some ⟨b2, o2, none⟩)], rfl, fun _ _ => rfl, ?_⟩
  intro J Jx hJ hJx hY hj
  have hj := hj [] (by simp)
  have hJ := hJ []
  have hY := hY []
  have hcs := search_all p.labels labels p.labels.length [] (by simp) (by simp) h8 h8' l (ordL p.labels labels p.labels.length []) (fun S pre A => J [] S pre A ∧ W.heap.size ≤ A.heap.size) (Jx []) (fun S pre A B h t => ⟨hJ S pre A B (by simp) h.1 t, Nat.le_trans h.2 t.size⟩) (fun S pre x v A hS h hp hx => by
      have := hY S pre x v A (by simp) hS h.1 hp (by rw [List.append_nil]; exact hx) ⟨h.2, by simp⟩
      obtain ⟨fn, tmps, assign, body, hy, hR⟩ := this
      exact ⟨fn, tmps, assign, body, hy, hR.mono fun e B ⟨S', hg, hh⟩ => ⟨S', hg, hh.imp (fun ⟨h1, h2⟩ => ⟨h1, h2, Nat.le_trans h.2 hg.tch.size⟩) id⟩⟩) O W v1 v2 (.slice none 0 0) [] hO hg rv1 rv2 ⟨_, by simp only [dInts, List.map_nil, RepC]; exact ⟨none, 0, [], rfl, by simp, by unfold maxLen; omega, by simp [RepCss], by simp, .inl trivial⟩, rfl⟩ ⟨hj, Nat.le_refl _⟩ (by simp)
  rw [show ((maskOf [] : Nat) : Int) = 0 from rfl, List.nil_append] at hcs
  show CallsIn Fence.wide 3 Tryz.prog 115 _ W _
  refine callsIn_of_wp Tryz.func115 rfl trivial ?_ rfl
  clear hc1 hc2 hd1 hd2 hd3
  simp only [Tryz.ntmps115, List.size_toArray, List.length_cons, List.length_nil, Nat.reduceAdd, Nat.reduceSub, Array.replicate_succ, Array.replicate_zero, List.push_toArray, List.append_toArray, List.nil_append, List.cons_append]
  gi_wp2_with (refine ⟨trivial, ?_⟩; gi_at_call 116; refine (callsIn_wide.2 (callsIn_wide.1 hcs)).mono ?_; rintro e B ⟨S', hgB, ⟨rfl, hj3, _⟩ | ⟨rfl, q, hq, hx3⟩⟩)
  · gi_wp2
    refine bodyPost_end (results_none rfl _ _ _) rfl ?_
    exact ⟨⟨_, rfl⟩, [], S', by simp, by rw [List.append_nil]; exact hgB.tch, hgB.new, .inl hj3⟩
  · gi_wp2
    refine bodyPost_end (results_none rfl _ _ _) rfl ?_
    exact ⟨⟨_, rfl⟩, [], S', by simp, by rw [List.append_nil]; exact hgB.tch, hgB.new, .inr ⟨q, hq, hx3⟩⟩
end Go.Proofs.YteigfapjiekdnaaGreatDoor
end
