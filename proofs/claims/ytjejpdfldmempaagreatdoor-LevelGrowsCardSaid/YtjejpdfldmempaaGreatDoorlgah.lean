/- Merged: Ats Atm Lsc. -/
import Derived.Test.YtjejpdfldmempaaGreatDoorlgag
import Derived.Test.YtjejpdfldmempaaGreatDoorlgab
import Derived.Test.YtjejpdfldmempaaGreatDoorlgac
import Derived.Test.YtjejpdfldmempaaGreatDoorSxu
import Derived.Shelf.SlicesG.CompactI
import Derived.Shelf.SlicesG.Delete
import Derived.Test.YtjejpdfldmempaaGreatDoorRows
section
namespace Go.Proofs.YtjejpdfldmempaaGreatDoor
open Go.RowKit Go.Shelf Go.Sx Go.Reg Go.Maps Go.Sort Go.Gr
set_option maxRecDepth 100000
theorem take_len {zs : List Int} {k : Nat} (h : k ≤ zs.length) : (zs.take k).length = k := by rw [List.length_take]; omega
theorem take_next {zs : List Int} {k : Nat} (h : k < zs.length) : zs.take k ++ [zs[k]?.getD 0] = zs.take (k + 1) := by
 rw [List.take_add_one, List.getElem?_eq_getElem h]; rfl
set_option maxHeartbeats 2000000 in
theorem values1K (F : Fence) (n : Nat) (h7 : F.fn 222) (hro : F.round = none) (hn : 1 ≤ n) (l Bs bo n₀ b off cap : Nat) (zs : List Int) (hreach : zs.length * 8 ≤ 140737488351232) (hb : b < n₀) (w : World) (J : List Int → World → Prop)
  (hJb : ∀ pre W1, J pre W1 → Below n₀ w W1)
  (hY : ∀ pre x W1, J pre W1 → pre.length < zs.length → YieldAt F (n - 1) Tryz.prog l #[encZ x] W1 fun e W' => e = .returned (.bool true) ∧ J (pre ++ [x]) W' ∧ KeepsWalks W1 W')
  (W : World) (hBs : W.cell? ⟨Bs, bo, none⟩ = some (.slice (some ⟨b, off, none⟩) zs.length cap)) (hc : ∀ j, j < zs.length → w.cell? ⟨b, off + j, none⟩ = some (.int .i64 (zs[j]?.getD 0))) (h0 : J [] W) :
  CallsIn F n Tryz.prog 222 #[.func (.yield l) #[] #[], .pointer (some ⟨Bs, bo, none⟩)] W fun e W' => (∃ v, e = .returned v) ∧ ∃ xs, xs = zs ∧ J xs W' := by
 refine callsIn_of_wp Tryz.func222 rfl h7 ?_ hro
 simp only [Tryz.ntmps222, List.size_toArray, List.length_cons, List.length_nil, Nat.reduceAdd, Nat.reduceSub, Array.replicate_succ, Array.replicate_zero, List.push_toArray, List.append_toArray, List.nil_append, List.cons_append]
 gi_wp2
 gi_loopw [7] (fun i wr => ∃ k : Nat, k ≤ zs.length ∧ i = .int .i64 k ∧ J (zs.take k) wr)
  (fun i _ => zs.length - (intOf i).toNat)
 case atStart => exact ⟨0, Nat.zero_le _, rfl, h0⟩
 case round =>
  obtain ⟨k, hk, rfl, hJs⟩ := hrel
  have hcx : k < zs.length → wr.cell? ⟨b, off + k, none⟩ = some (.int .i64 (zs[k]?.getD 0)) := fun h => ((hJb _ _ hJs).cell (p := ⟨b, off + k, none⟩) hb).trans (hc k h)
  by_cases hlt : k < zs.length
  ·have hcx' := hcx hlt
   have htn := take_next hlt
   generalize zs[k]?.getD 0 = x at hcx' htn
   obtain ⟨fn, tmps, assign, body, hy, hR⟩ := hY _ x wr hJs (by rw [take_len hk]; exact hlt)
   rw [htn] at hR
   clear hcx hc htn
   gi_wp2
   refine hR.mono ?_
   rintro e W3 ⟨rfl, hJ3, hk3⟩
   gi_wp2
   go_roundw
   case rel => exact ⟨k + 1, by omega, by simp, hJ3⟩
   case measure => simp [intOf]; omega
  ·obtain rfl : k = zs.length := by omega
   rw [List.take_length] at hJs
   gi_wp2
   go_end0
   exact ⟨⟨_, rfl⟩, zs, rfl, hJs⟩
set_option maxHeartbeats 1000000 in
theorem values1_nilK (F : Fence) (n : Nat) (h7 : F.fn 222) (hro : F.round = none) (l Bs bo cap : Nat) (p : Option Addr) (J : List Int → World → Prop) (W : World) (hBs : W.cell? ⟨Bs, bo, none⟩ = some (.slice p 0 cap)) (h0 : J [] W) :
  CallsIn F n Tryz.prog 222 #[.func (.yield l) #[] #[], .pointer (some ⟨Bs, bo, none⟩)] W fun e W' => (∃ v, e = .returned v) ∧ ∃ xs, xs = [] ∧ J xs W' := by
 refine callsIn_of_wp Tryz.func222 rfl h7 ?_ hro
 simp only [Tryz.ntmps222, List.size_toArray, List.length_cons, List.length_nil, Nat.reduceAdd, Nat.reduceSub, Array.replicate_succ, Array.replicate_zero, List.push_toArray, List.append_toArray, List.nil_append, List.cons_append]
 gi_wp2
 gi_loopw [7] (fun i wr => i = .int .i64 0 ∧ J [] wr) (fun _ _ => 0)
 case atStart => exact ⟨rfl, h0⟩
 case round =>
  obtain ⟨rfl, hJs⟩ := hrel
  gi_wp2
  go_end0
  exact ⟨⟨_, rfl⟩, [], rfl, hJs⟩
theorem list_of_own {w : World} {base E : Nat} {v : Value} {ss : List Int} {O : List Nat} (hO : ∀ b ∈ O, b < base) (h : w.ownsRow base E 1 v ss.length (ss.map encZ)) : Rep O w (dIs ss) v := by
 have h1 : RepCss O w (ss.map dI) (ss.map fun n => [Value.int .i64 n]) := by
  clear h
  induction ss with
  | nil => simp [RepCss]
  | cons x ss ih => exact ⟨_, _, rfl, by simp [RepC, dI], ih⟩
 have h2 : ∀ x ∈ ss.map (fun n => [Value.int .i64 n]), RowOk 1 x := by
  intro x hx
  obtain ⟨n, _, rfl⟩ := List.mem_map.1 hx
  exact ⟨rfl, by simp [Value.oneCell']⟩
 have h3 : (ss.map fun n => [Value.int .i64 n]).flatten = ss.map encZ := by
  clear h h1 h2
  induction ss with
  | nil => rfl
  | cons x ss ih => simp only [List.map_cons, List.flatten_cons, ih]; rfl
 rcases h.2 with ⟨rfl, hn⟩ | ⟨g, cap, cur, rfl, hb, hg, g1, g2, g3, g4⟩
 ·have : ss = [] := List.eq_nil_of_length_eq_zero hn
  subst this
  exact ⟨[.slice none 0 0], by simp only [dIs, RepC]; exact ⟨none, 0, [], rfl, by simp, by unfold maxLen; omega, by simp [RepCss], by simp, .inl rfl⟩, rfl⟩
 ·refine ⟨[.slice (some ⟨g, 0, none⟩) ss.length cap], ?_, rfl⟩
  simp only [dIs, RepC]
  refine ⟨_, cap, _, by rw [List.length_map], by rw [List.length_map]; exact g1, g2, h1, h2, .inr ⟨g, 0, rfl, fun hm => by have := hO g hm; omega, (Array.getElem?_eq_some_iff.1 hg).1, ?_⟩⟩
  rw [h3, ← g4]
  intro j u hj
  simp only [Nat.mul_one] at hj
  rw [List.getElem?_take] at hj
  split at hj
  ·simp only [World.cell?, hg, Nat.zero_add]
   simpa using hj
  ·cases hj
theorem sortsIn_wide (m : Nat) : AnyZI.SortsIn Tryz.prog Tryz.sortedI_ren Fence.wide m :=
 ⟨fun blk off cap ss W hH hblk hsz => callsIn_wide.2 (AnyM.slices_Sort_int Tryz.sortI blk off cap ss W hH hblk hsz),
  fun p cap W => callsIn_wide.2 (AnyM.slices_Sort_int_none Tryz.sortI p cap W)⟩
theorem sorted_pure (l : List Int) (hl : l.length ≤ 4294967296) : Pure C1 160 [.func (.func 222) [] [.ref (dIs l)]] (fun y => y = dIs (l.mergeSort fun x y => decide (x ≤ y))) := by
 intro O w us hO hg hr
 obtain ⟨v, vs, rfl, h1, h2⟩ := reps_inv hr
 obtain rfl := reps_inv0 h2
 obtain ⟨cs, r, rfl⟩ := h1
 simp only [RepC, RepCss] at r
 obtain ⟨fs, cs', rfl, ⟨c1, c2, rfl, ⟨b, o, c, rfl, hb, hbl, hc, hcell⟩, rfl⟩, rfl⟩ := r
 simp only [dIs, RepC] at hc
 obtain ⟨a, cap, css, rfl, hlc, hcm, hcs, hrow, hd⟩ := hc
 have hv : w.cell? ⟨b, o, none⟩ = some (.slice a l.length cap) := by have := hcell 0 _ rfl; simpa using this
 refine ⟨by kernel_rfl, ?_⟩
 show Calls _ _ #[.func (.func 222) #[] #[.pointer (some ⟨b, o, none⟩)]] w _
 have hseq : SeqK Fence.wide 3 Tryz.prog 222 #[.pointer (some ⟨b, o, none⟩)] (fun ys => ys = l) l.length w := by
  intro k J W hW hJ hJb hY h0
  have hc' : W.cell? ⟨b, o, none⟩ = some (.slice a l.length cap) := (hW.cell (p := ⟨b, o, none⟩) hbl).trans hv
  rcases hd with hd | ⟨b2, o2, rfl, hb2, hbl2, hcell2⟩
  ·have : l = [] := by simpa using hd
   subst this
   exact values1_nilK Fence.wide 3 trivial rfl k b o cap a J W hc' h0
  ·refine values1K Fence.wide 3 trivial rfl (by omega) k b o w.heap.size b2 o2 cap l (by omega) hbl2 w J hJb hY W hc' ?_ h0
   intro j hj
   have hf : ∀ (l : List Int) (css : List (List Value)), RepCss O w (l.map dI) css → css.flatten = l.map (Value.int .i64) := by
    intro l
    induction l with
    | nil => intro css h; simp only [List.map_nil, RepCss] at h; subst h; rfl
    | cons x l ih =>
      intro css h
      simp only [List.map_cons, RepCss, dI, RepC] at h
      obtain ⟨_, c2, rfl, rfl, h⟩ := h
      simp only [List.flatten_cons, ih c2 h]; rfl
   exact hcell2 j _ (by rw [hf l css hcs, List.getElem?_map, List.getElem?_eq_getElem hj]; rfl)
 have := sortedK_in Tryz.sortedI Fence.wide 6 trivial trivial trivial trivial rfl (by omega) (sortsIn_wide _) (enters_of Tryz.func221 (by kernel_rfl) rfl) 222 #[.pointer (some ⟨b, o, none⟩)] trivial (enters_of Tryz.func222 (by kernel_rfl) rfl)
  (fun ys => ys = l) l.length (by unfold maxLen; omega) (by omega) w (fun ss h => Nat.le_of_eq (by rw [h])) hseq
 refine (callsIn_wide.1 this).mono ?_
 rintro e w' ⟨v, ss, rfl, rfl, hown, _, hbel⟩
 refine ⟨v, _, rfl, rfl, ?_, ⟨hbel.os, hbel.tape, hbel.output, hbel.size, fun k hk _ => hbel.block k hk⟩⟩
 rw [← List.length_mergeSort (le := fun x y => decide (x ≤ y))] at hown
 exact list_of_own hO hown
end Go.Proofs.YtjejpdfldmempaaGreatDoor
end
section
namespace Go.Proofs.YtjejpdfldmempaaGreatDoor
open Go.RowKit Go.Shelf Go.Sx Go.Reg Go.Maps Go.Sort Go.Gr
set_option maxRecDepth 100000
theorem css_ints {O : List Nat} {w : World} : ∀ ss : List Int, RepCss O w (ss.map dI) (ss.map fun n => [Value.int .i64 n])
 | [] => by simp [RepCss]
 | x :: ss => ⟨_, _, rfl, by simp [RepC, dI], css_ints ss⟩
theorem css_row (ss : List Int) : ∀ x ∈ ss.map (fun n => [Value.int .i64 n]), RowOk 1 x := by
 intro x hx
 obtain ⟨n, _, rfl⟩ := List.mem_map.1 hx
 exact ⟨rfl, by simp [Value.oneCell']⟩
theorem css_flat (ss : List Int) : (ss.map fun n => [Value.int .i64 n]).flatMap id = ss.map encZ := by
 induction ss with
 | nil => rfl
 | cons x ss ih => simp only [List.map_cons, List.flatMap_cons, ih]; rfl
theorem sl_of_own {w : World} {base E : Nat} {v : Value} {ss : List Int} (h : w.ownsRow base E 1 v ss.length (ss.map encZ)) : Sl E 1 id w v (ss.map fun n => [Value.int .i64 n]) ∧ ∀ b, v.ownBlock = some b → base ≤ b := by
 unfold Sl
 rw [css_flat, List.length_map]
 rcases h with ⟨h0, ⟨rfl, hn⟩ | ⟨g, cap, cur, rfl, hb, hg, r⟩⟩
 ·exact ⟨⟨h0, .inl ⟨rfl, hn⟩⟩, fun b hb => by cases hb⟩
 ·exact ⟨⟨h0, .inr ⟨g, cap, cur, rfl, Nat.zero_le _, hg, r⟩⟩, fun b hb' => by simp only [Value.ownBlock, Option.some.injEq] at hb'; subst hb'; exact hb⟩
theorem sorted_mksl (l : List Int) (hl : l.length ≤ 4294967296) : MakeSl C1 160 [.func (.func 222) [] [.ref (dIs l)]] 3 1 (fun ds => ds = (l.mergeSort fun x y => decide (x ≤ y)).map dI) := by
 intro O w us hO hg hr
 obtain ⟨v, vs, rfl, h1, h2⟩ := reps_inv hr
 obtain rfl := reps_inv0 h2
 obtain ⟨cs, r, rfl⟩ := h1
 simp only [RepC, RepCss] at r
 obtain ⟨fs, cs', rfl, ⟨c1, c2, rfl, ⟨b, o, c, rfl, hb, hbl, hc, hcell⟩, rfl⟩, rfl⟩ := r
 simp only [dIs, RepC] at hc
 obtain ⟨a, cap, css, rfl, hlc, hcm, hcs, hrow, hd⟩ := hc
 have hv : w.cell? ⟨b, o, none⟩ = some (.slice a l.length cap) := by have := hcell 0 _ rfl; simpa using this
 refine ⟨by kernel_rfl, ?_⟩
 show Calls _ _ #[.func (.func 222) #[] #[.pointer (some ⟨b, o, none⟩)]] w _
 have hseq : SeqK Fence.wide 3 Tryz.prog 222 #[.pointer (some ⟨b, o, none⟩)] (fun ys => ys = l) l.length w := by
  intro k J W hW hJ hJb hY h0
  have hc' : W.cell? ⟨b, o, none⟩ = some (.slice a l.length cap) := (hW.cell (p := ⟨b, o, none⟩) hbl).trans hv
  rcases hd with hd | ⟨b2, o2, rfl, hb2, hbl2, hcell2⟩
  ·have : l = [] := by simpa using hd
   subst this
   exact values1_nilK Fence.wide 3 trivial rfl k b o cap a J W hc' h0
  ·refine values1K Fence.wide 3 trivial rfl (by omega) k b o w.heap.size b2 o2 cap l (by omega) hbl2 w J hJb hY W hc' ?_ h0
   intro j hj
   have hf : ∀ (l : List Int) (css : List (List Value)), RepCss O w (l.map dI) css → css.flatten = l.map (Value.int .i64) := by
    intro l
    induction l with
    | nil => intro css h; simp only [List.map_nil, RepCss] at h; subst h; rfl
    | cons x l ih =>
      intro css h
      simp only [List.map_cons, RepCss, dI, RepC] at h
      obtain ⟨_, c2, rfl, rfl, h⟩ := h
      simp only [List.flatten_cons, ih c2 h]; rfl
   exact hcell2 j _ (by rw [hf l css hcs, List.getElem?_map, List.getElem?_eq_getElem hj]; rfl)
 have := sortedK_in Tryz.sortedI Fence.wide 6 trivial trivial trivial trivial rfl (by omega) (sortsIn_wide _) (enters_of Tryz.func221 (by kernel_rfl) rfl) 222 #[.pointer (some ⟨b, o, none⟩)] trivial (enters_of Tryz.func222 (by kernel_rfl) rfl)
  (fun ys => ys = l) l.length (by unfold maxLen; omega) (by omega) w (fun ss h => Nat.le_of_eq (by rw [h])) hseq
 refine (callsIn_wide.1 this).mono ?_
 rintro e w' ⟨v, ss, rfl, rfl, hown, _, hbel⟩
 rw [← List.length_mergeSort (le := fun x y => decide (x ≤ y))] at hown
 obtain ⟨g1, g2⟩ := sl_of_own hown
 exact ⟨v, _, _, rfl, rfl, g1, g2, css_ints _, css_row _, ⟨hbel.os, hbel.tape, hbel.output, hbel.size, fun k hk _ => hbel.block k hk⟩⟩
end Go.Proofs.YtjejpdfldmempaaGreatDoor
end
section
namespace Go.Proofs
open Go.Shelf
def Tryz.compactI_ren : Go.Shelf.Ren := ⟨fun | 43 => 241 | n => n, fun | 22 => 28 | 23 => 3 | 3 => 3 | 4 => 4 | 0 => 0 | n => n, fun | n => n⟩
theorem Tryz.compactI : Go.Proofs.SlLaysN.n43 Tryz.prog Tryz.compactI_ren := {
 mixed := by kernel_rfl
 f43 := ⟨Tryz.f241.name, by decide, Tryz.func241.trans (congrArg some (by kernel_rfl))⟩
 t0 := Tryz.underlying0
 a0 := Tryz.isAgg0
 z0 := Tryz.sizeOf0
 v0 := Tryz.zeroValue0
 t3 := Tryz.underlying3
 a3 := Tryz.isAgg3
 z3 := Tryz.sizeOf3
 v3 := Tryz.zeroValue3
 t4 := Tryz.underlying4
 a4 := Tryz.isAgg4
 z4 := Tryz.sizeOf4
 v4 := Tryz.zeroValue4
 t22 := Tryz.underlying28
 a22 := Tryz.isAgg28
 z22 := Tryz.sizeOf28
 v22 := Tryz.zeroValue28
 t23 := Tryz.underlying3
 a23 := Tryz.isAgg3
 z23 := Tryz.sizeOf3
 v23 := Tryz.zeroValue3
 i23 := by kernel_rfl }
end Go.Proofs
end
