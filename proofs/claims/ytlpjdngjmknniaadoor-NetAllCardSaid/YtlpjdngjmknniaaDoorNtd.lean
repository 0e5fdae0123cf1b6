/- slices.Clone and slices.Delete at letters; Flying, Deliver. -/
import Derived.Test.YtlpjdngjmknniaaDoorNtc
namespace Go.Proofs.YtlpjdngjmknniaaDoor
open Go.RowKit Go.Reg

/-- an owned slice of letters from block B on -/
def SlFrom (B : Nat) (w : World) (v : Value) (l : List Letter) : Prop := w.ownsRow B 50 4 v l.length (l.flatMap encL)
theorem SlFrom.sl {B : Nat} {w : World} {v : Value} {l : List Letter} (h : SlFrom B w v l) : Sl 50 4 encL w v l := by
  refine ⟨h.1, ?_⟩
  rcases h.2 with h | ⟨g, cap, cur, hv, hB, r⟩
  · exact .inl h
  · exact .inr ⟨g, cap, cur, hv, Nat.zero_le _, r⟩
theorem SlFrom.ge {B : Nat} {w : World} {v : Value} {l : List Letter} (h : SlFrom B w v l) : ∀ b, v.ownBlock = some b → B ≤ b := fun b hb => (World.ownsRow.lt h b hb).1

theorem zeroLetter : (Tryd.prog.info? 50).map (fun i => (i.zero, i.size, i.bytes)) = some (some (.agg #[.int .i64 0, .int .i64 0, .int .i64 0, .string ⟨#[]⟩]), 4, 40) := by kernel_rfl

theorem flat_len (l : List Letter) : (l.flatMap encL).length = l.length * 4 := by
  induction l with
  | nil => rfl
  | cons x l ih => simp [ih, encL]; omega

theorem grown_tch {w w' : World} {row : Option Nat} (h : w.grownBy w' row) : Tch row.toList w w' :=
  ⟨h.os, h.tape, h.output, h.size, fun k hk hn => h.block k hk (fun e => hn (by rw [← e]; simp))⟩

set_option maxRecDepth 100000 in
theorem clone_ok (v : Value) (l : List Letter) (w : World) (h : Sl 50 4 encL w v l) (hl : l.length ≤ 4294967296) :
    Calls Tryd.prog 50 #[v] w fun e w' => ∃ v', e = .returned v' ∧ SlFrom w.heap.size w' v' l ∧ Tch [] w w' := by
  obtain ⟨i0, hi, hz0, hz1, hz2⟩ := info_parts zeroLetter
  rcases h.2 with ⟨rfl, hl0⟩ | ⟨g, cap, cur, rfl, _, hg, hnc, hcm, hcs, htake⟩
  · have hl0' : l = [] := List.eq_nil_of_length_eq_zero hl0
    subst hl0'
    clear h hl hl0 hi hz0 hz1 hz2
    have hn0 := fun w => Lib.run_eql_slice_nil (P := Tryd.prog) w 40 50 none 0 0 0 0 Tryd.underlying40
    go_enter Tryd.func50, Tryd.ntmps50
    go_wp2_with fail
    go_ret
    exact ⟨_, rfl, World.ownsRow_nil _ _ _ _, Tch.refl _ _⟩
  · have hcells : ∀ j u, (l.flatMap encL)[j]? = some u → w.cell? ((⟨g, 0, none⟩ : Addr).add j) = some u := World.ownsRow.cells h (g := g) rfl
    have ht0 : Tch [] w (w.alloc (.cells #[] 50)) := Tch.alloc _ _ _
    have hcells' : ∀ j u, (l.flatMap encL)[j]? = some u → (w.alloc (.cells #[] 50)).cell? ((⟨g, 0, none⟩ : Addr).add j) = some u := fun j u hu => by
      have := hcells j u hu
      rw [Addr.add_lit] at this ⊢
      exact ht0.cell this (by simp)
    obtain ⟨v', w', hr, ho, hgr, _⟩ := run_append_own (P := Tryd.prog) (w.alloc (.cells #[] 50)) w.heap.size 40 40 50 i0 _ 4 40 Tryd.underlying40 hi hz0 hz1 hz2 rfl (by decide)
      (.slice (some ⟨w.heap.size, 0, none⟩) 0 0) 0 [] (World.ownsRow_made w #[] 0 (Nat.le_refl _) (by simp [maxLen]) rfl) ⟨g, 0, none⟩ l.length cap (l.flatMap encL) (flat_len l) hcells' (fun u hu => by obtain ⟨x, _, hx⟩ := List.mem_flatMap.1 hu; exact encL_one x u hx) (by simp only [maxLen]; omega) (by omega) (by simp)
    simp only [Nat.zero_add, List.nil_append] at ho
    have HR := hid hr
    have HO := hid ho
    have HT := hid ((ht0).trans (grown_tch hgr) (T := []) (by simp) (fun x hx => .inr (by simp [Value.ownBlock] at hx; omega)))
    have hn0 := fun w => Lib.run_eql_slice_nil (P := Tryd.prog) w 40 50 (some ⟨g, 0, none⟩) l.length cap 0 0 Tryd.underlying40
    clear h hi hz0 hz1 hz2 hg hnc hcm hcs htake hcells hcells' hr ho hgr ht0
    go_enter Tryd.func50, Tryd.ntmps50
    go_wp2_with (first | (at_builtin; refine wpList_plain rfl (fun K hK => ?_); refine wp_append rfl rfl rfl HR.out ?_; go_simp))
    go_ret
    exact ⟨_, rfl, HO.out, HT.out⟩

set_option maxRecDepth 100000 in
theorem flying_ok (p : Nat) (N : NetM) (F : List Nat) (w : World) (h : NetAt w p N F) (hfl : N.flying.length ≤ 4294967296) :
    Calls Tryd.prog 20 #[.pointer (some ⟨p, 0, none⟩)] w fun e w' => ∃ v', e = .returned v' ∧ SlFrom w.heap.size w' v' N.flying ∧ Tch [] w w' := by
  obtain ⟨bs, bc, fl, h1, h2, h3, h4, h5, hF⟩ := h
  have c3 := h1.cell (i := 3) rfl
  have HL := hid h4
  clear h1 h2 h3 h4 h5 hF
  go_enter Tryd.func20, Tryd.ntmps20
  go_wp2_with fail
  refine (clone_ok fl N.flying w HL.out hfl).mono ?_
  rintro e w' ⟨v', rfl, hS, hT⟩
  have HS := hid hS
  have HT := hid hT
  clear hS hT
  go_wp2_with fail
  go_ret
  exact ⟨_, rfl, HS.out, HT.out⟩

theorem run_clear_row {P : Program} {t E ty : TypeId} {z : Value} (ht : P.underlying t = some (.slice E)) (hz : ∀ w, (zeroValue E).run P w = .ok z w) (h1 : ∀ u ∈ z.cells.toList, u.oneCell' = true) {g o c : Nat} {cur : Array Value} {w : World} (hg : w.heap[g]? = some (.cells cur E (0, 0))) (hfit : o + z.cells.size ≤ cur.size) :
    (Builtin.clear_ #[t] ty #[.slice (some ⟨g, o, none⟩) 1 c]).run P w = .ok (.tuple #[]) (w.setRow g (cur.toList.take o ++ z.cells.toList ++ cur.toList.drop (o + z.cells.size)).toArray) := by
  have hzc : (Builtin.zeroCells z.cells 1).toList = z.cells.toList := by
    simp only [Builtin.zeroCells, Nat.one_mul]
    apply List.ext_getElem
    · simp
    · intro i h1 h2
      have : i < z.cells.size := by simpa using h2
      simp [Nat.mod_eq_of_lt this, this]
  have hst := run_storeCells_at P g o E z.cells.toList 0 cur w hg (by simpa using hfit) h1
  simp only [Nat.add_zero, Array.length_toList] at hst
  simp [Builtin.clear_, run_underlying ht, hz, hzc, hst]

theorem _root_.Go.Reg.Tch.cellA {w w' : World} (h : Tch [] w w') {x : Addr} {v : Value} (hc : w.cell? x = some v) : w'.cell? x = some v := by
  rw [World.cell?_of_block (w := w) (h.blk x.block (World.block_lt_of_cell? w x hc) (by simp))]; exact hc

theorem zeroLetterV (w : World) : (zeroValue 50).run Tryd.prog w = .ok (.agg #[.int .i64 0, .int .i64 0, .int .i64 0, .string ⟨#[]⟩]) w := by kernel_rfl

theorem tch_setRow (w : World) (g : Nat) (cs : Array Value) : Tch [g] w (w.setRow g cs) := ⟨rfl, rfl, rfl, by simp [World.setRow], fun k _ hn => setRow_other w g k cs (by simpa using hn)⟩

theorem flat_take (l : List Letter) (i : Nat) : (l.take i).flatMap encL = (l.flatMap encL).take (i * 4) := by
  induction l generalizing i with
  | nil => simp
  | cons x l ih =>
    cases i with
    | zero => simp
    | succ i =>
      simp only [List.take_succ_cons, List.flatMap_cons, ih]
      rw [List.take_append, encL_len, show (i + 1) * 4 - 4 = i * 4 from by omega, List.take_of_length_le (l := encL x) (by rw [encL_len]; omega)]
theorem flat_drop (l : List Letter) (i : Nat) : (l.drop i).flatMap encL = (l.flatMap encL).drop (i * 4) := by
  induction l generalizing i with
  | nil => simp
  | cons x l ih =>
    cases i with
    | zero => simp
    | succ i =>
      simp only [List.drop_succ_cons, List.flatMap_cons, ih]
      rw [List.drop_append, encL_len, show (i + 1) * 4 - 4 = i * 4 from by omega, List.drop_of_length_le (l := encL x) (by rw [encL_len]; omega), List.nil_append]

set_option maxRecDepth 100000 in
set_option maxHeartbeats 1000000 in
theorem delete_ok (v : Value) (l : List Letter) (i : Nat) (w : World) (h : Sl 50 4 encL w v l) (hl : l.length ≤ 4294967296) (hi : i < l.length) :
    Calls Tryd.prog 56 #[v, .int .i64 i, .int .i64 (i + 1)] w
      fun e w' => ∃ v', e = .returned v' ∧ Sl 50 4 encL w' v' (l.eraseIdx i) ∧ Tch v.ownBlock.toList w w' ∧ v'.ownBlock = v.ownBlock := by
  obtain ⟨i0, hin, hz0, hz1, hz2⟩ := info_parts zeroLetter
  rcases h.2 with ⟨rfl, hl0⟩ | ⟨g, cap, cur, rfl, _, hg, hnc, hcm, hcs, htake⟩
  · omega
  generalize hn : l.length = n at *
  have hfl : (l.flatMap encL).length = n * 4 := by rw [flat_len, hn]
  have hcells : ∀ j u, (l.flatMap encL)[j]? = some u → w.cell? ⟨g, j, none⟩ = some u := fun j u hu => by
    have := World.ownsRow.cells h (g := g) rfl j u hu
    simpa [Addr.add_lit] using this
  -- what is moved
  have hnews : ∀ (a : Addr), (a = ⟨g, (i + 1) * 4, none⟩ ∨ cap = i + 1) → ∀ j u, ((l.drop (i + 1)).flatMap encL)[j]? = some u → w.drew.cell? (a.add j) = some u := fun a ha j u hu => by
    rw [flat_drop, List.getElem?_drop] at hu
    have hj := (List.getElem?_eq_some_iff.1 hu).1
    rw [hfl] at hj
    rcases ha with rfl | ha
    · rw [Addr.add_lit]; exact hcells _ _ hu
    · omega
  have hlen1 : ((l.drop (i + 1)).flatMap encL).length = (n - (i + 1)) * 4 := by rw [flat_len, List.length_drop, hn]
  have h1 : ∀ u ∈ (l.drop (i + 1)).flatMap encL, u.oneCell' = true := fun u hu => by obtain ⟨x, _, hx⟩ := List.mem_flatMap.1 hu; exact encL_one x u hx
  have hroom : i + (n - (i + 1)) ≤ cap := by omega
  have hfit : i * i0.size + ((l.drop (i + 1)).flatMap encL).length ≤ cur.size := by rw [hz1, hlen1, hcs]; omega
  have hnc' : n ≤ cap := hnc
  have hcm' : cap ≤ 9223372036854775807 := by simpa [maxLen] using hcm
  obtain ⟨m, rfl⟩ : ∃ m, n = m + 1 := ⟨n - 1, by omega⟩
  have hi' : i ≤ m := by omega
  -- the row behind the move, and behind the clearing
  have FIN : ∀ (cur2 : Array Value) (w2 : World), w2.heap[g]? = some (.cells cur2 50 (0, 0)) → cur2.size = cap * 4 → cur2.toList.take (m * 4) = (l.eraseIdx i).flatMap encL →
      Sl 50 4 encL w2 (.slice (some ⟨g, 0, none⟩) m cap) (l.eraseIdx i) := fun cur2 w2 hg2 hs2 ht2 => by
    have he : (l.eraseIdx i).length = m := by rw [List.length_eraseIdx_of_lt (by omega), hn]; omega
    unfold Sl
    rw [he]
    exact ⟨by rw [flat_len, he], .inr ⟨g, cap, cur2, rfl, Nat.zero_le _, hg2, by omega, hcm, hs2, ht2⟩⟩
  have hflat : (l.eraseIdx i).flatMap encL = (l.flatMap encL).take (i * 4) ++ (l.drop (i + 1)).flatMap encL := by
    rw [List.eraseIdx_eq_take_drop_succ, List.flatMap_append, flat_take]
  have hcur1 : (cur.toList.take (i * 4) ++ (l.drop (i + 1)).flatMap encL).length = m * 4 := by
    simp only [List.length_append, List.length_take, Array.length_toList, hlen1, hcs]; omega
  have htk : cur.toList.take (i * 4) = (l.flatMap encL).take (i * 4) := by
    rw [← htake, List.take_take, Nat.min_eq_left (by omega)]
  generalize hC1 : (cur.toList.take (i * 4) ++ (l.drop (i + 1)).flatMap encL ++ cur.toList.drop (i * 4 + ((l.drop (i + 1)).flatMap encL).length)).toArray = cur1
  have hs1 : cur1.size = cap * 4 := by
    rw [← hC1]; simp only [List.size_toArray, List.length_append, List.length_take, List.length_drop, Array.length_toList, hlen1, hcs]; omega
  have ht1 : cur1.toList.take (m * 4) = (l.eraseIdx i).flatMap encL := by
    rw [← hC1, hflat, ← htk]
    simp only []
    rw [← hcur1]; exact List.take_left
  generalize hC2 : (cur1.toList.take (m * 4) ++ [Value.int .i64 0, .int .i64 0, .int .i64 0, .string ⟨#[]⟩] ++ cur1.toList.drop (m * 4 + 4)).toArray = cur2
  have hs2 : cur2.size = cap * 4 := by
    rw [← hC2]; simp only [List.size_toArray, List.length_append, List.length_take, List.length_drop, Array.length_toList, hs1, List.length_cons, List.length_nil]; omega
  have ht2 : cur2.toList.take (m * 4) = (l.eraseIdx i).flatMap encL := by
    rw [← hC2, ← ht1]
    simp only [List.append_assoc]
    rw [List.take_append_of_le_length (by simp [hs1]; omega), List.take_take, Nat.min_self]
  have APP : ∀ (a : Addr) (c : Nat) (w1 : World), Tch [] w w1 → (a = ⟨g, (i + 1) * 4, none⟩ ∨ cap = i + 1) → (Builtin.append_ #[40, 40] 40 #[.slice (some ⟨g, 0, none⟩) i cap, .slice (some a) (m - i) c]).run Tryd.prog w1 = .ok (.slice (some ⟨g, 0, none⟩) m cap) (w1.setRow g cur1) := fun a c w1 hT ha => by
    have hg1 : w1.heap[g]? = some (.cells cur 50 (0, 0)) := by rw [hT.blk g (Array.getElem?_eq_some_iff.1 hg).1 (by simp)]; exact hg
    rw [show m - i = m + 1 - (i + 1) from by omega]
    have := run_append_room (P := Tryd.prog) w1 40 40 50 i0 Tryd.underlying40 hin g i cap cur hg1 a (m + 1 - (i + 1)) c ((l.drop (i + 1)).flatMap encL) (by rw [hlen1, hz1])
      (fun j u hu => by have := hnews a ha j u hu; exact hT.cellA this) h1 hroom hfit
    rw [hz1, hC1] at this
    rw [this]
    congr 2
    omega
  have CLR : ∀ (c : Nat) (w1 : World), w1.heap[g]? = some (.cells cur1 50 (0, 0)) → (Builtin.clear_ #[40] 0 #[.slice (some ⟨g, m * 4, none⟩) 1 c]).run Tryd.prog w1 = .ok (.tuple #[]) (w1.setRow g cur2) := fun c w1 hg1 => by
    have := run_clear_row (P := Tryd.prog) (ty := 0) Tryd.underlying40 zeroLetterV (by intro u hu; simp [Value.cells] at hu; rcases hu with rfl | rfl <;> rfl) (o := m * 4) (c := c) hg1 (by simp [Value.cells, hs1]; omega)
    rw [this]
    rw [← hC2]
    rfl
  have hb : ((i : Int) == (i : Int) + 1) = false := by simp; omega
  have HFIN := hid FIN
  have HAPP := hid APP
  have HCLR := hid CLR
  have HS2 := hid hs2
  have HT2 := hid ht2
  have HG := hid hg
  clear h hin hz0 hz1 hz2 hg hnc hcm hcs htake hcells hnews hfl hlen1 h1 hroom hfit hn FIN hflat hcur1 htk hC1 hs1 ht1 hC2 hs2 ht2 APP CLR
  by_cases hcap : cap = i + 1
  · have him : m = i := by omega
    subst him
    subst hcap
    go_enter Tryd.func56, Tryd.ntmps56
    go_wp2_with fail
    refine wp_region_g [] [0, 0, 0, 0, 0, 0, 3, 0] [0, 1, 2, 3, 4, 5, 6, 7] [0, 0, 3, 0, 0, 24, 63, 127] mixed (by kernel_rfl) ?_
    intro w1 hT
    have HT := hid hT
    clear hT
    go_wp2_with (first | (refine wpT_pure rfl rfl rfl rfl (fun _ _ => ?_)))
    have HR := hid (HAPP.out ⟨g, 0, none⟩ 0 w1 HT.out (.inr (by simp)))
    have hg2 := setRow_heap w1 g cur cur1 50 (0, 0) (by rw [HT.out.blk g (Array.getElem?_eq_some_iff.1 HG.out).1 (by simp)]; exact HG.out)
    have HTA := hid ((HT.out.mono (T := [g]) (by simp)).trans0 (tch_setRow w1 g cur1))
    generalize w1.setRow g cur1 = w2 at HR hg2 HTA
    have HG2 := hid hg2
    have hclr := HCLR.out 1 w2 hg2
    clear hg2
    rw [show m - m = 0 from by omega] at HR
    refine wpT_one rfl rfl rfl (fun K hK => ?_)
    refine wp_append rfl rfl rfl HR.out ?_
    go_simp
    go_wp2_with (first | (refine wpT_pure rfl rfl rfl rfl (fun _ _ => ?_)) | refine wpT_nil ?_)
    go_ret
    exact ⟨_, rfl, HFIN.out _ _ (setRow_heap w2 g cur1 cur2 _ (0, 0) HG2.out) HS2.out HT2.out, by simpa [Value.ownBlock] using HTA.out.trans0 (tch_setRow w2 g cur2), rfl⟩
  · go_enter Tryd.func56, Tryd.ntmps56
    go_wp2_with fail
    refine wp_region_g [] [0, 0, 0, 0, 0, 0, 3, 0] [0, 1, 2, 3, 4, 5, 6, 7] [0, 0, 3, 0, 0, 24, 63, 127] mixed (by kernel_rfl) ?_
    intro w1 hT
    have HT := hid hT
    clear hT
    go_wp2_with (first | (refine wpT_pure rfl rfl rfl rfl (fun _ _ => ?_)))
    have HR := hid (HAPP.out ⟨g, (i + 1) * 4, none⟩ (cap - (i + 1)) w1 HT.out (.inl rfl))
    have hg2 := setRow_heap w1 g cur cur1 50 (0, 0) (by rw [HT.out.blk g (Array.getElem?_eq_some_iff.1 HG.out).1 (by simp)]; exact HG.out)
    have HTA := hid ((HT.out.mono (T := [g]) (by simp)).trans0 (tch_setRow w1 g cur1))
    generalize w1.setRow g cur1 = w2 at HR hg2 HTA
    have HG2 := hid hg2
    have hclr := HCLR.out (cap - m) w2 hg2
    clear hg2
    refine wpT_one rfl rfl rfl (fun K hK => ?_)
    refine wp_append rfl rfl rfl HR.out ?_
    go_simp
    go_wp2_with (first | (refine wpT_pure rfl rfl rfl rfl (fun _ _ => ?_)) | refine wpT_nil ?_)
    go_ret
    exact ⟨_, rfl, HFIN.out _ _ (setRow_heap w2 g cur1 cur2 _ (0, 0) HG2.out) HS2.out HT2.out, by simpa [Value.ownBlock] using HTA.out.trans0 (tch_setRow w2 g cur2), rfl⟩
end Go.Proofs.YtlpjdngjmknniaaDoor
