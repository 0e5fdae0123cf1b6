/- Merged: Ins. -/
import Derived.Test.YtjejpdfldmempaaGreatDoorlgab
import Derived.Test.YtjejpdfldmempaaGreatDoorSli
import Derived.Test.YtjejpdfldmempaaGreatDoorSxu
import Derived.Shelf.Spec.SlicesInsert
import Derived.Lib.AppendZerosOnto
import Derived.Laws.CopyRow
section
namespace Go.Reg
open Go Go.RowKit
section
variable {P : Program} {α : Type}
theorem run_copy_rowK (w : World) (dT sT ty elem : TypeId) (k : Nat) (g o dLen dCap : Nat) (a : Addr) (sLen sCap : Nat) (cur : Array Value) (t : TypeId) (cs : List Value)
  (hu : P.underlying dT = some (.slice elem)) (hs : (P.info? elem).map (·.size) = some k)
  (hg : w.heap[g]? = some (.cells cur t (0, 0))) (hn : cs.length = Nat.min sLen dLen * k)
  (hsrc : ∀ j v, cs[j]? = some v → w.cell? (a.add j) = some v) (hfit : o + cs.length ≤ cur.size) (h1 : ∀ v ∈ cs, v.oneCell' = true) :
  (Builtin.copy_ #[dT, sT] ty #[.slice (some ⟨g, o, none⟩) dLen dCap, .slice (some a) sLen sCap]).run P w =
   .ok (goInt (Nat.min sLen dLen)) (w.setRow g (cur.toList.take o ++ cs ++ cur.toList.drop (o + cs.length)).toArray) := by
 have hl := run_loadCells_list (P := P) w a cs hsrc
 have hst := run_storeCells_at P g o t cs 0 cur w hg (by simpa using hfit) h1
 cases hq : P.info? elem with
 | none => simp [hq] at hs
 | some i =>
   have hi : i.size = k := by simpa [hq] using hs
   simp [Builtin.copy_, run_underlying hu, Builtin.lenOf, Builtin.firstCells, sizeOf, typeInfo, hq, hi, ← hn, hl, hst]
theorem run_overlaps_own (w : World) (tS tR e : TypeId) (ht : P.underlying tS = some (.slice e)) (size : Nat) (hz : ∀ w, (Go.sizeOf e).run P w = .ok size w)
  (a b : Addr) (la ca lb cb : Nat) (hne : a.block ≠ b.block) {cA cB : Array Value} {tA tB : TypeId} {frA : Nat × Nat} (ha : w.heap[a.block]? = some (.cells cA tA frA)) (hb : w.heap[b.block]? = some (.cells cB tB (0, 0))) (hA : cA.size ≠ 0) (hB : cB.size ≠ 0) :
  (Extern.SlicesOverlaps.overlaps #[tS, tS] #[tR] #[.slice (some a) la ca, .slice (some b) lb cb]).run P w = .ok (.bool false) w := by
 have hnb : (a.block != b.block) = true := by simpa using hne
 have hnb' : (a.block == b.block) = false := by simpa using hne
 have hsa : w.shape? a.block = some (tA, cA.size) := by simp [World.shape?, ha]
 have hsb : w.shape? b.block = some (tB, cB.size) := by simp [World.shape?, hb]
 have hfb : w.frozen? b = false := by simp [World.frozen?, hb]
 have hfb2 : w.frozen? { block := b.block, off := cB.size } = false := by simp [World.frozen?, hb]
 generalize hka : cA.size = kA at *
 generalize hkb : cB.size = kB at *
 cases kA with
 | zero => exact absurd rfl hA
 | succ kA =>
   cases kB with
   | zero => exact absurd rfl hB
   | succ kB =>
     change Sem.run P (α := Value) (do
      let some t := (#[tS, tS] : Array TypeId)[0]? | stuck "slices.overlaps: no parameter types"
      let .slice elem ← underlying t | stuck "slices.overlaps: slice type expected"
      let size ← sizeOf elem
      match (some a : Option Addr), (some b : Option Addr) with
      | some a, some b =>
        if la = 0 ∨ lb = 0 ∨ size = 0 then pure (Value.bool false)
        else if a.block != b.block && (← frozen a) && (← frozen b) then unsupported .addressObserved
        else do
         if a.block != b.block then do
          noView a; noView b
          if ← mayBeOne a b then return Value.bool ((← choose (.extern "sameAddr.stringBytes" 2)) == 1)
         pure (Value.bool (a.block == b.block && a.off < b.off + lb * size && b.off < a.off + la * size))
      | _, _ => pure (Value.bool false)) w = _
     by_cases h0 : la = 0 ∨ lb = 0 ∨ size = 0
     ·simp [run_underlying ht, hz, h0]
     ·cases hfa : w.frozen? a <;> cases hfe : w.frozen? { block := a.block, off := kA + 1 } <;>
       simp [run_underlying ht, hz, h0, hnb, hnb', frozen, noView, viewAt, mayBeOne, stringish, shape, Sem.run, hsa, hsb, hfb, hfb2, hfa, hfe]
theorem run_append_slA {E k : Nat} {enc : α → List Value} (he : ∀ x, (enc x).length = k) (h1 : ∀ x, ∀ u ∈ enc x, u.oneCell' = true) {t : TypeId} {bytes : Nat} (ht : P.underlying t = some (.slice E)) (hinfo : (P.info? E).map (fun i => (i.zero.map (·.cells.size), i.size, i.bytes)) = some (some k, k, bytes)) (hkb : (decide (0 < k) && decide (bytes ≤ 1000)) = true)
  {w : World} {v : Value} {l : List α} (h : Sl E k enc w v l) (hlen : l.length ≤ 4294967296) (x : α) {a : Addr} {c : Nat} (hnews : ∀ j u, (enc x)[j]? = some u → w.cell? (a.add j) = some u) (ty : TypeId) :
  ∃ v' w', (Builtin.append_ #[t, t] ty #[v, .slice (some a) 1 c]).run P w = .ok v' w' ∧ Sl E k enc w' v' (l ++ [x]) ∧ Tch v.ownBlock.toList w w' ∧ (v'.ownBlock = v.ownBlock ∨ v'.ownBlock = some w.heap.size) := by
 obtain ⟨i, z, hi, hz, hsize, hby, hzs⟩ : ∃ i z, P.info? E = some i ∧ i.zero = some z ∧ i.size = k ∧ i.bytes = bytes ∧ z.cells.size = k := by
  cases hP : P.info? E with
  | none => rw [hP] at hinfo; cases hinfo
  | some i =>
    rw [hP] at hinfo
    simp only [Option.map_some, Option.some.injEq, Prod.mk.injEq, Option.map_eq_some_iff] at hinfo
    obtain ⟨⟨z, hz, h1⟩, h2, h3⟩ := hinfo
    exact ⟨i, z, rfl, hz, h2, h3, h1⟩
 simp only [Bool.and_eq_true, decide_eq_true_eq] at hkb
 obtain ⟨hk, hb0⟩ := hkb
 have hl1 : (enc x).length = 1 * k := by rw [he]; omega
 have hfit : (l.length + 1) * bytes ≤ 4294967297 * 1000 := Nat.mul_le_mul (by omega) hb0
 obtain ⟨v', w', hr, ho, hg, _⟩ := run_append_own (P := P) w 0 t ty E i z k bytes ht hi hz hsize hby hzs hk v l.length (l.flatMap enc) h a 1 c (enc x) hl1 hnews (h1 x) (by simp only [maxLen]; omega) (by omega) (Nat.zero_le _)
 refine ⟨v', w', hr, ?_, ⟨hg.os, hg.tape, hg.output, hg.size, fun j hj hn => hg.block j hj (fun e => hn (by rw [← e]; simp))⟩, ?_⟩
 ·unfold Sl; simpa using ho
 ·subst hsize
  subst hby
  rcases h.2 with ⟨rfl, hn⟩ | ⟨g, cap, cur, rfl, _, hcur, hnc, hcm, hcs, htake⟩
  ·have hx' := run_append_nil (P := P) w t ty E i z ht hi hz a 1 c (enc x) hl1 hnews (by omega) (by omega) (by omega)
   rw [hx'] at hr
   simp at hr
   exact .inr (by rw [← hr.1]; rfl)
  ·by_cases hroom : l.length + 1 ≤ cap
   ·have hfit2 : l.length * i.size + (enc x).length ≤ cur.size := by rw [hl1, hcs, ← Nat.add_mul]; exact Nat.mul_le_mul_right _ hroom
    have hx' := run_append_room (P := P) w t ty E i ht hi g l.length cap cur hcur a 1 c (enc x) hl1 hnews (h1 x) hroom hfit2
    rw [hx'] at hr
    simp at hr
    exact .inl (by rw [← hr.1]; rfl)
   ·have holds : ∀ j u, (l.flatMap enc)[j]? = some u → w.cell? ((⟨g, 0, none⟩ : Addr).add j) = some u := World.ownsRow.cells h (g := g) rfl
    have hx' := run_append_grow (P := P) w t ty E i z ht hi hz ⟨g, 0, none⟩ l.length cap (l.flatMap enc) h.1 holds a 1 c (enc x) hl1 hnews (by omega) (by omega) (growslice_fits (by omega) (by omega))
    rw [hx'] at hr
    simp at hr
    exact .inr (by rw [← hr.1]; rfl)
end
end Go.Reg
namespace Go.Proofs.YtjejpdfldmempaaGreatDoor
open Go.Sx Go.RowKit Go.Reg Go.Gr
theorem insMixed : Tryz.prog.follows .mixedOrders = true := by kernel_rfl
def encEI (e : Edg) : List Value := [.int .i64 e.a, .int .i64 e.b]
theorem encEI_len (e : Edg) : (encEI e).length = 2 := rfl
theorem encEI_one (e : Edg) : ∀ u ∈ encEI e, u.oneCell' = true := by
 intro u hu; simp [encEI] at hu; rcases hu with rfl | rfl <;> rfl
theorem zeroEdgeI : (Tryz.prog.info? 103).map (fun i => (i.zero, i.size, i.bytes)) = some (some (.agg #[.int .i64 0, .int .i64 0]), 2, 16) := by kernel_rfl
theorem zeroEdgeI2 : (Tryz.prog.info? 103).map (fun i => (i.zero.map (·.cells.size), i.size, i.bytes)) = some (some 2, 2, 16) := by kernel_rfl
theorem flatEI_len (l : List Edg) : (l.flatMap encEI).length = l.length * 2 := by
 induction l with
 | nil => rfl
 | cons x l ih => simp [ih, encEI]; omega
theorem flatEI_take (l : List Edg) (i : Nat) : (l.take i).flatMap encEI = (l.flatMap encEI).take (i * 2) := by
 induction l generalizing i with
 | nil => simp
 | cons x l ih =>
   cases i with
   | zero => simp
   | succ i =>
     simp only [List.take_succ_cons, List.flatMap_cons, ih]
     rw [List.take_append, encEI_len, show (i + 1) * 2 - 2 = i * 2 from by omega, List.take_of_length_le (l := encEI x) (by rw [encEI_len]; omega)]
theorem flatEI_drop (l : List Edg) (i : Nat) : (l.drop i).flatMap encEI = (l.flatMap encEI).drop (i * 2) := by
 induction l generalizing i with
 | nil => simp
 | cons x l ih =>
   cases i with
   | zero => simp
   | succ i =>
     simp only [List.drop_succ_cons, List.flatMap_cons, ih]
     rw [List.drop_append, encEI_len, show (i + 1) * 2 - 2 = i * 2 from by omega, List.drop_of_length_le (l := encEI x) (by rw [encEI_len]; omega), List.nil_append]
def InsPost (l : List Edg) (w : World) (v : Value) (e : Ending) (w' : World) : Prop :=
 ∃ v', e = .returned v' ∧ Sl 103 2 encEI w' v' l ∧ Tch v.ownBlock.toList w w' ∧ ∀ b ∈ v'.ownBlock.toList, b ∈ v.ownBlock.toList ∨ w.heap.size ≤ b
set_option maxRecDepth 100000 in
set_option maxHeartbeats 1000000 in
theorem insert_end (v : Value) (l : List Edg) (e : Edg) (w : World) (h : Sl 103 2 encEI w v l) (hl : l.length ≤ 4294967296) (vb vo vc : Nat) (hv : ∀ j u, (encEI e)[j]? = some u → w.cell? ⟨vb, vo + j, none⟩ = some u) :
  Calls Tryz.prog 194 #[v, .int .i64 l.length, .slice (some ⟨vb, vo, none⟩) 1 vc] w (InsPost (l ++ [e]) w v) := by
 have mixed := insMixed
 obtain ⟨v', w', hr, ho, ht, hb⟩ := run_append_slA (P := Tryz.prog) encEI_len encEI_one Tryz.underlying29 zeroEdgeI2 (by decide) h hl e (a := ⟨vb, vo, none⟩) (c := vc) (fun j u hu => by rw [Addr.add_lit]; exact hv j u hu) 29
 have HR := hid hr
 have HF : InsPost (l ++ [e]) w v (.returned v') w' := ⟨_, rfl, ho, ht, fun b hbm => by
  rcases hb with hb | hb
  ·rw [hb] at hbm; exact .inl hbm
  ·rw [hb] at hbm; simp at hbm; subst hbm; exact .inr (Nat.le_refl _)⟩
 rcases h.shape with ⟨rfl, rfl⟩ | ⟨g, cap, rfl, hc⟩
 ·clear h hv hr ho ht hb
  go_enter Tryz.func194, Tryz.ntmps194
  go_wp2_with (first | (at_builtin; refine wpList_plain rfl (fun K hK => ?_); refine wp_append rfl rfl rfl HR.out ?_; go_simp))
  go_ret
  exact HF
 ·clear h hv hr ho ht hb
  generalize l.length = n at *
  have hnc : ¬ (cap < n) := by omega
  go_enter Tryz.func194, Tryz.ntmps194
  go_wp2_with (first | (at_builtin; refine wpList_plain rfl (fun K hK => ?_); refine wp_append rfl rfl rfl HR.out ?_; go_simp))
  all_goals (go_ret; exact HF)
theorem insTch (w : World) (g : Nat) (cs : Array Value) : Tch [g] w (w.setRow g cs) := ⟨rfl, rfl, rfl, by simp [World.setRow], fun k _ hn => setRow_other w g k cs (by simpa using hn)⟩
theorem take_midI {α : Type} (L A M : List α) (a m : Nat) (hA : A.length = a) (hL : L.take a = A) (_hLl : a + M.length ≤ L.length) (hm : m = a + M.length) : (L.take a ++ M ++ L.drop (a + M.length)).take m = A ++ M := by
 subst hm
 rw [hL, List.take_append_of_le_length (by simp; omega), List.take_of_length_le (by simp; omega)]
theorem mid_lenI {α : Type} (L M : List α) (a : Nat) (h : a + M.length ≤ L.length) : (L.take a ++ M ++ L.drop (a + M.length)).length = L.length := by simp; omega
set_option maxRecDepth 100000 in
set_option maxHeartbeats 2000000 in
theorem insert_grow (g n i : Nat) (cur : Array Value) (l : List Edg) (e : Edg) (w : World) (hg : w.heap[g]? = some (.cells cur 103 (0, 0))) (htake : cur.toList.take (n * 2) = l.flatMap encEI) (hln : l.length = n) (hi : i < n) (hl : n ≤ 4294967296)
  (vb vo vc : Nat) (hv : ∀ j u, (encEI e)[j]? = some u → w.cell? ⟨vb, vo + j, none⟩ = some u) :
  Calls Tryz.prog 194 #[.slice (some ⟨g, 0, none⟩) n n, .int .i64 i, .slice (some ⟨vb, vo, none⟩) 1 vc] w (InsPost (l.take i ++ e :: l.drop i) w (.slice (some ⟨g, 0, none⟩) n n)) := by
 have mixed := insMixed
 obtain ⟨i0, hin, hz0, hz1, hz2⟩ := info_parts zeroEdgeI
 have hfl : (l.flatMap encEI).length = n * 2 := by rw [flatEI_len, hln]
 have hgl := (Array.getElem?_eq_some_iff.1 hg).1
 have hcells : ∀ j u, (l.flatMap encEI)[j]? = some u → w.cell? ⟨g, j, none⟩ = some u := fun j u hu => by
  rw [← htake, List.getElem?_take] at hu
  split at hu
  ·simp only [World.cell?, hg]; simpa using hu
  ·cases hu
 have hlt : ((l.take i).flatMap encEI).length = i * 2 := by rw [flatEI_len, List.length_take, hln]; omega
 have hld : ((l.drop i).flatMap encEI).length = (n - i) * 2 := by rw [flatEI_len, List.length_drop, hln]
 have hold : (Builtin.firstCells i0.size i (.slice (some ⟨g, 0, none⟩) i n)).run Tryz.prog w.drew = .ok ((l.take i).flatMap encEI).toArray w.drew := by
  rw [hz1]
  refine run_firstCells_some w.drew 2 i ⟨g, 0, none⟩ i n _ hlt (fun j u hj => ?_)
  rw [flatEI_take, List.getElem?_take] at hj
  rw [Addr.add_lit, Nat.zero_add]
  split at hj
  ·exact hcells j u hj
  ·cases hj
 have hin1 : i + (n + 1 - i) = n + 1 := by omega
 have hrz := Lib.run_append_grow_zeros (P := Tryz.prog) w 29 3 29 103 i0 _ .i64 .i64 Tryz.underlying29 Tryz.underlying3 hin hz0 (some ⟨g, 0, none⟩) i n _ hold (n + 1 - i) (by omega) (by omega) (by omega) (by omega) (by rw [hz2]; omega) (by rw [hin1, hz2]; exact growslice_fits (by omega) (by omega))
 rw [hin1] at hrz
 have hGn : n + 1 ≤ grownCap w (n + 1) n 103 := grownCap_ge w _ _ _
 have hGm : grownCap w (n + 1) n 103 ≤ maxLen := grownCap_le_maxLen w (n + 1) n _ (by unfold maxLen; omega)
 generalize grownCap w (n + 1) n 103 = G at *
 obtain ⟨ROW, hROW⟩ : ∃ R, R = ((l.take i).flatMap encEI).toArray ++ Builtin.zeroCells (Value.agg #[.int .i64 0, .int .i64 0]).cells (n + 1 - i) ++ Builtin.zeroCells (Value.agg #[.int .i64 0, .int .i64 0]).cells (G - (n + 1)) := ⟨_, rfl⟩
 rw [← hROW] at hrz
 have hR0 : ROW.size = G * 2 := by
  rw [hROW]
  simp only [Array.size_append, List.size_toArray, hlt, Builtin.zeroCells, Array.size_map, Array.size_range, Value.cells]
  simp only [List.length_cons, List.length_nil]
  omega
 have hR1 : ROW.toList.take (i * 2) = (l.take i).flatMap encEI := by
  rw [hROW]
  simp only [Array.toList_append]
  rw [List.append_assoc, List.take_append_of_le_length (by rw [hlt]; omega), List.take_of_length_le (by rw [hlt]; omega)]
 have hN : g ≠ w.heap.size := by omega
 obtain ⟨W1, hW1⟩ : ∃ W, W = w.drew.alloc (.cells ROW 103) := ⟨_, rfl⟩
 rw [← hW1] at hrz
 have hg1 : W1.heap[w.heap.size]? = some (.cells ROW 103 (0, 0)) := by rw [hW1]; show (w.drew.heap.push _)[w.drew.heap.size]? = _; exact Array.getElem?_push_size
 have hT1 : Tch [] w W1 := by rw [hW1]; exact (Tch.drew w []).trans0 (Tch.alloc _ _ _)
 obtain ⟨R2, hR2⟩ : ∃ R, R = (ROW.toList.take (i * 2) ++ encEI e ++ ROW.toList.drop (i * 2 + (encEI e).length)).toArray := ⟨_, rfl⟩
 have hs2 : R2.size = G * 2 := by rw [hR2, List.size_toArray, mid_lenI _ _ _ (by simp [hR0, encEI]; omega)]; simpa using hR0
 have ht2 : R2.toList.take ((i + 1) * 2) = (l.take i).flatMap encEI ++ encEI e := by
  rw [hR2]; exact take_midI _ _ _ _ _ hlt hR1 (by simp [hR0, encEI]; omega) (by simp [encEI]; omega)
 have hA : ∀ ty o dl dc, o = i * 2 → Nat.min 1 dl = 1 → (Builtin.copy_ #[29, 29] ty #[.slice (some ⟨w.heap.size, o, none⟩) dl dc, .slice (some ⟨vb, vo, none⟩) 1 vc]).run Tryz.prog W1 = .ok (goInt 1) (W1.setRow w.heap.size R2) := fun ty o dl dc ho hm => by
  have := run_copy_rowK (P := Tryz.prog) W1 29 29 ty 103 2 w.heap.size (i * 2) dl dc ⟨vb, vo, none⟩ 1 vc ROW _ (encEI e) Tryz.underlying29 (by rw [hin]; simp [hz1]) hg1 (by rw [hm]; rfl) (fun j u hj => by rw [Addr.add_lit]; exact hT1.cell (hv j u hj) (by simp)) (by rw [hR0]; simp [encEI]; omega) (encEI_one e)
  rw [hm, ← hR2] at this
  rw [ho]; exact this
 have hg2 := setRow_heap W1 w.heap.size ROW R2 _ (0, 0) hg1
 have hT2 : Tch [] w (W1.setRow w.heap.size R2) := hT1.trans (insTch W1 w.heap.size R2) (by simp) (fun x hx => .inr (by simp at hx; omega))
 generalize W1.setRow w.heap.size R2 = W2 at hA hg2 hT2
 obtain ⟨R3, hR3⟩ : ∃ R, R = (R2.toList.take ((i + 1) * 2) ++ (l.drop i).flatMap encEI ++ R2.toList.drop ((i + 1) * 2 + ((l.drop i).flatMap encEI).length)).toArray := ⟨_, rfl⟩
 have hs3 : R3.size = G * 2 := by rw [hR3, List.size_toArray, mid_lenI _ _ _ (by simp only [Array.length_toList, hs2, hld]; omega)]; simpa using hs2
 have ht3 : R3.toList.take ((n + 1) * 2) = (l.take i ++ e :: l.drop i).flatMap encEI := by
  rw [List.flatMap_append, List.flatMap_cons, ← List.append_assoc, hR3]
  exact take_midI _ _ _ _ _ (by rw [List.length_append, hlt]; simp [encEI]; omega) ht2 (by simp only [Array.length_toList, hs2, hld]; omega) (by rw [hld]; omega)
 have hB : ∀ W, Tch [] W2 W → ∀ ty o dl dc so sl sc, o = (i + 1) * 2 → so = i * 2 → Nat.min sl dl = n - i → (Builtin.copy_ #[29, 29] ty #[.slice (some ⟨w.heap.size, o, none⟩) dl dc, .slice (some ⟨g, so, none⟩) sl sc]).run Tryz.prog W = .ok (goInt (n - i : Nat)) (W.setRow w.heap.size R3) := fun W hW ty o dl dc so sl sc ho hso hm => by
  have hgW : W.heap[w.heap.size]? = some (.cells R2 103 (0, 0)) := by rw [hW.blk _ (Array.getElem?_eq_some_iff.1 hg2).1 (by simp)]; exact hg2
  have := run_copy_rowK (P := Tryz.prog) W 29 29 ty 103 2 w.heap.size ((i + 1) * 2) dl dc ⟨g, i * 2, none⟩ sl sc R2 _ ((l.drop i).flatMap encEI) Tryz.underlying29 (by rw [hin]; simp [hz1]) hgW (by rw [hm, hld])
   (fun j u hj => by rw [Addr.add_lit]; rw [flatEI_drop, List.getElem?_drop] at hj; exact (hT2.trans0 hW).cell (hcells _ u hj) (by simp)) (by rw [hs2, hld]; omega) (fun u hu => by obtain ⟨x, _, hx⟩ := List.mem_flatMap.1 hu; exact encEI_one x u hx)
  rw [hm, ← hR3] at this
  rw [ho, hso]; exact this
 have hF : ∀ W, Tch [] W2 W → InsPost (l.take i ++ e :: l.drop i) w (.slice (some ⟨g, 0, none⟩) n n) (.returned (.slice (some ⟨w.heap.size, 0, none⟩) (n + 1) G)) (W.setRow w.heap.size R3) := fun W hW => by
  have hgW : W.heap[w.heap.size]? = some (.cells R2 103 (0, 0)) := by rw [hW.blk _ (Array.getElem?_eq_some_iff.1 hg2).1 (by simp)]; exact hg2
  have hll : (l.take i ++ e :: l.drop i).length = n + 1 := by simp [hln]; omega
  refine ⟨_, rfl, ?_, ((hT2.trans0 hW).trans (insTch W w.heap.size R3) (by simp) (fun x hx => .inr (by simp at hx; omega))), fun b hb => .inr (by simp [Value.ownBlock] at hb; omega)⟩
  unfold Sl
  rw [hll]
  exact ⟨by rw [flatEI_len, hll], .inr ⟨_, G, R3, rfl, Nat.zero_le _, setRow_heap W _ R2 R3 _ (0, 0) hgW, hGn, hGm, hs3, ht3⟩⟩
 have hwi : ∀ z : Int, z = ((n + 1 - i : Nat) : Int) → (Builtin.append_ #[29, 3] 29 #[.slice (some ⟨g, 0, none⟩) i n, .int .i64 z]).run Tryz.prog w = .ok (.slice (some ⟨w.heap.size, 0, none⟩) (n + 1) G) W1 := fun z hz => by rw [hz]; exact hrz
 have HZ := hid hwi
 have HA := hid hA
 have HB := hid hB
 have HF := hid hF
 have h1 : ¬ ((i : Int) = (n : Int)) := by omega
 have h2 : (n : Int) < (n : Int) + 1 := by omega
 have h3 : i ≤ n := by omega
 have h5 : ¬ (n = i) := by omega
 have h6 : ¬ (G = i) := by omega
 have h7 : ¬ (G = i + 1) := by omega
 have h8 : i ≤ n + 1 := by omega
 have h9 : (i : Int) ≤ (n : Int) := by omega
 have h10 : (i : Int) ≤ (n : Int) + 1 := by omega
 clear hg htake hln hv hin hz0 hz1 hz2 hfl hcells hlt hld hold hrz hROW hR0 hR1 hW1 hg1 hT1 hR2 hs2 ht2 hg2 hT2 hR3 hs3 ht3 hA hB hF hwi
 go_enter Tryz.func194, Tryz.ntmps194
 go_wp2_with (first | (at_builtin; refine wpList_plain rfl (fun K hK => ?_); refine wp_append rfl rfl rfl (HZ.out _ (by omega)) ?_; go_simp) | (refine wpList_copy_runI _ rfl _ _ 29 29 rfl _ _ rfl rfl (HA.out _ _ _ _ (by omega) (by simp only [Nat.min_def]; split <;> omega)) ?_; go_simp))
 refine wp_region_g [] [0, 0, 0, 0, 0, 0, 0, 0, 3] [0, 1, 2, 3, 4, 5, 6, 7, 8] [0, 0, 0, 6, 15, 0, 0, 96, 255] insMixed (by kernel_rfl) ?_
 intro w1 hT
 have HT := hid hT
 clear hT
 go_wp2_with (first | (refine wpT_pure rfl rfl rfl rfl (fun _ _ => ?_)))
 refine wpT_one rfl rfl rfl (fun K hK => ?_)
 refine wp_copy_runI _ _ _ 29 29 rfl _ _ rfl rfl (HB.out w1 HT.out _ _ _ _ _ _ _ (by omega) (by omega) (by simp only [Nat.min_def]; split <;> omega)) ?_
 have HFF := hid (HF.out w1 HT.out)
 go_simp
 go_wp2_with (first | (refine wpT_pure rfl rfl rfl rfl (fun _ _ => ?_)) | refine wpT_nil ?_)
 go_ret
 exact HFF.out
set_option maxRecDepth 100000 in
set_option maxHeartbeats 2000000 in
theorem insert_shift (g n i cap : Nat) (cur : Array Value) (l : List Edg) (e : Edg) (w : World) (hg : w.heap[g]? = some (.cells cur 103 (0, 0))) (hcs : cur.size = cap * 2) (htake : cur.toList.take (n * 2) = l.flatMap encEI) (hln : l.length = n) (hi : i < n) (hl : n ≤ 4294967296) (hroom : n + 1 ≤ cap) (hcm : cap ≤ maxLen)
  (vb vo vc : Nat) (hvb : vb ≠ g) (hv : ∀ j u, (encEI e)[j]? = some u → w.cell? ⟨vb, vo + j, none⟩ = some u) :
  Calls Tryz.prog 194 #[.slice (some ⟨g, 0, none⟩) n cap, .int .i64 i, .slice (some ⟨vb, vo, none⟩) 1 vc] w (InsPost (l.take i ++ e :: l.drop i) w (.slice (some ⟨g, 0, none⟩) n cap)) := by
 have mixed := insMixed
 obtain ⟨i0, hin, hz0, hz1, hz2⟩ := info_parts zeroEdgeI
 have hfl : (l.flatMap encEI).length = n * 2 := by rw [flatEI_len, hln]
 have hgl := (Array.getElem?_eq_some_iff.1 hg).1
 have hcells : ∀ j u, (l.flatMap encEI)[j]? = some u → w.cell? ⟨g, j, none⟩ = some u := fun j u hu => by
  rw [← htake, List.getElem?_take] at hu
  split at hu
  ·simp only [World.cell?, hg]; simpa using hu
  ·cases hu
 have hlt : ((l.take i).flatMap encEI).length = i * 2 := by rw [flatEI_len, List.length_take, hln]; omega
 have hld : ((l.drop i).flatMap encEI).length = (n - i) * 2 := by rw [flatEI_len, List.length_drop, hln]
 have hT1 : ∀ W, Tch [] w W → W.heap[g]? = some (.cells cur 103 (0, 0)) := fun W hW => by rw [hW.blk _ hgl (by simp)]; exact hg
 obtain ⟨R2, hR2⟩ : ∃ R, R = (cur.toList.take ((i + 1) * 2) ++ (l.drop i).flatMap encEI ++ cur.toList.drop ((i + 1) * 2 + ((l.drop i).flatMap encEI).length)).toArray := ⟨_, rfl⟩
 have hs2 : R2.size = cap * 2 := by rw [hR2, List.size_toArray, mid_lenI _ _ _ (by simp only [Array.length_toList, hcs, hld]; omega)]; simpa using hcs
 have ht2 : R2.toList.take (i * 2) = (l.take i).flatMap encEI := by
  rw [hR2, flatEI_take, ← htake]
  simp only [List.append_assoc]
  rw [List.take_append_of_le_length (by simp [hcs]; omega), List.take_take, List.take_take]
  congr 1; omega
 have hd2 : R2.toList.drop (i * 2 + (encEI e).length) = (l.drop i).flatMap encEI ++ cur.toList.drop ((i + 1) * 2 + ((l.drop i).flatMap encEI).length) := by
  rw [hR2]
  simp only [List.append_assoc]
  rw [List.drop_append_of_le_length (by simp [hcs, encEI]; omega), List.drop_of_length_le (by simp [hcs, encEI]; omega), List.nil_append]
 obtain ⟨R3, hR3⟩ : ∃ R, R = (R2.toList.take (i * 2) ++ encEI e ++ R2.toList.drop (i * 2 + (encEI e).length)).toArray := ⟨_, rfl⟩
 have hs3 : R3.size = cap * 2 := by rw [hR3, List.size_toArray, mid_lenI _ _ _ (by simp only [Array.length_toList, hs2]; simp [encEI]; omega)]; simpa using hs2
 have ht3 : R3.toList.take ((n + 1) * 2) = (l.take i ++ e :: l.drop i).flatMap encEI := by
  rw [List.flatMap_append, List.flatMap_cons, hR3, hd2, ht2]
  simp only [← List.append_assoc]
  rw [List.take_append_of_le_length (by simp only [List.length_append, hlt, hld]; simp [encEI]; omega), List.take_of_length_le (by simp only [List.length_append, hlt, hld]; simp [encEI]; omega)]
 have hB : ∀ W, Tch [] w W → ∀ ty o dl dc so sl sc, o = (i + 1) * 2 → so = i * 2 → Nat.min sl dl = n - i → (Builtin.copy_ #[29, 29] ty #[.slice (some ⟨g, o, none⟩) dl dc, .slice (some ⟨g, so, none⟩) sl sc]).run Tryz.prog W = .ok (goInt (n - i : Nat)) (W.setRow g R2) := fun W hW ty o dl dc so sl sc ho hso hm => by
  have := run_copy_rowK (P := Tryz.prog) W 29 29 ty 103 2 g ((i + 1) * 2) dl dc ⟨g, i * 2, none⟩ sl sc cur _ ((l.drop i).flatMap encEI) Tryz.underlying29 (by rw [hin]; simp [hz1]) (hT1 W hW) (by rw [hm, hld])
   (fun j u hj => by rw [Addr.add_lit]; rw [flatEI_drop, List.getElem?_drop] at hj; exact hW.cell (hcells _ u hj) (by simp)) (by rw [hcs, hld]; omega) (fun u hu => by obtain ⟨x, _, hx⟩ := List.mem_flatMap.1 hu; exact encEI_one x u hx)
  rw [hm, ← hR2] at this
  rw [ho, hso]; exact this
 have hA : ∀ W, Tch [] w W → ∀ ty o dl dc, o = i * 2 → Nat.min 1 dl = 1 → (Builtin.copy_ #[29, 29] ty #[.slice (some ⟨g, o, none⟩) dl dc, .slice (some ⟨vb, vo, none⟩) 1 vc]).run Tryz.prog (W.setRow g R2) = .ok (goInt 1) ((W.setRow g R2).setRow g R3) := fun W hW ty o dl dc ho hm => by
  have := run_copy_rowK (P := Tryz.prog) (W.setRow g R2) 29 29 ty 103 2 g (i * 2) dl dc ⟨vb, vo, none⟩ 1 vc R2 _ (encEI e) Tryz.underlying29 (by rw [hin]; simp [hz1]) (setRow_heap W g cur R2 _ (0, 0) (hT1 W hW)) (by rw [hm]; rfl) (fun j u hj => by rw [Addr.add_lit]; exact (hW.ahead0 (insTch W g R2)).cell (hv j u hj) (by simpa using hvb)) (by rw [hs2]; simp [encEI]; omega) (encEI_one e)
  rw [hm, ← hR3] at this
  rw [ho]; exact this
 have hF : ∀ W, Tch [] w W → InsPost (l.take i ++ e :: l.drop i) w (.slice (some ⟨g, 0, none⟩) n cap) (.returned (.slice (some ⟨g, 0, none⟩) (n + 1) cap)) ((W.setRow g R2).setRow g R3) := fun W hW => by
  have hll : (l.take i ++ e :: l.drop i).length = n + 1 := by simp [hln]; omega
  refine ⟨_, rfl, ?_, (hW.ahead0 (insTch W g R2)).trans0 (insTch _ g R3), fun b hb => .inl hb⟩
  unfold Sl
  rw [hll]
  exact ⟨by rw [flatEI_len, hll], .inr ⟨_, cap, R3, rfl, Nat.zero_le _, setRow_heap _ _ R2 R3 _ (0, 0) (setRow_heap W g cur R2 _ (0, 0) (hT1 W hW)), hroom, hcm, hs3, ht3⟩⟩
 have hov : ∀ lb cb, (callFunc 236 #[.slice (some ⟨vb, vo, none⟩) 1 vc, .slice (some ⟨g, (i + 1) * 2, none⟩) lb cb]).run Tryz.prog w = .ok (.value (.bool false)) w := fun lb cb => by
  have hc0 := hv 0 _ rfl
  unfold World.cell? at hc0
  have hsome : ∃ cA tA frA, w.heap[vb]? = some (.cells cA tA frA) ∧ cA.size ≠ 0 := by
   cases hh : w.heap[vb]? with
   | none => simp [hh] at hc0
   | some o =>
     cases o with
     | cells c t fr =>
       refine ⟨c, t, fr, rfl, fun h0 => ?_⟩
       simp only [hh] at hc0
       simp at hc0
       have := (Array.getElem?_eq_some_iff.1 hc0).1
       omega
     | _ => simp [hh] at hc0
  obtain ⟨cA, tA, frA, ha, hA0⟩ := hsome
  rw [run_callFunc_extern Tryz.func236 (by kernel_rfl) (by kernel_rfl) (by kernel_rfl) (e := Extern.SlicesOverlaps.overlaps #[29, 29] #[4]) (by kernel_rfl),
   run_overlaps_own w 29 4 103 Tryz.underlying29 2 (fun w => by kernel_rfl) ⟨vb, vo, none⟩ ⟨g, (i + 1) * 2, none⟩ 1 vc lb cb hvb ha hg hA0 (by omega)]
  rfl
 have HA := hid hA
 have HB := hid hB
 have HF := hid hF
 have h1 : ¬ ((i : Int) = (n : Int)) := by omega
 have h2 : ¬ ((cap : Int) < (n : Int) + 1) := by omega
 have h3 : i ≤ n := by omega
 have h5 : ¬ (cap = i) := by omega
 have h7 : ¬ (cap = i + 1) := by omega
 have h8 : i ≤ n + 1 := by omega
 have h9 : (i : Int) ≤ (n : Int) := by omega
 have h10 : (i : Int) ≤ (n : Int) + 1 := by omega
 have hcm' : cap ≤ 9223372036854775807 := by unfold maxLen at hcm; omega
 clear hg hcs htake hln hv hin hz0 hz1 hz2 hfl hcells hlt hld hT1 hR2 hs2 ht2 hd2 hR3 hs3 ht3 hA hB hF hcm
 go_enter Tryz.func194, Tryz.ntmps194
 go_wp2_with (simp only [hov])
 refine wp_region_g [] [0, 0, 0, 0, 0, 0, 0, 0, 3] [0, 1, 2, 3, 4, 5, 6, 7, 8] [0, 0, 0, 6, 15, 0, 0, 96, 255] insMixed (by kernel_rfl) ?_
 intro w1 hT
 have HT := hid hT
 clear hT
 go_wp2_with (first | (refine wpT_pure rfl rfl rfl rfl (fun _ _ => ?_)))
 refine wpT_one rfl rfl rfl (fun K hK => ?_)
 refine wp_copy_runI _ _ _ 29 29 rfl _ _ rfl rfl (HB.out w1 HT.out _ _ _ _ _ _ _ (by omega) (by omega) (by simp only [Nat.min_def]; split <;> omega)) ?_
 have HFF := hid (HF.out w1 HT.out)
 have HAA := hid (HA.out w1 HT.out)
 go_simp
 go_wp2_with (first | (refine wpT_pure rfl rfl rfl rfl (fun _ _ => ?_)) | refine wpT_nil ?_ | (refine wpList_copy_runI _ rfl _ _ 29 29 rfl _ _ rfl rfl (HAA.out _ _ _ _ (by omega) (by simp only [Nat.min_def]; split <;> omega)) ?_))
 go_ret
 exact HFF.out
theorem insert_ok (v : Value) (l : List Edg) (e : Edg) (i : Nat) (hi : i ≤ l.length) (w : World) (h : Sl 103 2 encEI w v l) (hl : l.length ≤ 4294967296) (vb vo vc : Nat) (hvb : vb ∉ v.ownBlock.toList) (hv : ∀ j u, (encEI e)[j]? = some u → w.cell? ⟨vb, vo + j, none⟩ = some u) :
  Calls Tryz.prog 194 #[v, .int .i64 i, .slice (some ⟨vb, vo, none⟩) 1 vc] w (InsPost (l.take i ++ e :: l.drop i) w v) := by
 by_cases hin : i = l.length
 ·subst hin
  rw [List.take_length, List.drop_length]
  exact insert_end v l e w h hl vb vo vc hv
 ·rcases h.2 with ⟨rfl, hl0⟩ | ⟨g, cap, cur, rfl, _, hg, hnc, hcm, hcs, htake⟩
  ·omega
  ·by_cases hroom : l.length + 1 ≤ cap
   ·exact insert_shift g l.length i cap cur l e w hg hcs htake rfl (by omega) hl hroom hcm vb vo vc (by simpa [Value.ownBlock] using hvb) hv
   ·have hc : cap = l.length := by omega
    subst hc
    exact insert_grow g l.length i cur l e w hg htake rfl (by omega) hl vb vo vc hv
end Go.Proofs.YtjejpdfldmempaaGreatDoor
end
