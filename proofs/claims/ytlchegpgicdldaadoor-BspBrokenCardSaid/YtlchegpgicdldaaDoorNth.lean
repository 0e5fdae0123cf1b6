/- The order of letters: cmp.Compare, cmp.Or, the closure that Inbox hands to the sort. Inbox. The laws' calls: Do. -/
import Derived.Test.YtlchegpgicdldaaDoorNte
import Derived.Test.YtlchegpgicdldaaDoorLay
import Derived.Test.YtlchegpgicdldaaDoorRng
import Derived.Test.YtlchegpgicdldaaDoorSrt
import Derived.Test.YtlchegpgicdldaaDoorPut
namespace Go.Proofs.YtlchegpgicdldaaDoor
open Go.RowKit Go.Reg

def cmpI (a b : Int) : Int := if a < b then -1 else if b < a then 1 else 0
def orI (a b : Int) : Int := if a = 0 then b else a
def cmpL (x y : Letter) : Int := orI (cmpI x.src y.src) (cmpI x.seq y.seq)

set_option maxRecDepth 100000 in
theorem isNaN_ok (a : Int) (w : World) : Calls Tryd.prog 63 #[.int .i64 a] w fun e w' => e = .returned (.bool false) ∧ w = w' := by
  have h : (a != a) = false := by simp
  go_enter Tryd.func63, Tryd.ntmps63
  go_wp2_with fail
  go_ret
  exact ⟨rfl, rfl⟩

set_option maxRecDepth 100000 in
theorem compare_ok (a b : Int) (w : World) : Calls Tryd.prog 54 #[.int .i64 a, .int .i64 b] w fun e w' => e = .returned (.int .i64 (cmpI a b)) ∧ w = w' := by
  by_cases h1 : a < b
  · have e1 : cmpI a b = -1 := by simp [cmpI, h1]
    rw [e1]
    clear e1
    go_enter Tryd.func54, Tryd.ntmps54
    go_wp2_with (go_at_call 63; refine (isNaN_ok _ _).mono ?_; rintro e w' ⟨rfl, rfl⟩)
    go_ret
    exact ⟨rfl, rfl⟩
  · by_cases h2 : b < a
    · have e1 : cmpI a b = 1 := by simp [cmpI, h1, h2]
      rw [e1]
      clear e1
      go_enter Tryd.func54, Tryd.ntmps54
      go_wp2_with (go_at_call 63; refine (isNaN_ok _ _).mono ?_; rintro e w' ⟨rfl, rfl⟩)
      go_ret
      exact ⟨rfl, rfl⟩
    · have e1 : cmpI a b = 0 := by simp [cmpI, h1, h2]
      rw [e1]
      clear e1
      go_enter Tryd.func54, Tryd.ntmps54
      go_wp2_with (go_at_call 63; refine (isNaN_ok _ _).mono ?_; rintro e w' ⟨rfl, rfl⟩)
      go_ret
      exact ⟨rfl, rfl⟩

set_option maxRecDepth 100000 in
theorem or_ok (s : Nat) (a b : Int) (w : World) (c0 : w.cell? ⟨s, 0, none⟩ = some (.int .i64 a)) (c1 : w.cell? ⟨s, 1, none⟩ = some (.int .i64 b)) :
    Calls Tryd.prog 53 #[.slice (some ⟨s, 0, none⟩) 2 2] w fun e w' => e = .returned (.int .i64 (orI a b)) ∧ w = w' := by
  by_cases ha : a = 0
  · subst ha
    have e1 : orI 0 b = b := by simp [orI]
    rw [e1]
    clear e1
    have b0 : ((0 : Int) != 0) = false := by simp
    by_cases hb : b = 0
    · subst hb
      go_enter Tryd.func53, Tryd.ntmps53
      go_wp2_with fail
      refine wp_loop_rounds 3 ?_
      rw [rounds_succ]
      go_wp2_with fail
      rw [rounds_succ]
      go_wp2_with fail
      rw [rounds_succ]
      go_wp2_with fail
      go_ret
      exact ⟨rfl, rfl⟩
    · have hb' : (b != 0) = true := by simpa using hb
      clear hb
      go_enter Tryd.func53, Tryd.ntmps53
      go_wp2_with fail
      refine wp_loop_rounds 2 ?_
      rw [rounds_succ]
      go_wp2_with fail
      rw [rounds_succ]
      go_wp2_with fail
      go_ret
      exact ⟨rfl, rfl⟩
  · have e1 : orI a b = a := by simp [orI, ha]
    rw [e1]
    have ha' : (a != 0) = true := by simpa using ha
    clear e1 ha
    go_enter Tryd.func53, Tryd.ntmps53
    go_wp2_with fail
    refine wp_loop_rounds 1 ?_
    rw [rounds_succ]
    go_wp2_with fail
    go_ret
    exact ⟨rfl, rfl⟩

theorem cell_new (w : World) (cs : Array Value) (T : TypeId) {s i : Nat} {v : Value} (hs : s = w.heap.size) (h : cs[i]? = some v) : (w.alloc (.cells cs T)).drew.cell? ⟨s, i, none⟩ = some v := by
  subst hs
  simp [h]

open Go.Sort Go.Proofs in
set_option maxRecDepth 100000 in
set_option maxHeartbeats 1000000 in
theorem closure_ok (x y : Letter) (W : World) : Calls Tryd.prog 52 #[valL x, valL y] W fun e w' => e = .returned (.int .i64 (cmpL x y)) ∧ ∃ q os', w' = grow (W.drewN q) os' := by
  unfold valL
  go_enter Tryd.func52, Tryd.ntmps52
  go_wp2_with fail
  refine wp_region_t [54] [0, 1, 0, 1, 2, 0, 1, 0, 1, 2, 6, 3, 0] [0, 2, 5, 7, 1, 3, 6, 8, 4, 9, 10, 11, 12] [0, 1, 0, 4, 15, 0, 32, 0, 128, 511, 1023, 2047, 4095] mixed (by kernel_rfl) ?_
  go_wp2_with (first | (refine wpT_pure rfl rfl rfl rfl (fun _ _ => ?_)) | (refine wpT_look rfl rfl rfl (fun _ _ => ?_)))
  refine wpT_call rfl rfl rfl (fun K1 hK1 => ?_)
  go_wp2_with (go_at_call 54; refine (compare_ok _ _ _).mono ?_; rintro e w' ⟨rfl, rfl⟩)
  refine hK1 _ _ (Ext.refl _) ?_
  go_wp2_with (first | (refine wpT_pure rfl rfl rfl rfl (fun _ _ => ?_)) | (refine wpT_look rfl rfl rfl (fun _ _ => ?_)))
  refine wpT_call rfl rfl rfl (fun K2 hK2 => ?_)
  go_wp2_with (go_at_call 54; refine (compare_ok _ _ _).mono ?_; rintro e w' ⟨rfl, rfl⟩)
  refine hK2 _ _ (Ext.refl _) ?_
  go_wp2_with (first | (refine wpT_pure rfl rfl rfl rfl (fun _ _ => ?_)) | (refine wpT_look rfl rfl rfl (fun _ _ => ?_)))
  refine wpT_one rfl rfl rfl (fun K3 hK3 => ?_)
  go_wp2_with fail
  refine (or_ok _ _ _ _ (cell_new _ _ _ (by simp) rfl) (cell_new _ _ _ (by simp) rfl)).mono ?_
  rintro e w' ⟨rfl, rfl⟩
  refine hK3 _ _ ?_
  go_wp2_with (first | (refine wpT_pure rfl rfl rfl rfl (fun _ _ => ?_)) | (refine wpT_look rfl rfl rfl (fun _ _ => ?_)) | refine wpT_nil ?_)
  go_ret
  exact ⟨rfl, 1, _, by rw [alloc_eq_grow, alloc_eq_grow, alloc_eq_grow, grow_grow, grow_grow]; rfl⟩
end Go.Proofs.YtlchegpgicdldaaDoor

namespace Go.Proofs.YtlchegpgicdldaaDoor
open Go.RowKit Go.Reg

instance : Inhabited Letter := ⟨⟨0, 0, 0, ⟨#[]⟩⟩⟩

theorem cmpL_lt (x y : Letter) : cmpL x y < 0 ↔ x.src < y.src ∨ (x.src = y.src ∧ x.seq < y.seq) := by
  unfold cmpL orI cmpI
  repeat' split <;> omega

open Go.Sort in
theorem cmpL_swo : SWO (ltOf cmpL) where
  irrefl x := by simp [ltOf, cmpL_lt]
  trans x y z h1 h2 := by simp only [ltOf, decide_eq_true_eq, cmpL_lt] at *; omega
  ntrans x y z h1 h2 := by simp only [ltOf, decide_eq_false_iff_not, cmpL_lt] at *; omega

open Go.Sort in
theorem sort_ok (v : Value) (l : List Letter) (w : World) (h : Sl 84 4 encL w v l) (hl : l.length ≤ 4294967296) :
    Calls Tryd.prog 51 #[v, .func (.func 52) #[] #[]] w fun e w' => e = .returned (.tuple #[]) ∧ ∃ out, Sl 84 4 encL w' v out ∧ out.Perm l ∧
      out.Pairwise (fun a b => ¬ cmpL b a < 0) ∧ Tch v.ownBlock.toList w w' := by
  rcases h.shape with ⟨rfl, rfl⟩ | ⟨g, cap, rfl, hc⟩
  · refine (AnyF.slices_SortFunc_none Tryd.sortL none 0 _ w).mono ?_
    rintro e w' ⟨rfl, rfl⟩
    exact ⟨rfl, [], h, List.Perm.refl _, List.Pairwise.nil, Tch.refl _ _⟩
  · refine (AnyQ.slices_SortFunc Tryd.sortL 4 Tryd.isAgg84 Tryd.sizeOf84 encL (fun _ => rfl) encL_one cmpL cmpL_swo 52 #[] g 0 cap l.toArray w
      (enters_of Tryd.func52 (by kernel_rfl) rfl) (fun m os dk hs x y => closure_ok x y _) (h.holdsK encL_len (by decide)) (h.lt rfl) (by simp; omega)).mono ?_
    rintro e w' ⟨rfl, d, n, os, hp, hs, rfl⟩
    obtain ⟨hp1, hp2, hp3⟩ := hp
    have hd : d.size = l.length := by simpa using hp1
    obtain ⟨hS, hT⟩ := h.sorted encL_len (by decide) d hd n os
    refine ⟨rfl, d.toList, hS, ?_, ?_, hT⟩
    · have e1 : d.extract 0 l.toArray.size = d := by rw [← hp1]; exact Array.extract_size
      have e2 : l.toArray.extract 0 l.toArray.size = l.toArray := Array.extract_size
      rw [e1, e2] at hp3
      exact hp3
    · rw [List.pairwise_iff_getElem]
      intro i j hi hj hij
      have hj' : j < l.length := by rw [← hd]; simpa using hj
      have hi' : i < l.length := by omega
      have := hs i j (Nat.zero_le _) hij (by simpa using hj')
      rw [getElem!_pos d j (by omega), getElem!_pos d i (by omega)] at this
      simpa [ltOf] using this

def pick (v : Int) (l : List ((Int × Int × Int) × Letter)) : List Letter := (l.filter (fun p => p.2.dst == v)).map (·.2)

set_option maxRecDepth 100000 in
theorem inbox_nil (v : Int) (w : World) : Calls Tryd.prog 39 #[.pointer none, .int .i64 v] w fun e w' => e = .returned (.slice none 0 0) ∧ w = w' := by
  go_enter Tryd.func39, Tryd.ntmps39
  go_wp2
  go_ret
  exact ⟨rfl, rfl⟩

set_option maxRecDepth 100000 in
set_option maxHeartbeats 1000000 in
theorem inbox_ok (p : Nat) (N : NetM) (F : List Nat) (v : Int) (w : World) (h : NetAt w p N F) (hl : N.came.length ≤ 4294967296) :
    Calls Tryd.prog 39 #[.pointer (some ⟨p, 0, none⟩), .int .i64 v] w fun e w' => ∃ v' out, e = .returned v' ∧ Sl 84 4 encL w' v' out ∧ (∀ b, v'.ownBlock = some b → w.heap.size ≤ b) ∧ Tch [] w w' ∧
      out.Perm (pick v N.came) ∧ out.Pairwise (fun a b => ¬ cmpL b a < 0) := by
  obtain ⟨bs, bc, fl, h1, h2, h3, h4, h5, hF⟩ := h
  have c4 := h1.cell (i := 4) rfl
  obtain ⟨wI, hR, hI, hT⟩ := h3.range (P := Tryd.prog) (t := 97) Tryd.underlying97
  have HR := hid hR
  have HI := hid hI
  have HT := hid hT
  have HC := hid hl
  clear h1 h2 h3 h4 h5 hF hR hI hT hl
  go_enter Tryd.func39, Tryd.ntmps39
  go_wp2_with (at_range; refine wpList_plain rfl (fun K hK => ?_); refine wp_val (run_val HR.out) ?_; go_simp)
  go_loopg [5] N.came.length (fun g v5 wr => Hid (∃ todo out, g = todo.length ∧ IterAt encStamp valL wr w.heap.size bc N.came todo ∧ Sl 84 4 encL wr v5 out ∧ (∀ b, v5.ownBlock = some b → w.heap.size < b) ∧ Tch [] w wr ∧
    (out ++ pick v todo).Perm (pick v N.came)))
  case atStart => exact hid ⟨N.came, [], rfl, HI.out, Sl.nil _ _ _ _, by simp [Value.ownBlock], HT.out, by simp⟩
  case round =>
    obtain ⟨todo, out, rfl, hit, hsl, hge, ht, hperm⟩ := hrel.out
    rcases hit.next (P := Tryd.prog) 0 with ⟨h0, hn⟩ | ⟨q, todo', w1, hp1, hn, hon, htn⟩
    · have HN := hid hn
      have hlen : out.length ≤ 4294967296 := by
        have h1 := hperm.length_eq
        have h2 : (pick v N.came).length ≤ N.came.length := by simp [pick]; exact List.length_filter_le _ _
        have h3 := HC.out
        simp at h1; omega
      have HS := hid (sort_ok u5 out wr hsl hlen)
      have HG := hid hge
      have HP := hid hperm
      have HTr := hid ht
      have H0 := hid h0
      clear hn hsl hge hperm ht hit h0 hlen hrel
      go_wp2_with (first
        | (at_next; refine wpList_plain rfl (fun K hK => ?_); refine wp_val (run_val HN.out) ?_; go_simp)
        | (go_at_call 51; refine HS.out.mono ?_; rintro e w' ⟨rfl, out', hs1, hs2, hs3, hs4⟩; replace hs1 := hid hs1; replace hs2 := hid hs2; replace hs3 := hid hs3; replace hs4 := hid hs4))
      go_ret
      have hp := HP.out
      rw [H0.out] at hp
      simp [pick] at hp
      refine ⟨_, rfl, out', hs1.out, fun b hb => Nat.le_of_lt (HG.out b hb), HTr.out.trans hs4.out (fun _ h => h) (fun x hx => .inr (Nat.le_of_lt (HG.out x (by simpa using hx)))), hs2.out.trans hp, hs3.out⟩
    · have HN := hid hn
      have HE := hon.entry (P := Tryd.prog)
      have HO := hid hon
      have HS := hid hsl
      have HG := hid hge
      have HP := hid hperm
      have HT1 := hid (ht.trans htn (T := []) (by simp) (fun x hx => .inr (by simp at hx; omega)))
      have HP1 := hid hp1
      obtain ⟨key, x⟩ := q
      simp only [valL] at HE
      by_cases hd : x.dst = v
      · subst hd
        have HA := hid ((Tch.alloc w1 (.cells #[.int .i64 x.src, .int .i64 x.dst, .int .i64 x.seq, .string x.text] 84) []).andAlloc (.cells #[.int .i64 x.src, .int .i64 x.dst, .int .i64 x.seq, .string x.text] 84))
        have hlen : out.length ≤ 4294967296 := by
          have h1 := hperm.length_eq
          have h2 : (pick x.dst N.came).length ≤ N.came.length := by simp [pick]; exact List.length_filter_le _ _
          have h3 := HC.out
          simp at h1; omega
        have hr0 := hon.iter.lt
        have hr1 := hit.lt
        have HM := hid hit.mapAt
        obtain ⟨v2, w2, hr, hs2, ht2, hob⟩ := run_append_sl (P := Tryd.prog) encL_len encL_one Tryd.underlying78 (bytes := 40) (by kernel_rfl) rfl ((hsl.keep htn (fun b hb hm => by have := hge b hb; simp at hm; omega)).keep HA.out (by simp)) hlen x (c := 1) (Blk.new (w1.alloc (.cells #[.int .i64 x.src, .int .i64 x.dst, .int .i64 x.seq, .string x.text] 84)) 84 (encL x)) 78
        rw [show (w1.alloc (.cells #[.int .i64 x.src, .int .i64 x.dst, .int .i64 x.seq, .string x.text] 84)).heap.size = w1.heap.size + 1 by simp] at hr
        have HR2 := hid hr
        have HS2 := hid hs2
        have HT2 := hid (HA.out.ahead0 ht2)
        have HOB := hid hob
        have HL := hid (show w.heap.size ≤ wr.heap.size ∧ wr.heap.size ≤ w1.heap.size from ⟨ht.size, htn.size⟩)
        clear hn hsl hge hperm ht hit hrel hon htn hp1 hlen hr hs2 ht2 hob hr0 hr1
        go_wp2_with (first
          | (at_next; refine wpList_plain rfl (fun K hK => ?_); refine wp_val (run_val HN.out) ?_; go_simp)
          | (at_builtin; refine wpList_plain rfl (fun K hK => ?_); refine wp_append rfl rfl rfl HR2.out ?_; go_simp))
        have hl1 := HP1.out.length_eq
        have hL := HL.out
        have hir := HO.out.iter
        have hne := hir.ne
        have hlt : w.heap.size < w1.heap.size := hir.lt
        have hbl := hir.mapAt.lt
        have hnb : bc ∉ u5.ownBlock.toList := fun hm => HS.out.neMap (by simpa using hm) HM.out rfl
        go_roundg todo'.length
        case measure => simp at hl1; omega
        case rel =>
          refine hid ⟨todo', out ++ [x], rfl, hir.keep HT2.out (fun hm => by have := HG.out _ (by simpa using hm); omega) hnb, HS2.out, ?_, ?_, ?_⟩
          · intro b hb
            rcases HOB.out with h | h
            · exact HG.out b (by rw [← h]; exact hb)
            · rw [hb] at h; simp at h; omega
          · exact HT1.out.trans HT2.out (fun _ h => h) (fun y hy => .inr (by have := HG.out y (by simpa using hy); omega))
          · have e1 : (pick x.dst todo).Perm (x :: pick x.dst todo') := by
              have := (HP1.out.filter (fun p => p.2.dst == x.dst)).map (·.2)
              simpa [pick] using this
            have e2 := e1.append_left out
            rw [List.append_assoc]
            exact e2.symm.trans HP.out
      · have HL := hid (show w.heap.size ≤ wr.heap.size ∧ wr.heap.size ≤ w1.heap.size from ⟨ht.size, htn.size⟩)
        have HS2 := hid (hsl.keep htn (fun b hb hm => by have := hge b hb; simp at hm; omega))
        have hdb : (x.dst == v) = false := by simpa using hd
        clear hn hsl hge hperm ht hit hrel hon htn hp1 hd
        go_wp2_with (at_next; refine wpList_plain rfl (fun K hK => ?_); refine wp_val (run_val HN.out) ?_; go_simp)
        have hl1 := HP1.out.length_eq
        have HA := Tch.alloc w1 (.cells #[.int .i64 x.src, .int .i64 x.dst, .int .i64 x.seq, .string x.text] 84) []
        go_roundg todo'.length
        case measure => simp at hl1; omega
        case rel =>
          refine hid ⟨todo', out, rfl, HO.out.iter.keep HA (by simp) (by simp), HS2.out.keep HA (by simp), HG.out, HT1.out.then0 HA, ?_⟩
          have e1 : (pick v todo).Perm (pick v todo') := by
            have := (HP1.out.filter (fun p => p.2.dst == v)).map (·.2)
            simpa [pick, hdb] using this
          exact (e1.append_left out).symm.trans HP.out
end Go.Proofs.YtlchegpgicdldaaDoor

namespace Go.Proofs.YtlchegpgicdldaaDoor
open Go.RowKit Go.Reg

structure ActM where
  kind : Int
  a : Int
  b : Int
  text : ByteArray
  deriving DecidableEq

def encA (x : ActM) : List Value := [.int .i64 x.kind, .int .i64 x.a, .int .i64 x.b, .string x.text]
def valA (x : ActM) : Value := .agg #[.int .i64 x.kind, .int .i64 x.a, .int .i64 x.b, .string x.text]

def NetM.pos (N : NetM) (i : Int) : Option Letter := if 0 ≤ i then N.flying[i.toNat]? else none
def NetM.act (N : NetM) (x : ActM) : NetM × Int :=
  if x.kind = 0 then
    if 0 ≤ x.a ∧ x.a < N.workers ∧ 0 ≤ x.b ∧ x.b < N.workers then (N.send x.a x.b x.text, 0) else (N, 3)
  else match N.pos x.a with
    | none => (N, 3)
    | some l => if x.kind = 1 then (N.double l, 0) else (N.deliver x.a.toNat l, 0)

structure NetOk (B : Nat) (N : NetM) : Prop where
  fly : N.flying.length ≤ B
  came : N.came.length ≤ B
  all0 : 0 ≤ N.all
  all : N.all ≤ B
  next : ∀ a b, 0 ≤ N.next a b ∧ N.next a b ≤ B

theorem NetM.next_send (N : NetM) (a b : Int) (s : ByteArray) (c d : Int) : (N.send a b s).next c d = if a = c ∧ b = d then N.next a b + 1 else N.next c d := by
  simp only [NetM.next, NetM.send, get_put, Prod.mk.injEq]
  split <;> rfl

theorem NetOk.act {B : Nat} {N : NetM} (h : NetOk B N) (x : ActM) : NetOk (B + 1) (N.act x).1 := by
  obtain ⟨h1, h2, h3, h4, h5⟩ := h
  have h0 : NetOk (B + 1) N := ⟨by omega, by omega, h3, by omega, fun a b => ⟨(h5 a b).1, by have := (h5 a b).2; omega⟩⟩
  unfold NetM.act
  split
  · split
    · refine ⟨?_, h0.came, ?_, ?_, ?_⟩
      · simp [NetM.send]; exact h1
      · simp only [NetM.send]; omega
      · simp only [NetM.send]; omega
      · intro c d
        rw [NetM.next_send]
        split
        · have := h5 x.a x.b; omega
        · exact h0.next c d
    · exact h0
  · split
    · exact h0
    · split
      · refine ⟨?_, h0.came, h0.all0, h0.all, h0.next⟩
        simp [NetM.double]; exact h1
      · refine ⟨?_, ?_, h0.all0, h0.all, h0.next⟩
        · simp only [NetM.deliver]
          have := List.length_eraseIdx_le N.flying x.a.toNat
          omega
        · simp only [NetM.deliver]
          have := put_length_le N.came
          exact Nat.le_trans (this _ _) (by omega)
theorem NetOk.mono {B C : Nat} {N : NetM} (h : NetOk B N) (hb : B ≤ C) : NetOk C N :=
  ⟨Nat.le_trans h.fly hb, Nat.le_trans h.came hb, h.all0, by have := h.all; omega, fun a b => ⟨(h.next a b).1, by have := (h.next a b).2; omega⟩⟩
theorem NetOk.new (k : Int) : NetOk 0 ⟨k, [], 0, [], []⟩ := ⟨by simp, by simp, by simp, by simp, fun a b => by simp [NetM.next, Reg.get]⟩

structure St (w : World) (p : Nat) (N : NetM) (F : List Nat) : Prop where
  net : NetAt w p N F
  err : ErrT w
  zero : 0 ∉ F

theorem ErrT.keep {S : List Nat} {w w' : World} (h : ErrT w) (t : Tch S w w') (hn : 0 ∉ S) : ErrT w' := t.cell h hn
theorem ErrT.lt {w : World} (h : ErrT w) : 0 < w.heap.size := by
  unfold ErrT World.cell? at h
  rcases Nat.eq_zero_or_pos w.heap.size with h0 | h0
  · simp [Array.getElem?_eq_none (xs := w.heap) (i := 0) (by omega)] at h
  · exact h0
theorem St.keep {S : List Nat} {w w' : World} {p : Nat} {N : NetM} {F : List Nat} (h : St w p N F) (t : Tch S w w') (hd : ∀ x ∈ F, x ∉ S) (hz : 0 ∉ S) : St w' p N F := ⟨h.net.keep t hd, h.err.keep t hz, h.zero⟩

theorem err_code {v : Value} {c : Int} (w w1 : World) (he : Err w v c) (h0 : ErrT w) (ht : Tch [] w1 w) : Calls Tryd.prog 13 #[v] w fun e w' => e = .returned (.int .i64 c) ∧ Tch [] w1 w' := by
  obtain ⟨f, a, s, rfl, hb⟩ := he
  refine (code_fault f _ a s w hb h0).mono ?_
  rintro e w' ⟨rfl, hT⟩
  exact ⟨rfl, ht.then0 hT⟩

/-- what a call of the laws leaves -/
def Did (p : Nat) (N : NetM) (F : List Nat) (x : ActM) (w : World) (e : Ending) (w' : World) : Prop :=
  e = .returned (.int .i64 (N.act x).2) ∧ ∃ F', St w' p (N.act x).1 F' ∧ (∀ y ∈ F', y ∈ F ∨ w.heap.size ≤ y) ∧ Tch F w w'

theorem did_of {p : Nat} {N N' : NetM} {F F' : List Nat} {x : ActM} {w wA w2 : World} {c : Int} (hP : N.act x = (N', c)) (hS : St w p N F) (hA : Tch [] w wA) (hn : NetAt w2 p N' F') (hF : ∀ y ∈ F', y ∈ F ∨ wA.heap.size ≤ y) (ht : Tch F wA w2) :
    Did p N F x w (.returned (.int .i64 c)) w2 := by
  have h1 : (N.act x).1 = N' := by rw [hP]
  have h2 : (N.act x).2 = c := by rw [hP]
  have hs := hA.size
  unfold Did
  rw [h1, h2]
  refine ⟨rfl, F', ⟨hn, (hS.err.keep (hA.ahead0 ht) hS.zero), ?_⟩, fun y hy => (hF y hy).imp id (fun h => by omega), hA.ahead0 ht⟩
  intro h0
  rcases hF 0 h0 with h | h
  · exact hS.zero h
  · have := hS.err.lt; omega
theorem did_no {p : Nat} {N : NetM} {F : List Nat} {x : ActM} {w wA w2 : World} {c : Int} (hP : N.act x = (N, c)) (hS : St w p N F) (hA : Tch [] w wA) (ht : Tch [] wA w2) :
    Did p N F x w (.returned (.int .i64 c)) w2 :=
  did_of hP hS hA (hS.net.keep (hA.then0 ht) (by simp)) (fun y hy => .inl hy) (ht.mono (by simp))

end Go.Proofs.YtlchegpgicdldaaDoor
