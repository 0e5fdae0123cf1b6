/- The keys of net's maps; what a net is in memory. What a net is in memory; Send. net: New, Missing, Quiet, at, Double, Flying, Send's errors. slices.Clone and slices.Delete at letters; Flying, Deliver. Deliver. -/
import Derived.Test.YtlchegpgicdldaaDoorFlt
import Derived.Test.YtlchegpgicdldaaDoorMap
import Derived.Test.YtlchegpgicdldaaDoorSli
namespace Go.Proofs.YtlchegpgicdldaaDoor
open Go.RowKit Go.Reg

theorem mixed : Tryd.prog.follows .mixedOrders = true := by kernel_rfl

def encWay (k : Int × Int) : Value := .agg #[.int .i64 k.1, .int .i64 k.2]
def encStamp (k : Int × Int × Int) : Value := .agg #[.int .i64 k.1, .int .i64 k.2.1, .int .i64 k.2.2]

theorem way_check (em : Bool) (k : Int × Int) (w : World) : (Instr.checkKey em 10000 95 (encWay k)).run Tryd.prog w = .ok () w := by
  obtain ⟨a, b⟩ := k; kernel_rfl
theorem stamp_check (em : Bool) (k : Int × Int × Int) (w : World) : (Instr.checkKey em 10000 103 (encStamp k)).run Tryd.prog w = .ok () w := by
  obtain ⟨a, b, c⟩ := k; kernel_rfl

theorem way_held : Tryd.prog.stoodInHeld 95 = false := by kernel_rfl
theorem stamp_held : Tryd.prog.stoodInHeld 103 = false := by kernel_rfl
theorem part_int (cs : Array Value) (i : Nat) (v : Value) (h : cs[i]? = some v) (w : World) : (part 3 cs i).run Tryd.prog w = .ok v w := by
  have e : (isAgg 3).run Tryd.prog w = .ok false w := by kernel_rfl
  simp [part, e, h]
theorem int_equal (n : Nat) (a b : Int) (w : World) : (Op.equalIn (n + 1) 3 (.int .i64 a) (.int .i64 b)).run Tryd.prog w = .ok (a == b) w := by
  simp [Op.equalIn, run_underlying Tryd.underlying3]
theorem way_equalIn (n : Nat) (k k' : Int × Int) (w : World) : (Op.equalIn (n + 2) 95 (encWay k) (encWay k')).run Tryd.prog w = .ok (decide (k = k')) w := by
  obtain ⟨a, b⟩ := k
  obtain ⟨c, d⟩ := k'
  unfold Op.equalIn
  simp [run_underlying Tryd.underlying95, encWay, program, Sem.run, part_int]
  simp only [int_equal, Result.andThen_ok]
  by_cases h1 : a = c <;> by_cases h2 : b = d <;> simp [h1, h2]
theorem way_equal (k k' : Int × Int) (w : World) : (Op.equal 95 (encWay k) (encWay k')).run Tryd.prog w = .ok (decide (k = k')) w := way_equalIn 9998 k k' w
theorem part_way (a b c : Value) (w : World) : (part 95 #[a, b, c] 0).run Tryd.prog w = .ok (.agg #[a, b]) w := by kernel_rfl
theorem stamp_equal (k k' : Int × Int × Int) (w : World) : (Op.equal 103 (encStamp k) (encStamp k')).run Tryd.prog w = .ok (decide (k = k')) w := by
  obtain ⟨a, b, c⟩ := k
  obtain ⟨a', b', c'⟩ := k'
  unfold Op.equal
  rw [show Op.maxDepth = 9999 + 1 from rfl]
  unfold Op.equalIn
  have e : ∀ w, (Op.equalIn 9999 95 (.agg #[.int .i64 a, .int .i64 b]) (.agg #[.int .i64 a', .int .i64 b'])).run Tryd.prog w = .ok (decide ((a, b) = (a', b'))) w := fun w => way_equalIn 9997 (a, b) (a', b') w
  simp [run_underlying Tryd.underlying103, encStamp, program, Sem.run, part_int, part_way]
  rw [show (9999 : Nat) = 9998 + 1 from rfl] at e ⊢
  simp only [int_equal, e, Result.andThen_ok]
  by_cases h1 : a = a' <;> by_cases h2 : b = b' <;> by_cases h3 : c = c' <;> simp [h1, h2, h3]

theorem wayOk : KeyOk Tryd.prog 95 encWay :=
  KeyOk.of_equal Tryd.underlying95 (fun _ _ => rfl) way_check (fun k k' w => way_equal k k' w) (fun ⟨a, b⟩ => by simp [encWay, Instr.sameBits])
theorem stampOk : KeyOk Tryd.prog 103 encStamp :=
  KeyOk.of_equal Tryd.underlying103 (fun _ _ => rfl) stamp_check (fun k k' w => stamp_equal k k' w) (fun ⟨a, b, c⟩ => by simp [encStamp, Instr.sameBits])
end Go.Proofs.YtlchegpgicdldaaDoor

namespace Go.Proofs.YtlchegpgicdldaaDoor
open Go.RowKit Go.Reg

structure Letter where
  src : Int
  dst : Int
  seq : Int
  text : ByteArray
  deriving DecidableEq

def encL (l : Letter) : List Value := [.int .i64 l.src, .int .i64 l.dst, .int .i64 l.seq, .string l.text]
def valL (l : Letter) : Value := .agg #[.int .i64 l.src, .int .i64 l.dst, .int .i64 l.seq, .string l.text]
def valI (n : Int) : Value := .int .i64 n

structure NetM where
  workers : Int
  sent : List ((Int × Int) × Int)
  all : Int
  flying : List Letter
  came : List ((Int × Int × Int) × Letter)

theorem encL_len (l : Letter) : (encL l).length = 4 := rfl
theorem encL_one (l : Letter) : ∀ u ∈ encL l, u.oneCell' = true := by intro u hu; simp [encL] at hu; rcases hu with rfl | rfl | rfl | rfl <;> rfl

/-- p points to a net N, made of the blocks F -/
def NetAt (w : World) (p : Nat) (N : NetM) (F : List Nat) : Prop :=
  ∃ bs bc fl, Blk w p 99 [.int .i64 N.workers, .map (some bs), .int .i64 N.all, fl, .map (some bc)] ∧ MapAt encWay valI w bs N.sent ∧ MapAt encStamp valL w bc N.came ∧
    Sl 84 4 encL w fl N.flying ∧ bs ≠ bc ∧ F = p :: bs :: bc :: fl.ownBlock.toList

theorem NetAt.keep {w w' : World} {p : Nat} {N : NetM} {F S : List Nat} (h : NetAt w p N F) (t : Tch S w w') (hd : ∀ x ∈ F, x ∉ S) : NetAt w' p N F := by
  obtain ⟨bs, bc, fl, h1, h2, h3, h4, h5, rfl⟩ := h
  exact ⟨bs, bc, fl, h1.keep t (hd p (by simp)), h2.keep t (hd bs (by simp)), h3.keep t (hd bc (by simp)), h4.keep t (fun b hb => hd b (by simp [hb])), h5, rfl⟩
theorem NetAt.lt {w : World} {p : Nat} {N : NetM} {F : List Nat} (h : NetAt w p N F) : ∀ x ∈ F, x < w.heap.size := by
  obtain ⟨bs, bc, fl, h1, h2, h3, h4, h5, rfl⟩ := h
  intro x hx
  simp at hx
  rcases hx with rfl | rfl | rfl | hx
  · exact h1.lt
  · exact h2.lt
  · exact h3.lt
  · exact h4.lt hx
theorem NetAt.here {w : World} {p : Nat} {N : NetM} {F : List Nat} (h : NetAt w p N F) : p ∈ F := by
  obtain ⟨bs, bc, fl, h1, h2, h3, h4, h5, rfl⟩ := h; simp

set_option maxRecDepth 100000 in
theorem has_yes (p : Nat) (k v : Int) (w : World) (h : w.cell? ⟨p, 0, none⟩ = some (.int .i64 k)) (h1 : 0 ≤ v) (h2 : v < k) :
    Calls Tryd.prog 48 #[.pointer (some ⟨p, 0, none⟩), .int .i64 v] w fun e w' => e = .returned (.bool true) ∧ w = w' := by
  go_enter Tryd.func48, Tryd.ntmps48
  go_wp2
  go_ret
  exact ⟨rfl, rfl⟩
set_option maxRecDepth 100000 in
theorem has_no (p : Nat) (k v : Int) (w : World) (h : w.cell? ⟨p, 0, none⟩ = some (.int .i64 k)) (h1 : v < 0 ∨ k ≤ v) :
    Calls Tryd.prog 48 #[.pointer (some ⟨p, 0, none⟩), .int .i64 v] w fun e w' => e = .returned (.bool false) ∧ w = w' := by
  by_cases hv : v < 0
  · clear h1
    go_enter Tryd.func48, Tryd.ntmps48
    go_wp2
    go_ret
    exact ⟨rfl, rfl⟩
  · have h0 : 0 ≤ v := by omega
    have h3 : ¬ v < k := by omega
    clear h1 hv
    go_enter Tryd.func48, Tryd.ntmps48
    go_wp2
    go_ret
    exact ⟨rfl, rfl⟩

theorem zeroInt (w : World) : (zeroValue 3).run Tryd.prog w = .ok (valI 0) w := by kernel_rfl

def NetM.next (N : NetM) (a b : Int) : Int := (get N.sent (a, b)).getD 0
def NetM.send (N : NetM) (a b : Int) (s : ByteArray) : NetM :=
  { N with sent := put N.sent (a, b) (N.next a b + 1), all := N.all + 1, flying := N.flying ++ [⟨a, b, N.next a b, s⟩] }

set_option maxRecDepth 100000 in
set_option maxHeartbeats 1000000 in
theorem send_ok (p : Nat) (N : NetM) (F : List Nat) (a b : Int) (s : ByteArray) (w : World) (h : NetAt w p N F) (ha : 0 ≤ a) (ha' : a < N.workers) (hb : 0 ≤ b) (hb' : b < N.workers)
    (hfl : N.flying.length ≤ 4294967296) (hall : 0 ≤ N.all ∧ N.all ≤ 4294967296) (hnx : 0 ≤ N.next a b ∧ N.next a b ≤ 4294967296) :
    Calls Tryd.prog 33 #[.pointer (some ⟨p, 0, none⟩), .int .i64 a, .int .i64 b, .string s] w
      fun e w' => e = .returned .nilIface ∧ ∃ F', NetAt w' p (N.send a b s) F' ∧ (∀ x ∈ F', x ∈ F ∨ w.heap.size ≤ x) ∧ Tch F w w' := by
  obtain ⟨bs, bc, fl, h1, h2, h3, h4, h5, hF⟩ := h
  have c0 := h1.cell (i := 0) rfl
  have HP := hid h1
  have HS := hid h2
  have HC := hid h3
  have HL := hid h4
  have H5 := hid h5
  have HFE := hid hF
  clear h1 h2 h3 h4 h5 hF
  go_enter Tryd.func33, Tryd.ntmps33
  go_wp2_with fail
  refine (has_yes p N.workers a w c0 ha ha').mono ?_
  rintro e w' ⟨rfl, rfl⟩
  go_wp2_with fail
  refine (has_yes p N.workers b w c0 hb hb').mono ?_
  rintro e w' ⟨rfl, rfl⟩
  go_wp2_with fail
  have HT0 := hid (Tch.alloc w (.cells #[.int .i64 a, .int .i64 b] 95) [])
  have HW0 := hid (Blk.new w 95 [.int .i64 a, .int .i64 b])
  refine wp_region_g [] [0, 0, 0, 0, 1, 0, 0, 0, 0, 0, 1, 1, 5, 0, 0, 6, 3, 0, 0, 3] [0, 1, 2, 3, 5, 6, 7, 8, 9, 13, 4, 10, 11, 12, 14, 15, 16, 17, 18, 19] [0, 0, 2, 6, 14, 0, 0, 0, 128, 384, 896, 0, 3968, 0, 16352, 32736, 65534, 131071, 262143, 524287] mixed (by kernel_rfl) ?_
  intro w1 hT1
  have HT1 := hid (HT0.out.then0 hT1)
  have HP1 := hid (HP.out.keep HT1.out (by simp))
  have HW1 := hid (HW0.out.keep hT1 (by simp))
  have HS1 := hid (HS.out.keep HT1.out (by simp))
  clear hT1
  have c1 := HP1.out.cell (i := 1) rfl
  have c3 := HP1.out.cell (i := 3) rfl
  have d0 := HW1.out.cell (i := 0) rfl
  have d1 := HW1.out.cell (i := 1) rfl
  go_wp2_with (first | (refine wpT_pure rfl rfl rfl rfl (fun _ _ => ?_)) | (refine wpT_look rfl rfl rfl (fun _ _ => ?_)))
  refine wpT_read rfl rfl rfl (.int .i64 (N.next a b)) (fun w2 he => ?_) ?_
  · exact run_val ((HS1.out.ext he).look wayOk Tryd.underlying96 (z := 0) zeroInt (a, b))
  go_wp2_with (first | (refine wpT_pure rfl rfl rfl rfl (fun _ _ => ?_)) | (refine wpT_look rfl rfl rfl (fun _ _ => ?_)))
  have HA := hid (Tch.alloc w1 (.cells #[.int .i64 a, .int .i64 b, .int .i64 (N.next a b), .string s] 84) [])
  obtain ⟨fl', w2, hr, hs2, ht2, hob⟩ := run_append_sl (P := Tryd.prog) encL_len encL_one Tryd.underlying78 (bytes := 40) (by kernel_rfl) rfl ((HL.out.keep HT1.out (by simp)).keep HA.out (by simp)) hfl (⟨a, b, N.next a b, s⟩ : Letter) (c := 1) (Blk.new w1 84 (encL ⟨a, b, N.next a b, s⟩)) 78
  have hshape : ∃ g cap, fl' = .slice (some ⟨g, 0, none⟩) (N.flying.length + 1) cap := by
    rcases hs2.shape with ⟨_, h⟩ | ⟨g, cap, h, _⟩
    · simp at h
    · exact ⟨g, cap, by rw [h]; simp⟩
  obtain ⟨g, cap, rfl⟩ := hshape
  have HR := hid hr
  have HS2 := hid hs2
  have HT2 := hid (HT1.out.trans (HA.out.ahead0 ht2) (T := F) (by simp) (fun x hx => .inl (by rw [HFE.out]; simp only [List.mem_cons]; exact .inr (.inr (.inr hx)))))
  have HOB := hid hob
  have hP2 : Blk w2 p 99 [.int .i64 N.workers, .map (some bs), .int .i64 N.all, fl, .map (some bc)] := ((HP1.out.keep HA.out (by simp)).keep ht2 (fun hm => (HL.out.neBlk (by simpa using hm) HP.out (by decide)) rfl))
  have k3 := hP2.cell (i := 3) rfl
  have kf := hP2.frozen 3
  have nbs : bs ∉ fl.ownBlock.toList := fun hm => (HL.out.neMap (by simpa using hm) HS.out) rfl
  have nbc : bc ∉ fl.ownBlock.toList := fun hm => (HL.out.neMap (by simpa using hm) HC.out) rfl
  have nw : w.heap.size ∉ fl.ownBlock.toList := fun hm => by have := HL.out.lt (b := w.heap.size) (by simpa using hm); omega
  have HSA := hid ((HS1.out.keep HA.out (by simp)).keep ht2 nbs)
  have HCA := hid (((HC.out.keep HT1.out (by simp)).keep HA.out (by simp)).keep ht2 nbc)
  have HWA := hid ((HW1.out.keep HA.out (by simp)).keep ht2 nw)
  have HP2 := hid hP2
  clear hr hs2 ht2 hob hP2 nbs nbc nw
  refine wpT_one rfl rfl rfl (fun K hK => ?_)
  refine wp_append rfl rfl rfl HR.out ?_
  go_simp
  go_wp2_with (first | (refine wpT_pure rfl rfl rfl rfl (fun _ _ => ?_)) | (refine wpT_one rfl rfl rfl (fun _ _ => ?_)) | refine wpT_nil ?_)
  have npf : p ∈ F := by rw [HFE.out]; simp
  have HT3 := hid (HT2.out.andSet (i := 3) (.inl npf) (.slice (some ⟨g, 0, none⟩) (N.flying.length + 1) cap))
  have HX := hid (Tch.setCell w2 (S := [p]) (b := p) (i := 3) (.inl (by simp)) (.slice (some ⟨g, 0, none⟩) (N.flying.length + 1) cap))
  have HP3 := hid (HP2.out.set 3 (.slice (some ⟨g, 0, none⟩) (N.flying.length + 1) cap))
  have HS3 := hid (HSA.out.keep HX.out (by simpa using HSA.out.ne HP2.out))
  have HC3 := hid (HCA.out.keep HX.out (by simpa using HCA.out.ne HP2.out))
  have HW3 := hid (HWA.out.keep HX.out (by simpa using HWA.out.ne HP2.out (by decide)))
  have HL3 := hid (HS2.out.keep HX.out (fun b hb => by simpa using HS2.out.neBlk hb HP2.out (by decide)))
  clear k3 kf c1 c3 d0 d1
  obtain ⟨hn0, hn1⟩ := hnx
  obtain ⟨ha0, ha1⟩ := hall
  have FIN := hid (show ∀ w5, Tch [bs] (w2.setCell ⟨p, 3, none⟩ (.slice (some ⟨g, 0, none⟩) (N.flying.length + 1) cap)) w5 → MapAt encWay valI w5 bs (put N.sent (a, b) (N.next a b + 1)) →
      ∃ F', NetAt (w5.setCell ⟨p, 2, none⟩ (.int .i64 (N.all + 1))) p (N.send a b s) F' ∧ (∀ x ∈ F', x ∈ F ∨ w.heap.size ≤ x) ∧ Tch F w (w5.setCell ⟨p, 2, none⟩ (.int .i64 (N.all + 1))) from by
    intro w5 hT hM
    have npb : p ∉ [bs] := by simpa using fun e => (HS3.out.ne HP3.out) e.symm
    have hP5 := HP3.out.keep hT npb
    have hX := Tch.setCell w5 (S := [p]) (b := p) (i := 2) (.inl (by simp)) (.int .i64 (N.all + 1))
    have hL5 := HL3.out.keep hT (fun b hb => by simpa using HL3.out.neMap hb HS3.out)
    refine ⟨_, ⟨bs, bc, _, hP5.set 2 _, hM.keep hX (by simpa using hM.ne hP5), (HC3.out.keep hT (by simpa using H5.out.symm)).keep hX (by simpa using (HC3.out.keep hT (by simpa using H5.out.symm)).ne hP5),
      hL5.keep hX (fun b hb => by simpa using hL5.neBlk hb hP5 (by decide)), H5.out, rfl⟩, ?_, ?_⟩
    · intro x hx
      rw [HFE.out]
      simp only [List.mem_cons, Option.mem_toList] at hx ⊢
      rcases hx with rfl | rfl | rfl | hx
      · simp
      · simp
      · simp
      · rcases HOB.out with hob | hob
        · rw [hob] at hx; simp [hx]
        · rw [hob] at hx
          have hx' : (w1.alloc (.cells #[.int .i64 a, .int .i64 b, .int .i64 (N.next a b), .string s] 84)).heap.size = x := Option.some.inj hx
          have := HT1.out.size
          right
          rw [← hx']
          simp
          omega
    · exact (HT3.out.trans hT (fun _ h => h) (fun x hx => .inl (by rw [HFE.out]; simp at hx; simp [hx]))).andSet (.inl npf) _)
  refine wp_region_2g [] [0, 0, 0, 1, 1, 5, 0, 3, 0, 3] 5 7 [0, 1, 2, 3, 4, 5, 6, 7, 8, 9] [0, 1, 3, 7, 0, 31, 63, 63, 191, 511] [0, 1, 2, 3, 4, 7, 8, 5, 6, 9] [0, 1, 3, 7, 0, 159, 191, 31, 159, 511] mixed rfl (by kernel_rfl) (by kernel_rfl) ?_ ?_
  · intro w3 hT
    have HP4 := hid (HP3.out.keep hT (by simp))
    have HS4 := hid (HS3.out.keep hT (by simp))
    have HW4 := hid (HW3.out.keep hT (by simp))
    have c1 := HP4.out.cell (i := 1) rfl
    have d0 := HW4.out.cell (i := 0) rfl
    have d1 := HW4.out.cell (i := 1) rfl
    have HT := hid hT
    clear hT
    go_wp2_with (first | (refine wpT_pure rfl rfl rfl rfl (fun _ _ => ?_)) | (refine wpT_look rfl rfl rfl (fun _ _ => ?_)))
    obtain ⟨w4, n, hr, hE, ht⟩ := HS4.out.entry wayOk Tryd.underlying96 (a, b) (z := 0) zeroInt
    have HR := hid (show (Instr.mapEntry 96 (.map (some bs)) (.agg #[.int .i64 a, .int .i64 b])).run Tryd.prog w3 = .ok (.tuple #[.int .i64 (N.next a b), .int .i64 n]) w4 from hr)
    obtain ⟨w5, hr5, hM5, ht5⟩ := hE.store 96 (N.next a b + 1)
    rw [put_ensure] at hM5
    have HR5 := hid (show (Instr.entryStore 96 (.map (some bs)) (.int .i64 n) (.int .i64 (N.next a b + 1))).run Tryd.prog w4 = .ok () w5 from hr5)
    have hP5 := (HP4.out.keep (ht.trans0 ht5) (by simpa using fun e => (HS3.out.ne HP3.out) e.symm))
    have c2 := hP5.cell (i := 2) rfl
    have f2 := hP5.frozen 2
    have HFN := hid (FIN.out w5 (HT.out.ahead0 (ht.trans0 ht5)) hM5)
    clear hr hr5 hE hM5 ht ht5 hP5
    refine wpT_read rfl rfl rfl (.int .i64 (N.next a b)) (fun w2 he => ?_) ?_
    · exact run_val ((HS4.out.ext he).look wayOk Tryd.underlying96 (z := 0) zeroInt (a, b))
    go_wp2_with (first | (refine wpT_pure rfl rfl rfl rfl (fun _ _ => ?_)))
    refine wpT_one rfl rfl rfl (fun K hK => ?_)
    refine wp_val (run_val HR.out) ?_
    go_simp
    go_wp2_with (first | (refine wpT_pure rfl rfl rfl rfl (fun _ _ => ?_)))
    refine wpT_one rfl rfl rfl (fun K hK => ?_)
    refine wp_skip' (run_unit HR5.out) ?_
    go_simp
    go_wp2_with (first | (refine wpT_pure rfl rfl rfl rfl (fun _ _ => ?_)) | refine wpT_nil ?_)
    go_ret
    exact ⟨rfl, HFN.out⟩
  · intro w3 hT
    have HP4 := hid (HP3.out.keep hT (by simp))
    have HS4 := hid (HS3.out.keep hT (by simp))
    have HW4 := hid (HW3.out.keep hT (by simp))
    have c1 := HP4.out.cell (i := 1) rfl
    have d0 := HW4.out.cell (i := 0) rfl
    have d1 := HW4.out.cell (i := 1) rfl
    have HT := hid hT
    clear hT
    go_wp2_with (first | (refine wpT_pure rfl rfl rfl rfl (fun _ _ => ?_)) | (refine wpT_look rfl rfl rfl (fun _ _ => ?_)))
    obtain ⟨w4, n, hr, hE, ht⟩ := HS4.out.entry wayOk Tryd.underlying96 (a, b) (z := 0) zeroInt
    have HE4 := hid hE.map
    have HR := hid (show (Instr.mapEntry 96 (.map (some bs)) (.agg #[.int .i64 a, .int .i64 b])).run Tryd.prog w3 = .ok (.tuple #[.int .i64 (N.next a b), .int .i64 n]) w4 from hr)
    obtain ⟨w5, hr5, hM5, ht5⟩ := hE.store 96 (N.next a b + 1)
    rw [put_ensure] at hM5
    have HR5 := hid (show (Instr.entryStore 96 (.map (some bs)) (.int .i64 n) (.int .i64 (N.next a b + 1))).run Tryd.prog w4 = .ok () w5 from hr5)
    have hP5 := (HP4.out.keep (ht.trans0 ht5) (by simpa using fun e => (HS3.out.ne HP3.out) e.symm))
    have c2 := hP5.cell (i := 2) rfl
    have f2 := hP5.frozen 2
    have HFN := hid (FIN.out w5 (HT.out.ahead0 (ht.trans0 ht5)) hM5)
    clear hr hr5 hE hM5 ht ht5 hP5
    refine wpT_one rfl rfl rfl (fun K hK => ?_)
    refine wp_val (run_val HR.out) ?_
    go_simp
    go_wp2_with (first | (refine wpT_pure rfl rfl rfl rfl (fun _ _ => ?_)))
    refine wpT_read rfl rfl rfl (.int .i64 (N.next a b)) (fun w2 he => ?_) ?_
    · have := (HE4.out.ext he).look wayOk Tryd.underlying96 (z := 0) zeroInt (a, b)
      rw [get_ensure] at this
      exact run_val this
    go_wp2_with (first | (refine wpT_pure rfl rfl rfl rfl (fun _ _ => ?_)))
    refine wpT_one rfl rfl rfl (fun K hK => ?_)
    refine wp_skip' (run_unit HR5.out) ?_
    go_simp
    go_wp2_with (first | (refine wpT_pure rfl rfl rfl rfl (fun _ _ => ?_)) | refine wpT_nil ?_)
    go_ret
    exact ⟨rfl, HFN.out⟩
end Go.Proofs.YtlchegpgicdldaaDoor

namespace Go.Proofs.YtlchegpgicdldaaDoor
open Go.RowKit Go.Reg

set_option maxRecDepth 100000 in
theorem missing_ok (p : Nat) (N : NetM) (F : List Nat) (w : World) (h : NetAt w p N F) (ha0 : 0 ≤ N.all) (ha1 : N.all ≤ 4294967296) (hc : N.came.length ≤ 4294967296) :
    Calls Tryd.prog 38 #[.pointer (some ⟨p, 0, none⟩)] w fun e w' => e = .returned (.int .i64 (N.all - N.came.length)) ∧ Tch [] w w' := by
  obtain ⟨bs, bc, fl, h1, h2, h3, h4, h5, hF⟩ := h
  have HP := hid h1
  have HC := hid h3
  clear h1 h2 h3 h4 h5 hF
  go_enter Tryd.func38, Tryd.ntmps38
  go_wp2_with fail
  refine wp_region_g [] [0, 0, 0, 1, 0, 0, 0, 1, 1, 0, 0] [0, 1, 2, 4, 5, 6, 3, 7, 8, 9, 10] [0, 1, 3, 7, 0, 16, 48, 112, 240, 511, 1023] mixed (by kernel_rfl) ?_
  intro w1 hT
  have c2 := (HP.out.keep hT (by simp)).cell (i := 2) rfl
  have c4 := (HP.out.keep hT (by simp)).cell (i := 4) rfl
  have hl := (HC.out.keep hT (by simp)).len (P := Tryd.prog) Tryd.underlying97 3
  have HT := hid hT
  clear hT
  go_wp2_with (first | (refine wpT_pure rfl rfl rfl rfl (fun _ _ => ?_)) | (refine wpT_look rfl rfl rfl (fun _ _ => ?_)) | refine wpT_nil ?_)
  go_ret
  exact ⟨rfl, HT.out⟩

set_option maxRecDepth 100000 in
theorem quiet_ok (p : Nat) (N : NetM) (F : List Nat) (w : World) (h : NetAt w p N F) (ha0 : 0 ≤ N.all) (ha1 : N.all ≤ 4294967296) (hc : N.came.length ≤ 4294967296) :
    Calls Tryd.prog 37 #[.pointer (some ⟨p, 0, none⟩)] w fun e w' => e = .returned (.bool (N.all - N.came.length == 0)) ∧ Tch [] w w' := by
  go_enter Tryd.func37, Tryd.ntmps37
  go_wp2_with fail
  refine (missing_ok p N F w h ha0 ha1 hc).mono ?_
  rintro e w' ⟨rfl, hT⟩
  have HT := hid hT
  clear hT h
  generalize hx : N.all - N.came.length = x
  have HX := hid hx
  clear hx
  go_wp2_with fail
  go_ret
  refine ⟨?_, HT.out⟩
  rw [HX.out]
  rfl

set_option maxRecDepth 100000 in
theorem fresh_ok (k : Int) (w : World) :
    Calls Tryd.prog 44 #[.int .i64 k] w fun e w' => ∃ p F, e = .returned (.pointer (some ⟨p, 0, none⟩)) ∧ NetAt w' p ⟨k, [], 0, [], []⟩ F ∧ (∀ x ∈ F, w.heap.size ≤ x) ∧ Tch [] w w' := by
  have hmm := @run_makeMap Tryd.prog
  have HA := hid (MapAt.new encWay valI w)
  have HB := hid (MapAt.new encStamp valL (w.alloc (.map #[] 0)))
  go_enter Tryd.func44, Tryd.ntmps44
  go_wp2_with fail
  go_ret
  have t1 : Tch [] w (w.alloc (.map #[] 0)) := Tch.alloc _ _ _
  have t2 : Tch [] (w.alloc (.map #[] 0)) ((w.alloc (.map #[] 0)).alloc (.map #[] 0)) := Tch.alloc _ _ _
  refine ⟨_, _, rfl, ⟨w.heap.size, w.heap.size + 1, .slice none 0 0, ?_, (HA.out.keep t2 (by simp)).keep (Tch.alloc _ _ []) (by simp), ?_, Sl.nil _ _ _ _, by omega, rfl⟩, ?_, ((Tch.refl [] w).andAlloc _).andAlloc _ |>.andAlloc _⟩
  · have := Blk.new ((w.alloc (.map #[] 0)).alloc (.map #[] 0)) 99 [.int .i64 k, .map (some w.heap.size), .int .i64 0, .slice none 0 0, .map (some (w.heap.size + 1))]
    simpa using this
  · have := HB.out.keep (Tch.alloc _ (.cells #[.int .i64 k, .map (some w.heap.size), .int .i64 0, .slice none 0 0, .map (some (w.heap.size + 1))] 99) []) (by simp)
    simpa using this
  · intro x hx
    simp [Value.ownBlock] at hx
    omega

set_option maxRecDepth 100000 in
theorem new_yes (k : Int) (w : World) (h1 : 1 ≤ k) (h2 : k ≤ 64) :
    Calls Tryd.prog 27 #[.int .i64 k] w fun e w' => ∃ p F, e = .returned (.tuple #[.pointer (some ⟨p, 0, none⟩), .nilIface]) ∧ NetAt w' p ⟨k, [], 0, [], []⟩ F ∧ (∀ x ∈ F, w.heap.size ≤ x) ∧ Tch [] w w' := by
  go_enter Tryd.func27, Tryd.ntmps27
  go_wp2_with fail
  refine (fresh_ok k w).mono ?_
  rintro e w' ⟨p, F, rfl, hN, hF, hT⟩
  have HN := hid hN
  have HF := hid hF
  have HT := hid hT
  clear hN hF hT
  go_wp2_with fail
  go_ret2
  exact ⟨p, F, rfl, HN.out, HF.out, HT.out⟩

/-- an error: a fault of this code -/
def Err (w : World) (v : Value) (c : Int) : Prop := ∃ f a s, v = .iface 69 (.pointer (some ⟨f, 0, none⟩)) ∧ Blk w f 72 [.int .i64 c, a, s]

set_option maxRecDepth 100000 in
theorem new_no (k : Int) (w : World) (h1 : k < 1 ∨ 64 < k) :
    Calls Tryd.prog 27 #[.int .i64 k] w fun e w' => ∃ v, e = .returned (.tuple #[.pointer none, v]) ∧ Err w' v 1 ∧ Tch [] w w' := by
  by_cases hk : k < 1
  · clear h1
    go_enter Tryd.func27, Tryd.ntmps27
    go_wp2_with fail
    refine (fnew_any 1 0 _ w).mono ?_
    rintro e w' ⟨rfl, hB, hT⟩
    have HB := hid hB
    have HT := hid hT
    clear hB hT
    go_wp2_with fail
    go_ret2
    exact ⟨_, rfl, ⟨_, _, _, rfl, HB.out⟩, HT.out⟩
  · have h2 : 64 < k := by omega
    clear h1
    go_enter Tryd.func27, Tryd.ntmps27
    go_wp2_with fail
    refine (fnew_any 1 0 _ w).mono ?_
    rintro e w' ⟨rfl, hB, hT⟩
    have HB := hid hB
    have HT := hid hT
    clear hB hT
    go_wp2_with fail
    go_ret2
    exact ⟨_, rfl, ⟨_, _, _, rfl, HB.out⟩, HT.out⟩
theorem sl_len_eq {w : World} {v : Value} {l : List Letter} (h : Sl 84 4 encL w v l) : ∃ a c, v = .slice a l.length c := by
  rcases h.shape with ⟨rfl, rfl⟩ | ⟨g, cap, rfl, _⟩
  · exact ⟨none, 0, rfl⟩
  · exact ⟨_, _, rfl⟩

set_option maxRecDepth 100000 in
theorem at_yes (p : Nat) (N : NetM) (F : List Nat) (i : Int) (w : World) (h : NetAt w p N F) (h1 : 0 ≤ i) (h2 : i < N.flying.length) :
    Calls Tryd.prog 55 #[.pointer (some ⟨p, 0, none⟩), .int .i64 i] w fun e w' => e = .returned .nilIface ∧ w = w' := by
  obtain ⟨bs, bc, fl, h1, h2, h3, h4, h5, hF⟩ := h
  obtain ⟨a, c, rfl⟩ := sl_len_eq h4
  have c3 := h1.cell (i := 3) rfl
  clear h1 h2 h3 h4 h5 hF
  go_enter Tryd.func55, Tryd.ntmps55
  go_wp2_with fail
  go_ret
  exact ⟨rfl, rfl⟩

set_option maxRecDepth 100000 in
theorem at_no (p : Nat) (N : NetM) (F : List Nat) (i : Int) (w : World) (h : NetAt w p N F) (h1 : i < 0 ∨ N.flying.length ≤ i) :
    Calls Tryd.prog 55 #[.pointer (some ⟨p, 0, none⟩), .int .i64 i] w fun e w' => ∃ v, e = .returned v ∧ Err w' v 3 ∧ Tch [] w w' := by
  obtain ⟨bs, bc, fl, g1, g2, g3, g4, g5, hF⟩ := h
  obtain ⟨a, c, rfl⟩ := sl_len_eq g4
  have c3 := g1.cell (i := 3) rfl
  clear g1 g2 g3 g4 g5 hF
  by_cases hi : i < 0
  · clear h1
    go_enter Tryd.func55, Tryd.ntmps55
    go_wp2_with fail
    refine (fnew_any 3 0 _ w).mono ?_
    rintro e w' ⟨rfl, hB, hT⟩
    have HB := hid hB
    have HT := hid hT
    clear hB hT
    go_wp2_with fail
    go_ret
    exact ⟨_, rfl, ⟨_, _, _, rfl, HB.out⟩, HT.out⟩
  · have h2 : 0 ≤ i := by omega
    have h3 : N.flying.length ≤ i := by omega
    clear h1 hi
    go_enter Tryd.func55, Tryd.ntmps55
    go_wp2_with fail
    refine (fnew_any 3 0 _ w).mono ?_
    rintro e w' ⟨rfl, hB, hT⟩
    have HB := hid hB
    have HT := hid hT
    clear hB hT
    go_wp2_with fail
    go_ret
    exact ⟨_, rfl, ⟨_, _, _, rfl, HB.out⟩, HT.out⟩

def NetM.double (N : NetM) (l : Letter) : NetM := { N with flying := N.flying ++ [l] }

set_option maxRecDepth 100000 in
set_option maxHeartbeats 1000000 in
theorem double_ok (p : Nat) (N : NetM) (F : List Nat) (i : Nat) (l : Letter) (w : World) (h : NetAt w p N F) (hi : N.flying[i]? = some l) (hfl : N.flying.length ≤ 4294967296) :
    Calls Tryd.prog 41 #[.pointer (some ⟨p, 0, none⟩), .int .i64 i] w
      fun e w' => e = .returned .nilIface ∧ ∃ F', NetAt w' p (N.double l) F' ∧ (∀ x ∈ F', x ∈ F ∨ w.heap.size ≤ x) ∧ Tch F w w' := by
  have hlt := (List.getElem?_eq_some_iff.1 hi).1
  have HN := hid h
  have HI := hid hi
  clear hi h
  go_enter Tryd.func41, Tryd.ntmps41
  go_wp2_with fail
  refine (at_yes p N F i w HN.out (by omega) (by omega)).mono ?_
  rintro e w' ⟨rfl, rfl⟩
  go_wp2_with fail
  obtain ⟨bs, bc, fl, h1, h2, h3, h4, h5, hF⟩ := HN.out
  obtain ⟨g, cap, hfv⟩ : ∃ g cap, fl = .slice (some ⟨g, 0, none⟩) N.flying.length cap := by
    rcases h4.shape with ⟨_, h⟩ | ⟨g, cap, h, _⟩
    · rw [h] at hlt; simp at hlt
    · exact ⟨g, cap, h⟩
  subst hfv
  have HP := hid h1
  have HS := hid h2
  have HC := hid h3
  have HL := hid h4
  have H5 := hid h5
  have HFE := hid hF
  clear h1 h2 h3 h4 h5 hF
  refine wp_region_g [] [0, 0, 0, 0, 1, 0, 0, 0, 1, 0, 0, 1, 6, 3, 0, 0, 3] [0, 1, 2, 3, 5, 6, 7, 9, 4, 8, 10, 11, 12, 13, 14, 15, 16] [0, 0, 2, 6, 14, 0, 32, 96, 224, 0, 992, 2016, 4064, 8190, 16383, 32767, 65535] mixed (by kernel_rfl) ?_
  intro w1 hT1
  have HT1 := hid hT1
  have HP1 := hid (HP.out.keep hT1 (by simp))
  have HL1 := hid (HL.out.keep hT1 (by simp))
  clear hT1
  have c3 := HP1.out.cell (i := 3) rfl
  have e0 := HL1.out.cells encL_len rfl HI.out (j := 0) rfl
  simp only [Nat.add_zero] at e0
  have e1 := HL1.out.cells encL_len rfl HI.out (j := 1) rfl
  have e2 := HL1.out.cells encL_len rfl HI.out (j := 2) rfl
  have e3 := HL1.out.cells encL_len rfl HI.out (j := 3) rfl
  go_wp2_with (first | (refine wpT_pure rfl rfl rfl rfl (fun _ _ => ?_)) | (refine wpT_look rfl rfl rfl (fun _ _ => ?_)))
  have HA := hid (Tch.alloc w1 (.cells #[.int .i64 l.src, .int .i64 l.dst, .int .i64 l.seq, .string l.text] 84) [])
  obtain ⟨fl', w2, hr, hs2, ht2, hob⟩ := run_append_sl (P := Tryd.prog) encL_len encL_one Tryd.underlying78 (bytes := 40) (by kernel_rfl) rfl (HL1.out.keep HA.out (by simp)) hfl l (c := 1) (Blk.new w1 84 (encL l)) 78
  have hshape : ∃ g cap, fl' = .slice (some ⟨g, 0, none⟩) (N.flying.length + 1) cap := by
    rcases hs2.shape with ⟨_, h⟩ | ⟨g, cap, h, _⟩
    · simp at h
    · exact ⟨g, cap, by rw [h]; simp⟩
  obtain ⟨g', cap', rfl⟩ := hshape
  have HR := hid hr
  have HS2 := hid hs2
  have HOB := hid hob
  have HT2 := hid (HT1.out.trans (HA.out.ahead0 ht2) (T := F) (by simp) (fun x hx => .inl (by rw [HFE.out]; simp only [List.mem_cons]; exact .inr (.inr (.inr hx)))))
  have hP2 := (HP1.out.keep HA.out (by simp)).keep ht2 (fun hm => (HL.out.neBlk (by simpa using hm) HP.out (by decide)) rfl)
  have k3 := hP2.cell (i := 3) rfl
  have kf := hP2.frozen 3
  have HP2 := hid hP2
  have HSA := hid (((HS.out.keep HT1.out (by simp)).keep HA.out (by simp)).keep ht2 (fun hm => (HL.out.neMap (by simpa using hm) HS.out) rfl))
  have HCA := hid (((HC.out.keep HT1.out (by simp)).keep HA.out (by simp)).keep ht2 (fun hm => (HL.out.neMap (by simpa using hm) HC.out) rfl))
  clear hr hs2 ht2 hob hP2 c3 e0 e1 e2 e3
  refine wpT_one rfl rfl rfl (fun K hK => ?_)
  refine wp_append rfl rfl rfl HR.out ?_
  go_simp
  go_wp2_with (first | (refine wpT_pure rfl rfl rfl rfl (fun _ _ => ?_)) | (refine wpT_one rfl rfl rfl (fun _ _ => ?_)) | refine wpT_nil ?_)
  go_ret
  have npf : p ∈ F := by rw [HFE.out]; simp
  have hX := Tch.setCell w2 (S := [p]) (b := p) (i := 3) (.inl (by simp)) (.slice (some ⟨g', 0, none⟩) (N.flying.length + 1) cap')
  refine ⟨rfl, _, ⟨bs, bc, _, HP2.out.set 3 _, HSA.out.keep hX (by simpa using HSA.out.ne HP2.out), HCA.out.keep hX (by simpa using HCA.out.ne HP2.out), HS2.out.keep hX (fun b hb => by simpa using HS2.out.neBlk hb HP2.out (by decide)), H5.out, rfl⟩, ?_, HT2.out.andSet (.inl npf) _⟩
  intro x hx
  rw [HFE.out]
  simp only [List.mem_cons, Option.mem_toList] at hx ⊢
  rcases hx with rfl | rfl | rfl | hx
  · simp
  · simp
  · simp
  · rcases HOB.out with hob | hob
    · rw [hob] at hx; simp [hx]
    · rw [hob] at hx
      have hx' : (w1.alloc (.cells #[.int .i64 l.src, .int .i64 l.dst, .int .i64 l.seq, .string l.text] 84)).heap.size = x := Option.some.inj hx
      have := HT1.out.size
      right
      rw [← hx']
      simp
      omega

set_option maxRecDepth 100000 in
theorem double_no (p : Nat) (N : NetM) (F : List Nat) (i : Int) (w : World) (h : NetAt w p N F) (h1 : i < 0 ∨ N.flying.length ≤ i) :
    Calls Tryd.prog 41 #[.pointer (some ⟨p, 0, none⟩), .int .i64 i] w fun e w' => ∃ v, e = .returned v ∧ Err w' v 3 ∧ Tch [] w w' := by
  go_enter Tryd.func41, Tryd.ntmps41
  go_wp2_with fail
  refine (at_no p N F i w h h1).mono ?_
  rintro e w' ⟨v, rfl, ⟨f, a, s, rfl, hE⟩, hT⟩
  have HE := hid hE
  have HT := hid hT
  clear hE hT h
  go_wp2_with fail
  go_ret
  exact ⟨_, rfl, ⟨f, a, s, rfl, HE.out⟩, HT.out⟩

set_option maxRecDepth 100000 in
theorem send_no (p : Nat) (N : NetM) (F : List Nat) (a b : Int) (s : ByteArray) (w : World) (h : NetAt w p N F) (h1 : a < 0 ∨ N.workers ≤ a ∨ b < 0 ∨ N.workers ≤ b) :
    Calls Tryd.prog 33 #[.pointer (some ⟨p, 0, none⟩), .int .i64 a, .int .i64 b, .string s] w fun e w' => ∃ v, e = .returned v ∧ Err w' v 3 ∧ Tch [] w w' := by
  obtain ⟨bs, bc, fl, g1, g2, g3, g4, g5, hF⟩ := h
  have c0 := g1.cell (i := 0) rfl
  clear g1 g2 g3 g4 g5 hF
  by_cases hA : a < 0 ∨ N.workers ≤ a
  · clear h1
    go_enter Tryd.func33, Tryd.ntmps33
    go_wp2_with fail
    refine (has_no p N.workers a w c0 hA).mono ?_
    rintro e w' ⟨rfl, rfl⟩
    go_wp2_with fail
    refine (fnew_any 3 0 _ w).mono ?_
    rintro e w' ⟨rfl, hB, hT⟩
    have HB := hid hB
    have HT := hid hT
    clear hB hT
    go_wp2_with fail
    go_ret
    exact ⟨_, rfl, ⟨_, _, _, rfl, HB.out⟩, HT.out⟩
  · have ha : 0 ≤ a := by omega
    have ha' : a < N.workers := by omega
    have hB : b < 0 ∨ N.workers ≤ b := by omega
    clear h1 hA
    go_enter Tryd.func33, Tryd.ntmps33
    go_wp2_with fail
    refine (has_yes p N.workers a w c0 ha ha').mono ?_
    rintro e w' ⟨rfl, rfl⟩
    go_wp2_with fail
    refine (has_no p N.workers b w c0 hB).mono ?_
    rintro e w' ⟨rfl, rfl⟩
    go_wp2_with fail
    refine (fnew_any 3 0 _ w).mono ?_
    rintro e w' ⟨rfl, hB, hT⟩
    have HB := hid hB
    have HT := hid hT
    clear hB hT
    go_wp2_with fail
    go_ret
    exact ⟨_, rfl, ⟨_, _, _, rfl, HB.out⟩, HT.out⟩

end Go.Proofs.YtlchegpgicdldaaDoor

namespace Go.Proofs.YtlchegpgicdldaaDoor
open Go.RowKit Go.Reg

/-- an owned slice of letters from block B on -/
def SlFrom (B : Nat) (w : World) (v : Value) (l : List Letter) : Prop := w.ownsRow B 84 4 v l.length (l.flatMap encL)
theorem SlFrom.sl {B : Nat} {w : World} {v : Value} {l : List Letter} (h : SlFrom B w v l) : Sl 84 4 encL w v l := by
  refine ⟨h.1, ?_⟩
  rcases h.2 with h | ⟨g, cap, cur, hv, hB, r⟩
  · exact .inl h
  · exact .inr ⟨g, cap, cur, hv, Nat.zero_le _, r⟩
theorem SlFrom.ge {B : Nat} {w : World} {v : Value} {l : List Letter} (h : SlFrom B w v l) : ∀ b, v.ownBlock = some b → B ≤ b := fun b hb => (World.ownsRow.lt h b hb).1

theorem zeroLetter : (Tryd.prog.info? 84).map (fun i => (i.zero, i.size, i.bytes)) = some (some (.agg #[.int .i64 0, .int .i64 0, .int .i64 0, .string ⟨#[]⟩]), 4, 40) := by kernel_rfl

theorem flat_len (l : List Letter) : (l.flatMap encL).length = l.length * 4 := by
  induction l with
  | nil => rfl
  | cons x l ih => simp [ih, encL]; omega

theorem grown_tch {w w' : World} {row : Option Nat} (h : w.grownBy w' row) : Tch row.toList w w' :=
  ⟨h.os, h.tape, h.output, h.size, fun k hk hn => h.block k hk (fun e => hn (by rw [← e]; simp))⟩

set_option maxRecDepth 100000 in
theorem clone_ok (v : Value) (l : List Letter) (w : World) (h : Sl 84 4 encL w v l) (hl : l.length ≤ 4294967296) :
    Calls Tryd.prog 49 #[v] w fun e w' => ∃ v', e = .returned v' ∧ SlFrom w.heap.size w' v' l ∧ Tch [] w w' := by
  obtain ⟨i0, hi, hz0, hz1, hz2⟩ := info_parts zeroLetter
  rcases h.2 with ⟨rfl, hl0⟩ | ⟨g, cap, cur, rfl, _, hg, hnc, hcm, hcs, htake⟩
  · have hl0' : l = [] := List.eq_nil_of_length_eq_zero hl0
    subst hl0'
    clear h hl hl0 hi hz0 hz1 hz2
    have hn0 := fun w => Lib.run_eql_slice_nil (P := Tryd.prog) w 78 84 none 0 0 0 0 Tryd.underlying78
    go_enter Tryd.func49, Tryd.ntmps49
    go_wp2_with fail
    go_ret
    exact ⟨_, rfl, World.ownsRow_nil _ _ _ _, Tch.refl _ _⟩
  · have hcells : ∀ j u, (l.flatMap encL)[j]? = some u → w.cell? ((⟨g, 0, none⟩ : Addr).add j) = some u := World.ownsRow.cells h (g := g) rfl
    have ht0 : Tch [] w (w.alloc (.cells #[] 84)) := Tch.alloc _ _ _
    have hcells' : ∀ j u, (l.flatMap encL)[j]? = some u → (w.alloc (.cells #[] 84)).cell? ((⟨g, 0, none⟩ : Addr).add j) = some u := fun j u hu => by
      have := hcells j u hu
      rw [Addr.add_lit] at this ⊢
      exact ht0.cell this (by simp)
    obtain ⟨v', w', hr, ho, hgr, _⟩ := run_append_own (P := Tryd.prog) (w.alloc (.cells #[] 84)) w.heap.size 78 78 84 i0 _ 4 40 Tryd.underlying78 hi hz0 hz1 hz2 rfl (by decide)
      (.slice (some ⟨w.heap.size, 0, none⟩) 0 0) 0 [] (World.ownsRow_made w #[] 0 (Nat.le_refl _) (by simp [maxLen]) rfl) ⟨g, 0, none⟩ l.length cap (l.flatMap encL) (flat_len l) hcells' (fun u hu => by obtain ⟨x, _, hx⟩ := List.mem_flatMap.1 hu; exact encL_one x u hx) (by simp only [maxLen]; omega) (by omega) (by simp)
    simp only [Nat.zero_add, List.nil_append] at ho
    have HR := hid hr
    have HO := hid ho
    have HT := hid ((ht0).trans (grown_tch hgr) (T := []) (by simp) (fun x hx => .inr (by simp [Value.ownBlock] at hx; omega)))
    have hn0 := fun w => Lib.run_eql_slice_nil (P := Tryd.prog) w 78 84 (some ⟨g, 0, none⟩) l.length cap 0 0 Tryd.underlying78
    clear h hi hz0 hz1 hz2 hg hnc hcm hcs htake hcells hcells' hr ho hgr ht0
    go_enter Tryd.func49, Tryd.ntmps49
    go_wp2_with (first | (at_builtin; refine wpList_plain rfl (fun K hK => ?_); refine wp_append rfl rfl rfl HR.out ?_; go_simp))
    go_ret
    exact ⟨_, rfl, HO.out, HT.out⟩

set_option maxRecDepth 100000 in
theorem flying_ok (p : Nat) (N : NetM) (F : List Nat) (w : World) (h : NetAt w p N F) (hfl : N.flying.length ≤ 4294967296) :
    Calls Tryd.prog 35 #[.pointer (some ⟨p, 0, none⟩)] w fun e w' => ∃ v', e = .returned v' ∧ SlFrom w.heap.size w' v' N.flying ∧ Tch [] w w' := by
  obtain ⟨bs, bc, fl, h1, h2, h3, h4, h5, hF⟩ := h
  have c3 := h1.cell (i := 3) rfl
  have HL := hid h4
  clear h1 h2 h3 h4 h5 hF
  go_enter Tryd.func35, Tryd.ntmps35
  go_wp2_with fail
  refine (clone_ok fl N.flying w HL.out hfl).mono ?_
  rintro e w' ⟨v', rfl, hS, hT⟩
  have HS := hid hS
  have HT := hid hT
  clear hS hT
  go_wp2_with fail
  go_ret
  exact ⟨_, rfl, HS.out, HT.out⟩

theorem run_clear_row {P : Program} {t E ty : TypeId} {z : Value} (ht : P.underlying t = some (.slice E)) (hz : ∀ w, (zeroValue E).run P w = .ok z w) (h1 : ∀ u ∈ z.cells.toList, u.oneCell' = true) {g o c : Nat} {cur : Array Value} {w : World} (hg : w.heap[g]? = some (.cells cur E (0, 0))) (hfit : o + z.cells.size ≤ cur.size) :
    (Builtin.clear_ #[t] ty #[.slice (some ⟨g, o, none⟩) 1 c]).run P w = .ok (.tuple #[]) (w.setRow g (cur.toList.take o ++ z.cells.toList ++ cur.toList.drop (o + z.cells.size)).toArray) := by
  have hzc : (Builtin.zeroCells z.cells 1).toList = z.cells.toList := by
    simp only [Builtin.zeroCells, Nat.one_mul]
    apply List.ext_getElem
    · simp
    · intro i h1 h2
      have : i < z.cells.size := by simpa using h2
      simp [Nat.mod_eq_of_lt this, this]
  have hst := run_storeCells_at P g o E z.cells.toList 0 cur w hg (by simpa using hfit) h1
  simp only [Nat.add_zero, Array.length_toList] at hst
  simp [Builtin.clear_, run_underlying ht, hz, hzc, hst]

theorem _root_.Go.Reg.Tch.cellA {w w' : World} (h : Tch [] w w') {x : Addr} {v : Value} (hc : w.cell? x = some v) : w'.cell? x = some v := by
  rw [World.cell?_of_block (w := w) (h.blk x.block (World.block_lt_of_cell? w x hc) (by simp))]; exact hc

theorem zeroLetterV (w : World) : (zeroValue 84).run Tryd.prog w = .ok (.agg #[.int .i64 0, .int .i64 0, .int .i64 0, .string ⟨#[]⟩]) w := by kernel_rfl

theorem tch_setRow (w : World) (g : Nat) (cs : Array Value) : Tch [g] w (w.setRow g cs) := ⟨rfl, rfl, rfl, by simp [World.setRow], fun k _ hn => setRow_other w g k cs (by simpa using hn)⟩

theorem flat_take (l : List Letter) (i : Nat) : (l.take i).flatMap encL = (l.flatMap encL).take (i * 4) := by
  induction l generalizing i with
  | nil => simp
  | cons x l ih =>
    cases i with
    | zero => simp
    | succ i =>
      simp only [List.take_succ_cons, List.flatMap_cons, ih]
      rw [List.take_append, encL_len, show (i + 1) * 4 - 4 = i * 4 from by omega, List.take_of_length_le (l := encL x) (by rw [encL_len]; omega)]
theorem flat_drop (l : List Letter) (i : Nat) : (l.drop i).flatMap encL = (l.flatMap encL).drop (i * 4) := by
  induction l generalizing i with
  | nil => simp
  | cons x l ih =>
    cases i with
    | zero => simp
    | succ i =>
      simp only [List.drop_succ_cons, List.flatMap_cons, ih]
      rw [List.drop_append, encL_len, show (i + 1) * 4 - 4 = i * 4 from by omega, List.drop_of_length_le (l := encL x) (by rw [encL_len]; omega), List.nil_append]

set_option maxRecDepth 100000 in
set_option maxHeartbeats 1000000 in
theorem delete_ok (v : Value) (l : List Letter) (i : Nat) (w : World) (h : Sl 84 4 encL w v l) (hl : l.length ≤ 4294967296) (hi : i < l.length) :
    Calls Tryd.prog 56 #[v, .int .i64 i, .int .i64 (i + 1)] w
      fun e w' => ∃ v', e = .returned v' ∧ Sl 84 4 encL w' v' (l.eraseIdx i) ∧ Tch v.ownBlock.toList w w' ∧ v'.ownBlock = v.ownBlock := by
  obtain ⟨i0, hin, hz0, hz1, hz2⟩ := info_parts zeroLetter
  rcases h.2 with ⟨rfl, hl0⟩ | ⟨g, cap, cur, rfl, _, hg, hnc, hcm, hcs, htake⟩
  · omega
  generalize hn : l.length = n at *
  have hfl : (l.flatMap encL).length = n * 4 := by rw [flat_len, hn]
  have hcells : ∀ j u, (l.flatMap encL)[j]? = some u → w.cell? ⟨g, j, none⟩ = some u := fun j u hu => by
    have := World.ownsRow.cells h (g := g) rfl j u hu
    simpa [Addr.add_lit] using this
  -- what is moved
  have hnews : ∀ (a : Addr), (a = ⟨g, (i + 1) * 4, none⟩ ∨ cap = i + 1) → ∀ j u, ((l.drop (i + 1)).flatMap encL)[j]? = some u → w.drew.cell? (a.add j) = some u := fun a ha j u hu => by
    rw [flat_drop, List.getElem?_drop] at hu
    have hj := (List.getElem?_eq_some_iff.1 hu).1
    rw [hfl] at hj
    rcases ha with rfl | ha
    · rw [Addr.add_lit]; exact hcells _ _ hu
    · omega
  have hlen1 : ((l.drop (i + 1)).flatMap encL).length = (n - (i + 1)) * 4 := by rw [flat_len, List.length_drop, hn]
  have h1 : ∀ u ∈ (l.drop (i + 1)).flatMap encL, u.oneCell' = true := fun u hu => by obtain ⟨x, _, hx⟩ := List.mem_flatMap.1 hu; exact encL_one x u hx
  have hroom : i + (n - (i + 1)) ≤ cap := by omega
  have hfit : i * i0.size + ((l.drop (i + 1)).flatMap encL).length ≤ cur.size := by rw [hz1, hlen1, hcs]; omega
  have hnc' : n ≤ cap := hnc
  have hcm' : cap ≤ 9223372036854775807 := by simpa [maxLen] using hcm
  obtain ⟨m, rfl⟩ : ∃ m, n = m + 1 := ⟨n - 1, by omega⟩
  have hi' : i ≤ m := by omega
  -- the row behind the move, and behind the clearing
  have FIN : ∀ (cur2 : Array Value) (w2 : World), w2.heap[g]? = some (.cells cur2 84 (0, 0)) → cur2.size = cap * 4 → cur2.toList.take (m * 4) = (l.eraseIdx i).flatMap encL →
      Sl 84 4 encL w2 (.slice (some ⟨g, 0, none⟩) m cap) (l.eraseIdx i) := fun cur2 w2 hg2 hs2 ht2 => by
    have he : (l.eraseIdx i).length = m := by rw [List.length_eraseIdx_of_lt (by omega), hn]; omega
    unfold Sl
    rw [he]
    exact ⟨by rw [flat_len, he], .inr ⟨g, cap, cur2, rfl, Nat.zero_le _, hg2, by omega, hcm, hs2, ht2⟩⟩
  have hflat : (l.eraseIdx i).flatMap encL = (l.flatMap encL).take (i * 4) ++ (l.drop (i + 1)).flatMap encL := by
    rw [List.eraseIdx_eq_take_drop_succ, List.flatMap_append, flat_take]
  have hcur1 : (cur.toList.take (i * 4) ++ (l.drop (i + 1)).flatMap encL).length = m * 4 := by
    simp only [List.length_append, List.length_take, Array.length_toList, hlen1, hcs]; omega
  have htk : cur.toList.take (i * 4) = (l.flatMap encL).take (i * 4) := by
    rw [← htake, List.take_take, Nat.min_eq_left (by omega)]
  generalize hC1 : (cur.toList.take (i * 4) ++ (l.drop (i + 1)).flatMap encL ++ cur.toList.drop (i * 4 + ((l.drop (i + 1)).flatMap encL).length)).toArray = cur1
  have hs1 : cur1.size = cap * 4 := by
    rw [← hC1]; simp only [List.size_toArray, List.length_append, List.length_take, List.length_drop, Array.length_toList, hlen1, hcs]; omega
  have ht1 : cur1.toList.take (m * 4) = (l.eraseIdx i).flatMap encL := by
    rw [← hC1, hflat, ← htk]
    simp only []
    rw [← hcur1]; exact List.take_left
  generalize hC2 : (cur1.toList.take (m * 4) ++ [Value.int .i64 0, .int .i64 0, .int .i64 0, .string ⟨#[]⟩] ++ cur1.toList.drop (m * 4 + 4)).toArray = cur2
  have hs2 : cur2.size = cap * 4 := by
    rw [← hC2]; simp only [List.size_toArray, List.length_append, List.length_take, List.length_drop, Array.length_toList, hs1, List.length_cons, List.length_nil]; omega
  have ht2 : cur2.toList.take (m * 4) = (l.eraseIdx i).flatMap encL := by
    rw [← hC2, ← ht1]
    simp only [List.append_assoc]
    rw [List.take_append_of_le_length (by simp [hs1]; omega), List.take_take, Nat.min_self]
  have APP : ∀ (a : Addr) (c : Nat) (w1 : World), Tch [] w w1 → (a = ⟨g, (i + 1) * 4, none⟩ ∨ cap = i + 1) → (Builtin.append_ #[78, 78] 78 #[.slice (some ⟨g, 0, none⟩) i cap, .slice (some a) (m - i) c]).run Tryd.prog w1 = .ok (.slice (some ⟨g, 0, none⟩) m cap) (w1.setRow g cur1) := fun a c w1 hT ha => by
    have hg1 : w1.heap[g]? = some (.cells cur 84 (0, 0)) := by rw [hT.blk g (Array.getElem?_eq_some_iff.1 hg).1 (by simp)]; exact hg
    rw [show m - i = m + 1 - (i + 1) from by omega]
    have := run_append_room (P := Tryd.prog) w1 78 78 84 i0 Tryd.underlying78 hin g i cap cur hg1 a (m + 1 - (i + 1)) c ((l.drop (i + 1)).flatMap encL) (by rw [hlen1, hz1])
      (fun j u hu => by have := hnews a ha j u hu; exact hT.cellA this) h1 hroom hfit
    rw [hz1, hC1] at this
    rw [this]
    congr 2
    omega
  have CLR : ∀ (c : Nat) (w1 : World), w1.heap[g]? = some (.cells cur1 84 (0, 0)) → (Builtin.clear_ #[78] 0 #[.slice (some ⟨g, m * 4, none⟩) 1 c]).run Tryd.prog w1 = .ok (.tuple #[]) (w1.setRow g cur2) := fun c w1 hg1 => by
    have := run_clear_row (P := Tryd.prog) (ty := 0) Tryd.underlying78 zeroLetterV (by intro u hu; simp [Value.cells] at hu; rcases hu with rfl | rfl <;> rfl) (o := m * 4) (c := c) hg1 (by simp [Value.cells, hs1]; omega)
    rw [this]
    rw [← hC2]
    rfl
  have hb : ((i : Int) == (i : Int) + 1) = false := by simp; omega
  have HFIN := hid FIN
  have HAPP := hid APP
  have HCLR := hid CLR
  have HS2 := hid hs2
  have HT2 := hid ht2
  have HG := hid hg
  clear h hin hz0 hz1 hz2 hg hnc hcm hcs htake hcells hnews hfl hlen1 h1 hroom hfit hn FIN hflat hcur1 htk hC1 hs1 ht1 hC2 hs2 ht2 APP CLR
  by_cases hcap : cap = i + 1
  · have him : m = i := by omega
    subst him
    subst hcap
    go_enter Tryd.func56, Tryd.ntmps56
    go_wp2_with fail
    refine wp_region_g [] [0, 0, 0, 0, 0, 0, 3, 0] [0, 1, 2, 3, 4, 5, 6, 7] [0, 0, 3, 0, 0, 24, 63, 127] mixed (by kernel_rfl) ?_
    intro w1 hT
    have HT := hid hT
    clear hT
    go_wp2_with (first | (refine wpT_pure rfl rfl rfl rfl (fun _ _ => ?_)))
    have HR := hid (HAPP.out ⟨g, 0, none⟩ 0 w1 HT.out (.inr (by simp)))
    have hg2 := setRow_heap w1 g cur cur1 84 (0, 0) (by rw [HT.out.blk g (Array.getElem?_eq_some_iff.1 HG.out).1 (by simp)]; exact HG.out)
    have HTA := hid ((HT.out.mono (T := [g]) (by simp)).trans0 (tch_setRow w1 g cur1))
    generalize w1.setRow g cur1 = w2 at HR hg2 HTA
    have HG2 := hid hg2
    have hclr := HCLR.out 1 w2 hg2
    clear hg2
    rw [show m - m = 0 from by omega] at HR
    refine wpT_one rfl rfl rfl (fun K hK => ?_)
    refine wp_append rfl rfl rfl HR.out ?_
    go_simp
    go_wp2_with (first | (refine wpT_pure rfl rfl rfl rfl (fun _ _ => ?_)) | refine wpT_nil ?_)
    go_ret
    exact ⟨_, rfl, HFIN.out _ _ (setRow_heap w2 g cur1 cur2 _ (0, 0) HG2.out) HS2.out HT2.out, by simpa [Value.ownBlock] using HTA.out.trans0 (tch_setRow w2 g cur2), rfl⟩
  · go_enter Tryd.func56, Tryd.ntmps56
    go_wp2_with fail
    refine wp_region_g [] [0, 0, 0, 0, 0, 0, 3, 0] [0, 1, 2, 3, 4, 5, 6, 7] [0, 0, 3, 0, 0, 24, 63, 127] mixed (by kernel_rfl) ?_
    intro w1 hT
    have HT := hid hT
    clear hT
    go_wp2_with (first | (refine wpT_pure rfl rfl rfl rfl (fun _ _ => ?_)))
    have HR := hid (HAPP.out ⟨g, (i + 1) * 4, none⟩ (cap - (i + 1)) w1 HT.out (.inl rfl))
    have hg2 := setRow_heap w1 g cur cur1 84 (0, 0) (by rw [HT.out.blk g (Array.getElem?_eq_some_iff.1 HG.out).1 (by simp)]; exact HG.out)
    have HTA := hid ((HT.out.mono (T := [g]) (by simp)).trans0 (tch_setRow w1 g cur1))
    generalize w1.setRow g cur1 = w2 at HR hg2 HTA
    have HG2 := hid hg2
    have hclr := HCLR.out (cap - m) w2 hg2
    clear hg2
    refine wpT_one rfl rfl rfl (fun K hK => ?_)
    refine wp_append rfl rfl rfl HR.out ?_
    go_simp
    go_wp2_with (first | (refine wpT_pure rfl rfl rfl rfl (fun _ _ => ?_)) | refine wpT_nil ?_)
    go_ret
    exact ⟨_, rfl, HFIN.out _ _ (setRow_heap w2 g cur1 cur2 _ (0, 0) HG2.out) HS2.out HT2.out, by simpa [Value.ownBlock] using HTA.out.trans0 (tch_setRow w2 g cur2), rfl⟩
end Go.Proofs.YtlchegpgicdldaaDoor

namespace Go.Proofs.YtlchegpgicdldaaDoor
open Go.RowKit Go.Reg

def NetM.deliver (N : NetM) (i : Nat) (l : Letter) : NetM := { N with flying := N.flying.eraseIdx i, came := put N.came (l.src, l.dst, l.seq) l }

set_option maxRecDepth 100000 in
set_option maxHeartbeats 1000000 in
theorem deliver_ok (p : Nat) (N : NetM) (F : List Nat) (i : Nat) (l : Letter) (w : World) (h : NetAt w p N F) (hi : N.flying[i]? = some l) (hfl : N.flying.length ≤ 4294967296) :
    Calls Tryd.prog 40 #[.pointer (some ⟨p, 0, none⟩), .int .i64 i] w
      fun e w' => e = .returned .nilIface ∧ NetAt w' p (N.deliver i l) F ∧ Tch F w w' := by
  have hlt := (List.getElem?_eq_some_iff.1 hi).1
  have HN := hid h
  have HI := hid hi
  clear hi h
  go_enter Tryd.func40, Tryd.ntmps40
  go_wp2_with fail
  refine (at_yes p N F i w HN.out (by omega) (by omega)).mono ?_
  rintro e w' ⟨rfl, rfl⟩
  obtain ⟨bs, bc, fl, h1, h2, h3, h4, h5, hF⟩ := HN.out
  obtain ⟨g, cap, hfv⟩ : ∃ g cap, fl = .slice (some ⟨g, 0, none⟩) N.flying.length cap := by
    rcases h4.shape with ⟨_, h⟩ | ⟨g, cap, h, _⟩
    · rw [h] at hlt; simp at hlt
    · exact ⟨g, cap, h⟩
  subst hfv
  have c3 := h1.cell (i := 3) rfl
  have e0 := h4.cells encL_len rfl HI.out (j := 0) rfl
  simp only [Nat.add_zero] at e0
  have e1 := h4.cells encL_len rfl HI.out (j := 1) rfl
  have e2 := h4.cells encL_len rfl HI.out (j := 2) rfl
  have e3 := h4.cells encL_len rfl HI.out (j := 3) rfl
  have HP := hid h1
  have HS := hid h2
  have HC := hid h3
  have HL := hid h4
  have H5 := hid h5
  have HFE := hid hF
  have hps := h1.lt
  have HA := hid (Tch.alloc w (.cells #[.int .i64 l.src, .int .i64 l.dst, .int .i64 l.seq, .string l.text] 84) [])
  have HB := hid (Blk.new w 84 (encL l))
  clear h1 h2 h3 h4 h5 hF
  go_wp2_with fail
  refine (delete_ok _ N.flying i _ (HL.out.keep HA.out (by simp)) hfl hlt).mono ?_
  rintro e w2 ⟨fl', rfl, hL2, hT2, hob⟩
  have hfl' : ∃ a n c, fl' = .slice a n c := by
    obtain ⟨a, c, h⟩ := sl_len_eq hL2
    exact ⟨a, _, c, h⟩
  obtain ⟨a', n', c', rfl⟩ := hfl'
  have hob' := hob
  have hP2 := (HP.out.keep HA.out (by simp)).keep hT2 (fun hm => (HL.out.neBlk (by simpa using hm) HP.out (by decide)) rfl)
  have c32 := hP2.cell (i := 3) rfl
  have f32 := hP2.frozen 3
  have npf : p ∈ F := by rw [HFE.out]; simp
  have gF : g ∈ F := by rw [HFE.out]; simp [Value.ownBlock]
  have HT2 := hid (((HA.out.mono (T := F) (by simp)).trans hT2 (fun _ h => h) (fun x hx => .inl (by simp [Value.ownBlock] at hx; subst hx; exact gF))).andSet (i := 3) (.inl npf) (.slice a' n' c'))
  have HP2 := hid hP2
  have HX := hid (Tch.setCell w2 (S := [p]) (b := p) (i := 3) (.inl (by simp)) (.slice a' n' c'))
  have HP3 := hid (hP2.set 3 (.slice a' n' c'))
  have hS2 := (HS.out.keep HA.out (by simp)).keep hT2 (fun hm => (HL.out.neMap (by simpa using hm) HS.out) rfl)
  have hC2 := (HC.out.keep HA.out (by simp)).keep hT2 (fun hm => (HL.out.neMap (by simpa using hm) HC.out) rfl)
  have hB2 := HB.out.keep hT2 (fun hm => by have := HL.out.lt (b := w.heap.size) (by simpa using hm); omega)
  have HS3 := hid (hS2.keep HX.out (by simpa using hS2.ne hP2))
  have HC3 := hid (hC2.keep HX.out (by simpa using hC2.ne hP2))
  have HB3 := hid (hB2.keep HX.out (by simpa using hB2.ne hP2 (by decide)))
  have HL3 := hid (hL2.keep HX.out (fun b hb => by simpa using hL2.neBlk hb hP2 (by decide)))
  have HOB := hid hob
  clear c3 e0 e1 e2 e3 hL2 hT2 hob hob' hP2 hS2 hC2 hB2
  go_wp2_with fail
  refine wp_region_g [] [0, 0, 0, 1, 0, 1, 0, 1, 0, 0, 1, 0, 1, 3] [0, 1, 2, 4, 6, 9, 3, 5, 7, 8, 10, 11, 12, 13] [0, 1, 3, 7, 0, 16, 0, 64, 240, 0, 512, 2032, 0, 8191] mixed (by kernel_rfl) ?_
  intro w4 hT4
  have HT4 := hid hT4
  have HP4 := hid (HP3.out.keep hT4 (by simp))
  have HC4 := hid (HC3.out.keep hT4 (by simp))
  have hB4 := HB3.out.keep hT4 (by simp)
  have c4 := HP4.out.cell (i := 4) rfl
  have d0 := hB4.cell (i := 0) rfl
  have d1 := hB4.cell (i := 1) rfl
  have d2 := hB4.cell (i := 2) rfl
  have d3 := hB4.cell (i := 3) rfl
  clear hT4 hB4
  go_wp2_with (first | (refine wpT_pure rfl rfl rfl rfl (fun _ _ => ?_)) | (refine wpT_look rfl rfl rfl (fun _ _ => ?_)))
  obtain ⟨w5, hr5, hM5, ht5⟩ := HC4.out.update stampOk Tryd.underlying97 (l.src, l.dst, l.seq) l
  have HR5 := hid (show (Instr.mapUpdate 97 (.map (some bc)) (.agg #[.int .i64 l.src, .int .i64 l.dst, .int .i64 l.seq]) (.agg #[.int .i64 l.src, .int .i64 l.dst, .int .i64 l.seq, .string l.text])).run Tryd.prog w4 = .ok () w5 from hr5)
  have HM5 := hid hM5
  have HT5 := hid ht5
  clear hr5 hM5 ht5 c4 d0 d1 d2 d3
  refine wpT_one rfl rfl rfl (fun K hK => ?_)
  refine wp_skip' (run_unit HR5.out) ?_
  go_simp
  go_wp2_with (first | (refine wpT_pure rfl rfl rfl rfl (fun _ _ => ?_)) | refine wpT_nil ?_)
  go_ret
  have nbp : p ∉ [bc] := by simpa using fun e => (HC3.out.ne HP3.out) e.symm
  refine ⟨rfl, ⟨bs, bc, _, HP4.out.keep HT5.out nbp, (HS3.out.keep HT4.out (by simp)).keep HT5.out (by simpa using H5.out), HM5.out, (HL3.out.keep HT4.out (by simp)).keep HT5.out (fun b hb => by simpa using HL3.out.neMap hb HC3.out), H5.out, ?_⟩, ?_⟩
  · rw [HFE.out, HOB.out]
  · exact (HT2.out.then0 HT4.out).trans HT5.out (fun _ h => h) (fun x hx => .inl (by rw [HFE.out]; simp at hx; simp [hx]))

set_option maxRecDepth 100000 in
theorem deliver_no (p : Nat) (N : NetM) (F : List Nat) (i : Int) (w : World) (h : NetAt w p N F) (h1 : i < 0 ∨ N.flying.length ≤ i) :
    Calls Tryd.prog 40 #[.pointer (some ⟨p, 0, none⟩), .int .i64 i] w fun e w' => ∃ v, e = .returned v ∧ Err w' v 3 ∧ Tch [] w w' := by
  go_enter Tryd.func40, Tryd.ntmps40
  go_wp2_with fail
  refine (at_no p N F i w h h1).mono ?_
  rintro e w' ⟨v, rfl, ⟨f, a, s, rfl, hE⟩, hT⟩
  have HE := hid hE
  have HT := hid hT
  clear hE hT h
  go_wp2_with fail
  go_ret
  exact ⟨_, rfl, ⟨f, a, s, rfl, HE.out⟩, HT.out⟩

end Go.Proofs.YtlchegpgicdldaaDoor
