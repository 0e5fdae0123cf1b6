/- What a net is in memory; Send. -/
import Derived.Test.YtlpjdngjmknniaaDoorNta
import Derived.Test.YtlpjdngjmknniaaDoorSli
namespace Go.Proofs.YtlpjdngjmknniaaDoor
open Go.RowKit Go.Reg

structure Letter where
  src : Int
  dst : Int
  seq : Int
  text : ByteArray
  deriving DecidableEq

def encL (l : Letter) : List Value := [.int .i64 l.src, .int .i64 l.dst, .int .i64 l.seq, .string l.text]
def valL (l : Letter) : Value := .agg #[.int .i64 l.src, .int .i64 l.dst, .int .i64 l.seq, .string l.text]
def valI (n : Int) : Value := .int .i64 n

structure NetM where
  workers : Int
  sent : List ((Int × Int) × Int)
  all : Int
  flying : List Letter
  came : List ((Int × Int × Int) × Letter)

theorem encL_len (l : Letter) : (encL l).length = 4 := rfl
theorem encL_one (l : Letter) : ∀ u ∈ encL l, u.oneCell' = true := by intro u hu; simp [encL] at hu; rcases hu with rfl | rfl | rfl | rfl <;> rfl

/-- p points to a net N, made of the blocks F -/
def NetAt (w : World) (p : Nat) (N : NetM) (F : List Nat) : Prop :=
  ∃ bs bc fl, Blk w p 97 [.int .i64 N.workers, .map (some bs), .int .i64 N.all, fl, .map (some bc)] ∧ MapAt encWay valI w bs N.sent ∧ MapAt encStamp valL w bc N.came ∧
    Sl 50 4 encL w fl N.flying ∧ bs ≠ bc ∧ F = p :: bs :: bc :: fl.ownBlock.toList

theorem NetAt.keep {w w' : World} {p : Nat} {N : NetM} {F S : List Nat} (h : NetAt w p N F) (t : Tch S w w') (hd : ∀ x ∈ F, x ∉ S) : NetAt w' p N F := by
  obtain ⟨bs, bc, fl, h1, h2, h3, h4, h5, rfl⟩ := h
  exact ⟨bs, bc, fl, h1.keep t (hd p (by simp)), h2.keep t (hd bs (by simp)), h3.keep t (hd bc (by simp)), h4.keep t (fun b hb => hd b (by simp [hb])), h5, rfl⟩
theorem NetAt.lt {w : World} {p : Nat} {N : NetM} {F : List Nat} (h : NetAt w p N F) : ∀ x ∈ F, x < w.heap.size := by
  obtain ⟨bs, bc, fl, h1, h2, h3, h4, h5, rfl⟩ := h
  intro x hx
  simp at hx
  rcases hx with rfl | rfl | rfl | hx
  · exact h1.lt
  · exact h2.lt
  · exact h3.lt
  · exact h4.lt hx
theorem NetAt.here {w : World} {p : Nat} {N : NetM} {F : List Nat} (h : NetAt w p N F) : p ∈ F := by
  obtain ⟨bs, bc, fl, h1, h2, h3, h4, h5, rfl⟩ := h; simp

set_option maxRecDepth 100000 in
theorem has_yes (p : Nat) (k v : Int) (w : World) (h : w.cell? ⟨p, 0, none⟩ = some (.int .i64 k)) (h1 : 0 ≤ v) (h2 : v < k) :
    Calls Tryd.prog 60 #[.pointer (some ⟨p, 0, none⟩), .int .i64 v] w fun e w' => e = .returned (.bool true) ∧ w = w' := by
  go_enter Tryd.func60, Tryd.ntmps60
  go_wp2
  go_ret
  exact ⟨rfl, rfl⟩
set_option maxRecDepth 100000 in
theorem has_no (p : Nat) (k v : Int) (w : World) (h : w.cell? ⟨p, 0, none⟩ = some (.int .i64 k)) (h1 : v < 0 ∨ k ≤ v) :
    Calls Tryd.prog 60 #[.pointer (some ⟨p, 0, none⟩), .int .i64 v] w fun e w' => e = .returned (.bool false) ∧ w = w' := by
  by_cases hv : v < 0
  · clear h1
    go_enter Tryd.func60, Tryd.ntmps60
    go_wp2
    go_ret
    exact ⟨rfl, rfl⟩
  · have h0 : 0 ≤ v := by omega
    have h3 : ¬ v < k := by omega
    clear h1 hv
    go_enter Tryd.func60, Tryd.ntmps60
    go_wp2
    go_ret
    exact ⟨rfl, rfl⟩

theorem zeroInt (w : World) : (zeroValue 3).run Tryd.prog w = .ok (valI 0) w := by kernel_rfl

def NetM.next (N : NetM) (a b : Int) : Int := (get N.sent (a, b)).getD 0
def NetM.send (N : NetM) (a b : Int) (s : ByteArray) : NetM :=
  { N with sent := put N.sent (a, b) (N.next a b + 1), all := N.all + 1, flying := N.flying ++ [⟨a, b, N.next a b, s⟩] }

set_option maxRecDepth 100000 in
set_option maxHeartbeats 1000000 in
theorem send_ok (p : Nat) (N : NetM) (F : List Nat) (a b : Int) (s : ByteArray) (w : World) (h : NetAt w p N F) (ha : 0 ≤ a) (ha' : a < N.workers) (hb : 0 ≤ b) (hb' : b < N.workers)
    (hfl : N.flying.length ≤ 4294967296) (hall : 0 ≤ N.all ∧ N.all ≤ 4294967296) (hnx : 0 ≤ N.next a b ∧ N.next a b ≤ 4294967296) :
    Calls Tryd.prog 29 #[.pointer (some ⟨p, 0, none⟩), .int .i64 a, .int .i64 b, .string s] w
      fun e w' => e = .returned .nilIface ∧ ∃ F', NetAt w' p (N.send a b s) F' ∧ (∀ x ∈ F', x ∈ F ∨ w.heap.size ≤ x) ∧ Tch F w w' := by
  obtain ⟨bs, bc, fl, h1, h2, h3, h4, h5, hF⟩ := h
  have c0 := h1.cell (i := 0) rfl
  have HP := hid h1
  have HS := hid h2
  have HC := hid h3
  have HL := hid h4
  have H5 := hid h5
  have HFE := hid hF
  clear h1 h2 h3 h4 h5 hF
  go_enter Tryd.func29, Tryd.ntmps29
  go_wp2_with fail
  refine (has_yes p N.workers a w c0 ha ha').mono ?_
  rintro e w' ⟨rfl, rfl⟩
  go_wp2_with fail
  refine (has_yes p N.workers b w c0 hb hb').mono ?_
  rintro e w' ⟨rfl, rfl⟩
  go_wp2_with fail
  have HT0 := hid (Tch.alloc w (.cells #[.int .i64 a, .int .i64 b] 99) [])
  have HW0 := hid (Blk.new w 99 [.int .i64 a, .int .i64 b])
  refine wp_region_g [] [0, 0, 0, 0, 1, 0, 0, 0, 0, 0, 1, 1, 5, 0, 0, 6, 3, 0, 0, 3] [0, 1, 2, 3, 5, 6, 7, 8, 9, 13, 4, 10, 11, 12, 14, 15, 16, 17, 18, 19] [0, 0, 2, 6, 14, 0, 0, 0, 128, 384, 896, 0, 3968, 0, 16352, 32736, 65534, 131071, 262143, 524287] mixed (by kernel_rfl) ?_
  intro w1 hT1
  have HT1 := hid (HT0.out.then0 hT1)
  have HP1 := hid (HP.out.keep HT1.out (by simp))
  have HW1 := hid (HW0.out.keep hT1 (by simp))
  have HS1 := hid (HS.out.keep HT1.out (by simp))
  clear hT1
  have c1 := HP1.out.cell (i := 1) rfl
  have c3 := HP1.out.cell (i := 3) rfl
  have d0 := HW1.out.cell (i := 0) rfl
  have d1 := HW1.out.cell (i := 1) rfl
  go_wp2_with (first | (refine wpT_pure rfl rfl rfl rfl (fun _ _ => ?_)) | (refine wpT_look rfl rfl rfl (fun _ _ => ?_)))
  refine wpT_read rfl rfl rfl (.int .i64 (N.next a b)) (fun w2 he => ?_) ?_
  · exact run_val ((HS1.out.ext he).look wayOk Tryd.underlying94 (z := 0) zeroInt (a, b))
  go_wp2_with (first | (refine wpT_pure rfl rfl rfl rfl (fun _ _ => ?_)) | (refine wpT_look rfl rfl rfl (fun _ _ => ?_)))
  have HA := hid (Tch.alloc w1 (.cells #[.int .i64 a, .int .i64 b, .int .i64 (N.next a b), .string s] 50) [])
  obtain ⟨fl', w2, hr, hs2, ht2, hob⟩ := run_append_sl (P := Tryd.prog) encL_len encL_one Tryd.underlying40 (bytes := 40) (by kernel_rfl) rfl ((HL.out.keep HT1.out (by simp)).keep HA.out (by simp)) hfl (⟨a, b, N.next a b, s⟩ : Letter) (c := 1) (Blk.new w1 50 (encL ⟨a, b, N.next a b, s⟩)) 40
  have hshape : ∃ g cap, fl' = .slice (some ⟨g, 0, none⟩) (N.flying.length + 1) cap := by
    rcases hs2.shape with ⟨_, h⟩ | ⟨g, cap, h, _⟩
    · simp at h
    · exact ⟨g, cap, by rw [h]; simp⟩
  obtain ⟨g, cap, rfl⟩ := hshape
  have HR := hid hr
  have HS2 := hid hs2
  have HT2 := hid (HT1.out.trans (HA.out.ahead0 ht2) (T := F) (by simp) (fun x hx => .inl (by rw [HFE.out]; simp only [List.mem_cons]; exact .inr (.inr (.inr hx)))))
  have HOB := hid hob
  have hP2 : Blk w2 p 97 [.int .i64 N.workers, .map (some bs), .int .i64 N.all, fl, .map (some bc)] := ((HP1.out.keep HA.out (by simp)).keep ht2 (fun hm => (HL.out.neBlk (by simpa using hm) HP.out (by decide)) rfl))
  have k3 := hP2.cell (i := 3) rfl
  have kf := hP2.frozen 3
  have nbs : bs ∉ fl.ownBlock.toList := fun hm => (HL.out.neMap (by simpa using hm) HS.out) rfl
  have nbc : bc ∉ fl.ownBlock.toList := fun hm => (HL.out.neMap (by simpa using hm) HC.out) rfl
  have nw : w.heap.size ∉ fl.ownBlock.toList := fun hm => by have := HL.out.lt (b := w.heap.size) (by simpa using hm); omega
  have HSA := hid ((HS1.out.keep HA.out (by simp)).keep ht2 nbs)
  have HCA := hid (((HC.out.keep HT1.out (by simp)).keep HA.out (by simp)).keep ht2 nbc)
  have HWA := hid ((HW1.out.keep HA.out (by simp)).keep ht2 nw)
  have HP2 := hid hP2
  clear hr hs2 ht2 hob hP2 nbs nbc nw
  refine wpT_one rfl rfl rfl (fun K hK => ?_)
  refine wp_append rfl rfl rfl HR.out ?_
  go_simp
  go_wp2_with (first | (refine wpT_pure rfl rfl rfl rfl (fun _ _ => ?_)) | (refine wpT_one rfl rfl rfl (fun _ _ => ?_)) | refine wpT_nil ?_)
  have npf : p ∈ F := by rw [HFE.out]; simp
  have HT3 := hid (HT2.out.andSet (i := 3) (.inl npf) (.slice (some ⟨g, 0, none⟩) (N.flying.length + 1) cap))
  have HX := hid (Tch.setCell w2 (S := [p]) (b := p) (i := 3) (.inl (by simp)) (.slice (some ⟨g, 0, none⟩) (N.flying.length + 1) cap))
  have HP3 := hid (HP2.out.set 3 (.slice (some ⟨g, 0, none⟩) (N.flying.length + 1) cap))
  have HS3 := hid (HSA.out.keep HX.out (by simpa using HSA.out.ne HP2.out))
  have HC3 := hid (HCA.out.keep HX.out (by simpa using HCA.out.ne HP2.out))
  have HW3 := hid (HWA.out.keep HX.out (by simpa using HWA.out.ne HP2.out (by decide)))
  have HL3 := hid (HS2.out.keep HX.out (fun b hb => by simpa using HS2.out.neBlk hb HP2.out (by decide)))
  clear k3 kf c1 c3 d0 d1
  obtain ⟨hn0, hn1⟩ := hnx
  obtain ⟨ha0, ha1⟩ := hall
  have FIN := hid (show ∀ w5, Tch [bs] (w2.setCell ⟨p, 3, none⟩ (.slice (some ⟨g, 0, none⟩) (N.flying.length + 1) cap)) w5 → MapAt encWay valI w5 bs (put N.sent (a, b) (N.next a b + 1)) →
      ∃ F', NetAt (w5.setCell ⟨p, 2, none⟩ (.int .i64 (N.all + 1))) p (N.send a b s) F' ∧ (∀ x ∈ F', x ∈ F ∨ w.heap.size ≤ x) ∧ Tch F w (w5.setCell ⟨p, 2, none⟩ (.int .i64 (N.all + 1))) from by
    intro w5 hT hM
    have npb : p ∉ [bs] := by simpa using fun e => (HS3.out.ne HP3.out) e.symm
    have hP5 := HP3.out.keep hT npb
    have hX := Tch.setCell w5 (S := [p]) (b := p) (i := 2) (.inl (by simp)) (.int .i64 (N.all + 1))
    have hL5 := HL3.out.keep hT (fun b hb => by simpa using HL3.out.neMap hb HS3.out)
    refine ⟨_, ⟨bs, bc, _, hP5.set 2 _, hM.keep hX (by simpa using hM.ne hP5), (HC3.out.keep hT (by simpa using H5.out.symm)).keep hX (by simpa using (HC3.out.keep hT (by simpa using H5.out.symm)).ne hP5),
      hL5.keep hX (fun b hb => by simpa using hL5.neBlk hb hP5 (by decide)), H5.out, rfl⟩, ?_, ?_⟩
    · intro x hx
      rw [HFE.out]
      simp only [List.mem_cons, Option.mem_toList] at hx ⊢
      rcases hx with rfl | rfl | rfl | hx
      · simp
      · simp
      · simp
      · rcases HOB.out with hob | hob
        · rw [hob] at hx; simp [hx]
        · rw [hob] at hx
          have hx' : (w1.alloc (.cells #[.int .i64 a, .int .i64 b, .int .i64 (N.next a b), .string s] 50)).heap.size = x := Option.some.inj hx
          have := HT1.out.size
          right
          rw [← hx']
          simp
          omega
    · exact (HT3.out.trans hT (fun _ h => h) (fun x hx => .inl (by rw [HFE.out]; simp at hx; simp [hx]))).andSet (.inl npf) _)
  refine wp_region_2g [] [0, 0, 0, 1, 1, 5, 0, 3, 0, 3] 5 7 [0, 1, 2, 3, 4, 5, 6, 7, 8, 9] [0, 1, 3, 7, 0, 31, 63, 63, 191, 511] [0, 1, 2, 3, 4, 7, 8, 5, 6, 9] [0, 1, 3, 7, 0, 159, 191, 31, 159, 511] mixed rfl (by kernel_rfl) (by kernel_rfl) ?_ ?_
  · intro w3 hT
    have HP4 := hid (HP3.out.keep hT (by simp))
    have HS4 := hid (HS3.out.keep hT (by simp))
    have HW4 := hid (HW3.out.keep hT (by simp))
    have c1 := HP4.out.cell (i := 1) rfl
    have d0 := HW4.out.cell (i := 0) rfl
    have d1 := HW4.out.cell (i := 1) rfl
    have HT := hid hT
    clear hT
    go_wp2_with (first | (refine wpT_pure rfl rfl rfl rfl (fun _ _ => ?_)) | (refine wpT_look rfl rfl rfl (fun _ _ => ?_)))
    obtain ⟨w4, n, hr, hE, ht⟩ := HS4.out.entry wayOk Tryd.underlying94 (a, b) (z := 0) zeroInt
    have HR := hid (show (Instr.mapEntry 94 (.map (some bs)) (.agg #[.int .i64 a, .int .i64 b])).run Tryd.prog w3 = .ok (.tuple #[.int .i64 (N.next a b), .int .i64 n]) w4 from hr)
    obtain ⟨w5, hr5, hM5, ht5⟩ := hE.store 94 (N.next a b + 1)
    rw [put_ensure] at hM5
    have HR5 := hid (show (Instr.entryStore 94 (.map (some bs)) (.int .i64 n) (.int .i64 (N.next a b + 1))).run Tryd.prog w4 = .ok () w5 from hr5)
    have hP5 := (HP4.out.keep (ht.trans0 ht5) (by simpa using fun e => (HS3.out.ne HP3.out) e.symm))
    have c2 := hP5.cell (i := 2) rfl
    have f2 := hP5.frozen 2
    have HFN := hid (FIN.out w5 (HT.out.ahead0 (ht.trans0 ht5)) hM5)
    clear hr hr5 hE hM5 ht ht5 hP5
    refine wpT_read rfl rfl rfl (.int .i64 (N.next a b)) (fun w2 he => ?_) ?_
    · exact run_val ((HS4.out.ext he).look wayOk Tryd.underlying94 (z := 0) zeroInt (a, b))
    go_wp2_with (first | (refine wpT_pure rfl rfl rfl rfl (fun _ _ => ?_)))
    refine wpT_one rfl rfl rfl (fun K hK => ?_)
    refine wp_val (run_val HR.out) ?_
    go_simp
    go_wp2_with (first | (refine wpT_pure rfl rfl rfl rfl (fun _ _ => ?_)))
    refine wpT_one rfl rfl rfl (fun K hK => ?_)
    refine wp_skip' (run_unit HR5.out) ?_
    go_simp
    go_wp2_with (first | (refine wpT_pure rfl rfl rfl rfl (fun _ _ => ?_)) | refine wpT_nil ?_)
    go_ret
    exact ⟨rfl, HFN.out⟩
  · intro w3 hT
    have HP4 := hid (HP3.out.keep hT (by simp))
    have HS4 := hid (HS3.out.keep hT (by simp))
    have HW4 := hid (HW3.out.keep hT (by simp))
    have c1 := HP4.out.cell (i := 1) rfl
    have d0 := HW4.out.cell (i := 0) rfl
    have d1 := HW4.out.cell (i := 1) rfl
    have HT := hid hT
    clear hT
    go_wp2_with (first | (refine wpT_pure rfl rfl rfl rfl (fun _ _ => ?_)) | (refine wpT_look rfl rfl rfl (fun _ _ => ?_)))
    obtain ⟨w4, n, hr, hE, ht⟩ := HS4.out.entry wayOk Tryd.underlying94 (a, b) (z := 0) zeroInt
    have HE4 := hid hE.map
    have HR := hid (show (Instr.mapEntry 94 (.map (some bs)) (.agg #[.int .i64 a, .int .i64 b])).run Tryd.prog w3 = .ok (.tuple #[.int .i64 (N.next a b), .int .i64 n]) w4 from hr)
    obtain ⟨w5, hr5, hM5, ht5⟩ := hE.store 94 (N.next a b + 1)
    rw [put_ensure] at hM5
    have HR5 := hid (show (Instr.entryStore 94 (.map (some bs)) (.int .i64 n) (.int .i64 (N.next a b + 1))).run Tryd.prog w4 = .ok () w5 from hr5)
    have hP5 := (HP4.out.keep (ht.trans0 ht5) (by simpa using fun e => (HS3.out.ne HP3.out) e.symm))
    have c2 := hP5.cell (i := 2) rfl
    have f2 := hP5.frozen 2
    have HFN := hid (FIN.out w5 (HT.out.ahead0 (ht.trans0 ht5)) hM5)
    clear hr hr5 hE hM5 ht ht5 hP5
    refine wpT_one rfl rfl rfl (fun K hK => ?_)
    refine wp_val (run_val HR.out) ?_
    go_simp
    go_wp2_with (first | (refine wpT_pure rfl rfl rfl rfl (fun _ _ => ?_)))
    refine wpT_read rfl rfl rfl (.int .i64 (N.next a b)) (fun w2 he => ?_) ?_
    · have := (HE4.out.ext he).look wayOk Tryd.underlying94 (z := 0) zeroInt (a, b)
      rw [get_ensure] at this
      exact run_val this
    go_wp2_with (first | (refine wpT_pure rfl rfl rfl rfl (fun _ _ => ?_)))
    refine wpT_one rfl rfl rfl (fun K hK => ?_)
    refine wp_skip' (run_unit HR5.out) ?_
    go_simp
    go_wp2_with (first | (refine wpT_pure rfl rfl rfl rfl (fun _ _ => ?_)) | refine wpT_nil ?_)
    go_ret
    exact ⟨rfl, HFN.out⟩
end Go.Proofs.YtlpjdngjmknniaaDoor
