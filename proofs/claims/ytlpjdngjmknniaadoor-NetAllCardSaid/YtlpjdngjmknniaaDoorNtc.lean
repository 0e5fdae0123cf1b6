/- net: New, Missing, Quiet, at, Double, Flying, Send's errors. -/
import Derived.Test.YtlpjdngjmknniaaDoorNtb
namespace Go.Proofs.YtlpjdngjmknniaaDoor
open Go.RowKit Go.Reg

set_option maxRecDepth 100000 in
theorem missing_ok (p : Nat) (N : NetM) (F : List Nat) (w : World) (h : NetAt w p N F) (ha0 : 0 ≤ N.all) (ha1 : N.all ≤ 4294967296) (hc : N.came.length ≤ 4294967296) :
    Calls Tryd.prog 21 #[.pointer (some ⟨p, 0, none⟩)] w fun e w' => e = .returned (.int .i64 (N.all - N.came.length)) ∧ Tch [] w w' := by
  obtain ⟨bs, bc, fl, h1, h2, h3, h4, h5, hF⟩ := h
  have HP := hid h1
  have HC := hid h3
  clear h1 h2 h3 h4 h5 hF
  go_enter Tryd.func21, Tryd.ntmps21
  go_wp2_with fail
  refine wp_region_g [] [0, 0, 0, 1, 0, 0, 0, 1, 1, 0, 0] [0, 1, 2, 4, 5, 6, 3, 7, 8, 9, 10] [0, 1, 3, 7, 0, 16, 48, 112, 240, 511, 1023] mixed (by kernel_rfl) ?_
  intro w1 hT
  have c2 := (HP.out.keep hT (by simp)).cell (i := 2) rfl
  have c4 := (HP.out.keep hT (by simp)).cell (i := 4) rfl
  have hl := (HC.out.keep hT (by simp)).len (P := Tryd.prog) Tryd.underlying95 3
  have HT := hid hT
  clear hT
  go_wp2_with (first | (refine wpT_pure rfl rfl rfl rfl (fun _ _ => ?_)) | (refine wpT_look rfl rfl rfl (fun _ _ => ?_)) | refine wpT_nil ?_)
  go_ret
  exact ⟨rfl, HT.out⟩

set_option maxRecDepth 100000 in
theorem quiet_ok (p : Nat) (N : NetM) (F : List Nat) (w : World) (h : NetAt w p N F) (ha0 : 0 ≤ N.all) (ha1 : N.all ≤ 4294967296) (hc : N.came.length ≤ 4294967296) :
    Calls Tryd.prog 22 #[.pointer (some ⟨p, 0, none⟩)] w fun e w' => e = .returned (.bool (N.all - N.came.length == 0)) ∧ Tch [] w w' := by
  go_enter Tryd.func22, Tryd.ntmps22
  go_wp2_with fail
  refine (missing_ok p N F w h ha0 ha1 hc).mono ?_
  rintro e w' ⟨rfl, hT⟩
  have HT := hid hT
  clear hT h
  generalize hx : N.all - N.came.length = x
  have HX := hid hx
  clear hx
  go_wp2_with fail
  go_ret
  refine ⟨?_, HT.out⟩
  rw [HX.out]
  rfl

set_option maxRecDepth 100000 in
theorem fresh_ok (k : Int) (w : World) :
    Calls Tryd.prog 48 #[.int .i64 k] w fun e w' => ∃ p F, e = .returned (.pointer (some ⟨p, 0, none⟩)) ∧ NetAt w' p ⟨k, [], 0, [], []⟩ F ∧ (∀ x ∈ F, w.heap.size ≤ x) ∧ Tch [] w w' := by
  have hmm := @run_makeMap Tryd.prog
  have HA := hid (MapAt.new encWay valI w)
  have HB := hid (MapAt.new encStamp valL (w.alloc (.map #[] 0)))
  go_enter Tryd.func48, Tryd.ntmps48
  go_wp2_with fail
  go_ret
  have t1 : Tch [] w (w.alloc (.map #[] 0)) := Tch.alloc _ _ _
  have t2 : Tch [] (w.alloc (.map #[] 0)) ((w.alloc (.map #[] 0)).alloc (.map #[] 0)) := Tch.alloc _ _ _
  refine ⟨_, _, rfl, ⟨w.heap.size, w.heap.size + 1, .slice none 0 0, ?_, (HA.out.keep t2 (by simp)).keep (Tch.alloc _ _ []) (by simp), ?_, Sl.nil _ _ _ _, by omega, rfl⟩, ?_, ((Tch.refl [] w).andAlloc _).andAlloc _ |>.andAlloc _⟩
  · have := Blk.new ((w.alloc (.map #[] 0)).alloc (.map #[] 0)) 97 [.int .i64 k, .map (some w.heap.size), .int .i64 0, .slice none 0 0, .map (some (w.heap.size + 1))]
    simpa using this
  · have := HB.out.keep (Tch.alloc _ (.cells #[.int .i64 k, .map (some w.heap.size), .int .i64 0, .slice none 0 0, .map (some (w.heap.size + 1))] 97) []) (by simp)
    simpa using this
  · intro x hx
    simp [Value.ownBlock] at hx
    omega

set_option maxRecDepth 100000 in
theorem new_yes (k : Int) (w : World) (h1 : 1 ≤ k) (h2 : k ≤ 64) :
    Calls Tryd.prog 15 #[.int .i64 k] w fun e w' => ∃ p F, e = .returned (.tuple #[.pointer (some ⟨p, 0, none⟩), .nilIface]) ∧ NetAt w' p ⟨k, [], 0, [], []⟩ F ∧ (∀ x ∈ F, w.heap.size ≤ x) ∧ Tch [] w w' := by
  go_enter Tryd.func15, Tryd.ntmps15
  go_wp2_with fail
  refine (fresh_ok k w).mono ?_
  rintro e w' ⟨p, F, rfl, hN, hF, hT⟩
  have HN := hid hN
  have HF := hid hF
  have HT := hid hT
  clear hN hF hT
  go_wp2_with fail
  go_ret2
  exact ⟨p, F, rfl, HN.out, HF.out, HT.out⟩

/-- an error: a fault of this code -/
def Err (w : World) (v : Value) (c : Int) : Prop := ∃ f a s, v = .iface 88 (.pointer (some ⟨f, 0, none⟩)) ∧ Blk w f 91 [.int .i64 c, a, s]

set_option maxRecDepth 100000 in
theorem new_no (k : Int) (w : World) (h1 : k < 1 ∨ 64 < k) :
    Calls Tryd.prog 15 #[.int .i64 k] w fun e w' => ∃ v, e = .returned (.tuple #[.pointer none, v]) ∧ Err w' v 1 ∧ Tch [] w w' := by
  by_cases hk : k < 1
  · clear h1
    go_enter Tryd.func15, Tryd.ntmps15
    go_wp2_with fail
    refine (fnew_any 1 0 _ w).mono ?_
    rintro e w' ⟨rfl, hB, hT⟩
    have HB := hid hB
    have HT := hid hT
    clear hB hT
    go_wp2_with fail
    go_ret2
    exact ⟨_, rfl, ⟨_, _, _, rfl, HB.out⟩, HT.out⟩
  · have h2 : 64 < k := by omega
    clear h1
    go_enter Tryd.func15, Tryd.ntmps15
    go_wp2_with fail
    refine (fnew_any 1 0 _ w).mono ?_
    rintro e w' ⟨rfl, hB, hT⟩
    have HB := hid hB
    have HT := hid hT
    clear hB hT
    go_wp2_with fail
    go_ret2
    exact ⟨_, rfl, ⟨_, _, _, rfl, HB.out⟩, HT.out⟩
theorem sl_len_eq {w : World} {v : Value} {l : List Letter} (h : Sl 50 4 encL w v l) : ∃ a c, v = .slice a l.length c := by
  rcases h.shape with ⟨rfl, rfl⟩ | ⟨g, cap, rfl, _⟩
  · exact ⟨none, 0, rfl⟩
  · exact ⟨_, _, rfl⟩

set_option maxRecDepth 100000 in
theorem at_yes (p : Nat) (N : NetM) (F : List Nat) (i : Int) (w : World) (h : NetAt w p N F) (h1 : 0 ≤ i) (h2 : i < N.flying.length) :
    Calls Tryd.prog 55 #[.pointer (some ⟨p, 0, none⟩), .int .i64 i] w fun e w' => e = .returned .nilIface ∧ w = w' := by
  obtain ⟨bs, bc, fl, h1, h2, h3, h4, h5, hF⟩ := h
  obtain ⟨a, c, rfl⟩ := sl_len_eq h4
  have c3 := h1.cell (i := 3) rfl
  clear h1 h2 h3 h4 h5 hF
  go_enter Tryd.func55, Tryd.ntmps55
  go_wp2_with fail
  go_ret
  exact ⟨rfl, rfl⟩

set_option maxRecDepth 100000 in
theorem at_no (p : Nat) (N : NetM) (F : List Nat) (i : Int) (w : World) (h : NetAt w p N F) (h1 : i < 0 ∨ N.flying.length ≤ i) :
    Calls Tryd.prog 55 #[.pointer (some ⟨p, 0, none⟩), .int .i64 i] w fun e w' => ∃ v, e = .returned v ∧ Err w' v 3 ∧ Tch [] w w' := by
  obtain ⟨bs, bc, fl, g1, g2, g3, g4, g5, hF⟩ := h
  obtain ⟨a, c, rfl⟩ := sl_len_eq g4
  have c3 := g1.cell (i := 3) rfl
  clear g1 g2 g3 g4 g5 hF
  by_cases hi : i < 0
  · clear h1
    go_enter Tryd.func55, Tryd.ntmps55
    go_wp2_with fail
    refine (fnew_any 3 0 _ w).mono ?_
    rintro e w' ⟨rfl, hB, hT⟩
    have HB := hid hB
    have HT := hid hT
    clear hB hT
    go_wp2_with fail
    go_ret
    exact ⟨_, rfl, ⟨_, _, _, rfl, HB.out⟩, HT.out⟩
  · have h2 : 0 ≤ i := by omega
    have h3 : N.flying.length ≤ i := by omega
    clear h1 hi
    go_enter Tryd.func55, Tryd.ntmps55
    go_wp2_with fail
    refine (fnew_any 3 0 _ w).mono ?_
    rintro e w' ⟨rfl, hB, hT⟩
    have HB := hid hB
    have HT := hid hT
    clear hB hT
    go_wp2_with fail
    go_ret
    exact ⟨_, rfl, ⟨_, _, _, rfl, HB.out⟩, HT.out⟩

def NetM.double (N : NetM) (l : Letter) : NetM := { N with flying := N.flying ++ [l] }

set_option maxRecDepth 100000 in
set_option maxHeartbeats 1000000 in
theorem double_ok (p : Nat) (N : NetM) (F : List Nat) (i : Nat) (l : Letter) (w : World) (h : NetAt w p N F) (hi : N.flying[i]? = some l) (hfl : N.flying.length ≤ 4294967296) :
    Calls Tryd.prog 25 #[.pointer (some ⟨p, 0, none⟩), .int .i64 i] w
      fun e w' => e = .returned .nilIface ∧ ∃ F', NetAt w' p (N.double l) F' ∧ (∀ x ∈ F', x ∈ F ∨ w.heap.size ≤ x) ∧ Tch F w w' := by
  have hlt := (List.getElem?_eq_some_iff.1 hi).1
  have HN := hid h
  have HI := hid hi
  clear hi h
  go_enter Tryd.func25, Tryd.ntmps25
  go_wp2_with fail
  refine (at_yes p N F i w HN.out (by omega) (by omega)).mono ?_
  rintro e w' ⟨rfl, rfl⟩
  go_wp2_with fail
  obtain ⟨bs, bc, fl, h1, h2, h3, h4, h5, hF⟩ := HN.out
  obtain ⟨g, cap, hfv⟩ : ∃ g cap, fl = .slice (some ⟨g, 0, none⟩) N.flying.length cap := by
    rcases h4.shape with ⟨_, h⟩ | ⟨g, cap, h, _⟩
    · rw [h] at hlt; simp at hlt
    · exact ⟨g, cap, h⟩
  subst hfv
  have HP := hid h1
  have HS := hid h2
  have HC := hid h3
  have HL := hid h4
  have H5 := hid h5
  have HFE := hid hF
  clear h1 h2 h3 h4 h5 hF
  refine wp_region_g [] [0, 0, 0, 0, 1, 0, 0, 0, 1, 0, 0, 1, 6, 3, 0, 0, 3] [0, 1, 2, 3, 5, 6, 7, 9, 4, 8, 10, 11, 12, 13, 14, 15, 16] [0, 0, 2, 6, 14, 0, 32, 96, 224, 0, 992, 2016, 4064, 8190, 16383, 32767, 65535] mixed (by kernel_rfl) ?_
  intro w1 hT1
  have HT1 := hid hT1
  have HP1 := hid (HP.out.keep hT1 (by simp))
  have HL1 := hid (HL.out.keep hT1 (by simp))
  clear hT1
  have c3 := HP1.out.cell (i := 3) rfl
  have e0 := HL1.out.cells encL_len rfl HI.out (j := 0) rfl
  simp only [Nat.add_zero] at e0
  have e1 := HL1.out.cells encL_len rfl HI.out (j := 1) rfl
  have e2 := HL1.out.cells encL_len rfl HI.out (j := 2) rfl
  have e3 := HL1.out.cells encL_len rfl HI.out (j := 3) rfl
  go_wp2_with (first | (refine wpT_pure rfl rfl rfl rfl (fun _ _ => ?_)) | (refine wpT_look rfl rfl rfl (fun _ _ => ?_)))
  have HA := hid (Tch.alloc w1 (.cells #[.int .i64 l.src, .int .i64 l.dst, .int .i64 l.seq, .string l.text] 50) [])
  obtain ⟨fl', w2, hr, hs2, ht2, hob⟩ := run_append_sl (P := Tryd.prog) encL_len encL_one Tryd.underlying40 (bytes := 40) (by kernel_rfl) rfl (HL1.out.keep HA.out (by simp)) hfl l (c := 1) (Blk.new w1 50 (encL l)) 40
  have hshape : ∃ g cap, fl' = .slice (some ⟨g, 0, none⟩) (N.flying.length + 1) cap := by
    rcases hs2.shape with ⟨_, h⟩ | ⟨g, cap, h, _⟩
    · simp at h
    · exact ⟨g, cap, by rw [h]; simp⟩
  obtain ⟨g', cap', rfl⟩ := hshape
  have HR := hid hr
  have HS2 := hid hs2
  have HOB := hid hob
  have HT2 := hid (HT1.out.trans (HA.out.ahead0 ht2) (T := F) (by simp) (fun x hx => .inl (by rw [HFE.out]; simp only [List.mem_cons]; exact .inr (.inr (.inr hx)))))
  have hP2 := (HP1.out.keep HA.out (by simp)).keep ht2 (fun hm => (HL.out.neBlk (by simpa using hm) HP.out (by decide)) rfl)
  have k3 := hP2.cell (i := 3) rfl
  have kf := hP2.frozen 3
  have HP2 := hid hP2
  have HSA := hid (((HS.out.keep HT1.out (by simp)).keep HA.out (by simp)).keep ht2 (fun hm => (HL.out.neMap (by simpa using hm) HS.out) rfl))
  have HCA := hid (((HC.out.keep HT1.out (by simp)).keep HA.out (by simp)).keep ht2 (fun hm => (HL.out.neMap (by simpa using hm) HC.out) rfl))
  clear hr hs2 ht2 hob hP2 c3 e0 e1 e2 e3
  refine wpT_one rfl rfl rfl (fun K hK => ?_)
  refine wp_append rfl rfl rfl HR.out ?_
  go_simp
  go_wp2_with (first | (refine wpT_pure rfl rfl rfl rfl (fun _ _ => ?_)) | (refine wpT_one rfl rfl rfl (fun _ _ => ?_)) | refine wpT_nil ?_)
  go_ret
  have npf : p ∈ F := by rw [HFE.out]; simp
  have hX := Tch.setCell w2 (S := [p]) (b := p) (i := 3) (.inl (by simp)) (.slice (some ⟨g', 0, none⟩) (N.flying.length + 1) cap')
  refine ⟨rfl, _, ⟨bs, bc, _, HP2.out.set 3 _, HSA.out.keep hX (by simpa using HSA.out.ne HP2.out), HCA.out.keep hX (by simpa using HCA.out.ne HP2.out), HS2.out.keep hX (fun b hb => by simpa using HS2.out.neBlk hb HP2.out (by decide)), H5.out, rfl⟩, ?_, HT2.out.andSet (.inl npf) _⟩
  intro x hx
  rw [HFE.out]
  simp only [List.mem_cons, Option.mem_toList] at hx ⊢
  rcases hx with rfl | rfl | rfl | hx
  · simp
  · simp
  · simp
  · rcases HOB.out with hob | hob
    · rw [hob] at hx; simp [hx]
    · rw [hob] at hx
      have hx' : (w1.alloc (.cells #[.int .i64 l.src, .int .i64 l.dst, .int .i64 l.seq, .string l.text] 50)).heap.size = x := Option.some.inj hx
      have := HT1.out.size
      right
      rw [← hx']
      simp
      omega

set_option maxRecDepth 100000 in
theorem double_no (p : Nat) (N : NetM) (F : List Nat) (i : Int) (w : World) (h : NetAt w p N F) (h1 : i < 0 ∨ N.flying.length ≤ i) :
    Calls Tryd.prog 25 #[.pointer (some ⟨p, 0, none⟩), .int .i64 i] w fun e w' => ∃ v, e = .returned v ∧ Err w' v 3 ∧ Tch [] w w' := by
  go_enter Tryd.func25, Tryd.ntmps25
  go_wp2_with fail
  refine (at_no p N F i w h h1).mono ?_
  rintro e w' ⟨v, rfl, ⟨f, a, s, rfl, hE⟩, hT⟩
  have HE := hid hE
  have HT := hid hT
  clear hE hT h
  go_wp2_with fail
  go_ret
  exact ⟨_, rfl, ⟨f, a, s, rfl, HE.out⟩, HT.out⟩

set_option maxRecDepth 100000 in
theorem send_no (p : Nat) (N : NetM) (F : List Nat) (a b : Int) (s : ByteArray) (w : World) (h : NetAt w p N F) (h1 : a < 0 ∨ N.workers ≤ a ∨ b < 0 ∨ N.workers ≤ b) :
    Calls Tryd.prog 29 #[.pointer (some ⟨p, 0, none⟩), .int .i64 a, .int .i64 b, .string s] w fun e w' => ∃ v, e = .returned v ∧ Err w' v 3 ∧ Tch [] w w' := by
  obtain ⟨bs, bc, fl, g1, g2, g3, g4, g5, hF⟩ := h
  have c0 := g1.cell (i := 0) rfl
  clear g1 g2 g3 g4 g5 hF
  by_cases hA : a < 0 ∨ N.workers ≤ a
  · clear h1
    go_enter Tryd.func29, Tryd.ntmps29
    go_wp2_with fail
    refine (has_no p N.workers a w c0 hA).mono ?_
    rintro e w' ⟨rfl, rfl⟩
    go_wp2_with fail
    refine (fnew_any 3 0 _ w).mono ?_
    rintro e w' ⟨rfl, hB, hT⟩
    have HB := hid hB
    have HT := hid hT
    clear hB hT
    go_wp2_with fail
    go_ret
    exact ⟨_, rfl, ⟨_, _, _, rfl, HB.out⟩, HT.out⟩
  · have ha : 0 ≤ a := by omega
    have ha' : a < N.workers := by omega
    have hB : b < 0 ∨ N.workers ≤ b := by omega
    clear h1 hA
    go_enter Tryd.func29, Tryd.ntmps29
    go_wp2_with fail
    refine (has_yes p N.workers a w c0 ha ha').mono ?_
    rintro e w' ⟨rfl, rfl⟩
    go_wp2_with fail
    refine (has_no p N.workers b w c0 hB).mono ?_
    rintro e w' ⟨rfl, rfl⟩
    go_wp2_with fail
    refine (fnew_any 3 0 _ w).mono ?_
    rintro e w' ⟨rfl, hB, hT⟩
    have HB := hid hB
    have HT := hid hT
    clear hB hT
    go_wp2_with fail
    go_ret
    exact ⟨_, rfl, ⟨_, _, _, rfl, HB.out⟩, HT.out⟩

end Go.Proofs.YtlpjdngjmknniaaDoor
