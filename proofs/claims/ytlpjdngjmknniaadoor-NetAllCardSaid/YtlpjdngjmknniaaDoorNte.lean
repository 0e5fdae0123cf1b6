/- Deliver. -/
import Derived.Test.YtlpjdngjmknniaaDoorNtd
namespace Go.Proofs.YtlpjdngjmknniaaDoor
open Go.RowKit Go.Reg

def NetM.deliver (N : NetM) (i : Nat) (l : Letter) : NetM := { N with flying := N.flying.eraseIdx i, came := put N.came (l.src, l.dst, l.seq) l }

set_option maxRecDepth 100000 in
set_option maxHeartbeats 1000000 in
theorem deliver_ok (p : Nat) (N : NetM) (F : List Nat) (i : Nat) (l : Letter) (w : World) (h : NetAt w p N F) (hi : N.flying[i]? = some l) (hfl : N.flying.length ≤ 4294967296) :
    Calls Tryd.prog 26 #[.pointer (some ⟨p, 0, none⟩), .int .i64 i] w
      fun e w' => e = .returned .nilIface ∧ NetAt w' p (N.deliver i l) F ∧ Tch F w w' := by
  have hlt := (List.getElem?_eq_some_iff.1 hi).1
  have HN := hid h
  have HI := hid hi
  clear hi h
  go_enter Tryd.func26, Tryd.ntmps26
  go_wp2_with fail
  refine (at_yes p N F i w HN.out (by omega) (by omega)).mono ?_
  rintro e w' ⟨rfl, rfl⟩
  obtain ⟨bs, bc, fl, h1, h2, h3, h4, h5, hF⟩ := HN.out
  obtain ⟨g, cap, hfv⟩ : ∃ g cap, fl = .slice (some ⟨g, 0, none⟩) N.flying.length cap := by
    rcases h4.shape with ⟨_, h⟩ | ⟨g, cap, h, _⟩
    · rw [h] at hlt; simp at hlt
    · exact ⟨g, cap, h⟩
  subst hfv
  have c3 := h1.cell (i := 3) rfl
  have e0 := h4.cells encL_len rfl HI.out (j := 0) rfl
  simp only [Nat.add_zero] at e0
  have e1 := h4.cells encL_len rfl HI.out (j := 1) rfl
  have e2 := h4.cells encL_len rfl HI.out (j := 2) rfl
  have e3 := h4.cells encL_len rfl HI.out (j := 3) rfl
  have HP := hid h1
  have HS := hid h2
  have HC := hid h3
  have HL := hid h4
  have H5 := hid h5
  have HFE := hid hF
  have hps := h1.lt
  have HA := hid (Tch.alloc w (.cells #[.int .i64 l.src, .int .i64 l.dst, .int .i64 l.seq, .string l.text] 50) [])
  have HB := hid (Blk.new w 50 (encL l))
  clear h1 h2 h3 h4 h5 hF
  go_wp2_with fail
  refine (delete_ok _ N.flying i _ (HL.out.keep HA.out (by simp)) hfl hlt).mono ?_
  rintro e w2 ⟨fl', rfl, hL2, hT2, hob⟩
  have hfl' : ∃ a n c, fl' = .slice a n c := by
    obtain ⟨a, c, h⟩ := sl_len_eq hL2
    exact ⟨a, _, c, h⟩
  obtain ⟨a', n', c', rfl⟩ := hfl'
  have hob' := hob
  have hP2 := (HP.out.keep HA.out (by simp)).keep hT2 (fun hm => (HL.out.neBlk (by simpa using hm) HP.out (by decide)) rfl)
  have c32 := hP2.cell (i := 3) rfl
  have f32 := hP2.frozen 3
  have npf : p ∈ F := by rw [HFE.out]; simp
  have gF : g ∈ F := by rw [HFE.out]; simp [Value.ownBlock]
  have HT2 := hid (((HA.out.mono (T := F) (by simp)).trans hT2 (fun _ h => h) (fun x hx => .inl (by simp [Value.ownBlock] at hx; subst hx; exact gF))).andSet (i := 3) (.inl npf) (.slice a' n' c'))
  have HP2 := hid hP2
  have HX := hid (Tch.setCell w2 (S := [p]) (b := p) (i := 3) (.inl (by simp)) (.slice a' n' c'))
  have HP3 := hid (hP2.set 3 (.slice a' n' c'))
  have hS2 := (HS.out.keep HA.out (by simp)).keep hT2 (fun hm => (HL.out.neMap (by simpa using hm) HS.out) rfl)
  have hC2 := (HC.out.keep HA.out (by simp)).keep hT2 (fun hm => (HL.out.neMap (by simpa using hm) HC.out) rfl)
  have hB2 := HB.out.keep hT2 (fun hm => by have := HL.out.lt (b := w.heap.size) (by simpa using hm); omega)
  have HS3 := hid (hS2.keep HX.out (by simpa using hS2.ne hP2))
  have HC3 := hid (hC2.keep HX.out (by simpa using hC2.ne hP2))
  have HB3 := hid (hB2.keep HX.out (by simpa using hB2.ne hP2 (by decide)))
  have HL3 := hid (hL2.keep HX.out (fun b hb => by simpa using hL2.neBlk hb hP2 (by decide)))
  have HOB := hid hob
  clear c3 e0 e1 e2 e3 hL2 hT2 hob hob' hP2 hS2 hC2 hB2
  go_wp2_with fail
  refine wp_region_g [] [0, 0, 0, 1, 0, 1, 0, 1, 0, 0, 1, 0, 1, 3] [0, 1, 2, 4, 6, 9, 3, 5, 7, 8, 10, 11, 12, 13] [0, 1, 3, 7, 0, 16, 0, 64, 240, 0, 512, 2032, 0, 8191] mixed (by kernel_rfl) ?_
  intro w4 hT4
  have HT4 := hid hT4
  have HP4 := hid (HP3.out.keep hT4 (by simp))
  have HC4 := hid (HC3.out.keep hT4 (by simp))
  have hB4 := HB3.out.keep hT4 (by simp)
  have c4 := HP4.out.cell (i := 4) rfl
  have d0 := hB4.cell (i := 0) rfl
  have d1 := hB4.cell (i := 1) rfl
  have d2 := hB4.cell (i := 2) rfl
  have d3 := hB4.cell (i := 3) rfl
  clear hT4 hB4
  go_wp2_with (first | (refine wpT_pure rfl rfl rfl rfl (fun _ _ => ?_)) | (refine wpT_look rfl rfl rfl (fun _ _ => ?_)))
  obtain ⟨w5, hr5, hM5, ht5⟩ := HC4.out.update stampOk Tryd.underlying95 (l.src, l.dst, l.seq) l
  have HR5 := hid (show (Instr.mapUpdate 95 (.map (some bc)) (.agg #[.int .i64 l.src, .int .i64 l.dst, .int .i64 l.seq]) (.agg #[.int .i64 l.src, .int .i64 l.dst, .int .i64 l.seq, .string l.text])).run Tryd.prog w4 = .ok () w5 from hr5)
  have HM5 := hid hM5
  have HT5 := hid ht5
  clear hr5 hM5 ht5 c4 d0 d1 d2 d3
  refine wpT_one rfl rfl rfl (fun K hK => ?_)
  refine wp_skip' (run_unit HR5.out) ?_
  go_simp
  go_wp2_with (first | (refine wpT_pure rfl rfl rfl rfl (fun _ _ => ?_)) | refine wpT_nil ?_)
  go_ret
  have nbp : p ∉ [bc] := by simpa using fun e => (HC3.out.ne HP3.out) e.symm
  refine ⟨rfl, ⟨bs, bc, _, HP4.out.keep HT5.out nbp, (HS3.out.keep HT4.out (by simp)).keep HT5.out (by simpa using H5.out), HM5.out, (HL3.out.keep HT4.out (by simp)).keep HT5.out (fun b hb => by simpa using HL3.out.neMap hb HC3.out), H5.out, ?_⟩, ?_⟩
  · rw [HFE.out, HOB.out]
  · exact (HT2.out.then0 HT4.out).trans HT5.out (fun _ h => h) (fun x hx => .inl (by rw [HFE.out]; simp at hx; simp [hx]))

set_option maxRecDepth 100000 in
theorem deliver_no (p : Nat) (N : NetM) (F : List Nat) (i : Int) (w : World) (h : NetAt w p N F) (h1 : i < 0 ∨ N.flying.length ≤ i) :
    Calls Tryd.prog 26 #[.pointer (some ⟨p, 0, none⟩), .int .i64 i] w fun e w' => ∃ v, e = .returned v ∧ Err w' v 3 ∧ Tch [] w w' := by
  go_enter Tryd.func26, Tryd.ntmps26
  go_wp2_with fail
  refine (at_no p N F i w h h1).mono ?_
  rintro e w' ⟨v, rfl, ⟨f, a, s, rfl, hE⟩, hT⟩
  have HE := hid hE
  have HT := hid hT
  clear hE hT h
  go_wp2_with fail
  go_ret
  exact ⟨_, rfl, ⟨f, a, s, rfl, HE.out⟩, HT.out⟩

end Go.Proofs.YtlpjdngjmknniaaDoor
