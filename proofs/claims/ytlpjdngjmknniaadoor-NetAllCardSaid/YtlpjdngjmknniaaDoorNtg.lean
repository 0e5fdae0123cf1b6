/- Inbox. -/
import Derived.Test.YtlpjdngjmknniaaDoorNtf
import Derived.Test.YtlpjdngjmknniaaDoorRng
import Derived.Test.YtlpjdngjmknniaaDoorSrt
namespace Go.Proofs.YtlpjdngjmknniaaDoor
open Go.RowKit Go.Reg

instance : Inhabited Letter := ⟨⟨0, 0, 0, ⟨#[]⟩⟩⟩

theorem cmpL_lt (x y : Letter) : cmpL x y < 0 ↔ x.src < y.src ∨ (x.src = y.src ∧ x.seq < y.seq) := by
  unfold cmpL orI cmpI
  repeat' split <;> omega

open Go.Sort in
theorem cmpL_swo : SWO (ltOf cmpL) where
  irrefl x := by simp [ltOf, cmpL_lt]
  trans x y z h1 h2 := by simp only [ltOf, decide_eq_true_eq, cmpL_lt] at *; omega
  ntrans x y z h1 h2 := by simp only [ltOf, decide_eq_false_iff_not, cmpL_lt] at *; omega

open Go.Sort in
theorem sort_ok (v : Value) (l : List Letter) (w : World) (h : Sl 50 4 encL w v l) (hl : l.length ≤ 4294967296) :
    Calls Tryd.prog 51 #[v, .func (.func 52) #[] #[]] w fun e w' => e = .returned (.tuple #[]) ∧ ∃ out, Sl 50 4 encL w' v out ∧ out.Perm l ∧
      out.Pairwise (fun a b => ¬ cmpL b a < 0) ∧ Tch v.ownBlock.toList w w' := by
  rcases h.shape with ⟨rfl, rfl⟩ | ⟨g, cap, rfl, hc⟩
  · refine (AnyF.slices_SortFunc_none Tryd.sortL none 0 _ w).mono ?_
    rintro e w' ⟨rfl, rfl⟩
    exact ⟨rfl, [], h, List.Perm.refl _, List.Pairwise.nil, Tch.refl _ _⟩
  · refine (AnyQ.slices_SortFunc Tryd.sortL 4 Tryd.isAgg50 Tryd.sizeOf50 encL (fun _ => rfl) encL_one cmpL cmpL_swo 52 #[] g 0 cap l.toArray w
      (enters_of Tryd.func52 (by kernel_rfl) rfl) (fun m os dk hs x y => closure_ok x y _) (h.holdsK encL_len (by decide)) (h.lt rfl) (by simp; omega)).mono ?_
    rintro e w' ⟨rfl, d, n, os, hp, hs, rfl⟩
    obtain ⟨hp1, hp2, hp3⟩ := hp
    have hd : d.size = l.length := by simpa using hp1
    obtain ⟨hS, hT⟩ := h.sorted encL_len (by decide) d hd n os
    refine ⟨rfl, d.toList, hS, ?_, ?_, hT⟩
    · have e1 : d.extract 0 l.toArray.size = d := by rw [← hp1]; exact Array.extract_size
      have e2 : l.toArray.extract 0 l.toArray.size = l.toArray := Array.extract_size
      rw [e1, e2] at hp3
      exact hp3
    · rw [List.pairwise_iff_getElem]
      intro i j hi hj hij
      have hj' : j < l.length := by rw [← hd]; simpa using hj
      have hi' : i < l.length := by omega
      have := hs i j (Nat.zero_le _) hij (by simpa using hj')
      rw [getElem!_pos d j (by omega), getElem!_pos d i (by omega)] at this
      simpa [ltOf] using this

def pick (v : Int) (l : List ((Int × Int × Int) × Letter)) : List Letter := (l.filter (fun p => p.2.dst == v)).map (·.2)

set_option maxRecDepth 100000 in
theorem inbox_nil (v : Int) (w : World) : Calls Tryd.prog 23 #[.pointer none, .int .i64 v] w fun e w' => e = .returned (.slice none 0 0) ∧ w = w' := by
  go_enter Tryd.func23, Tryd.ntmps23
  go_wp2
  go_ret
  exact ⟨rfl, rfl⟩

set_option maxRecDepth 100000 in
set_option maxHeartbeats 1000000 in
theorem inbox_ok (p : Nat) (N : NetM) (F : List Nat) (v : Int) (w : World) (h : NetAt w p N F) (hl : N.came.length ≤ 4294967296) :
    Calls Tryd.prog 23 #[.pointer (some ⟨p, 0, none⟩), .int .i64 v] w fun e w' => ∃ v' out, e = .returned v' ∧ Sl 50 4 encL w' v' out ∧ (∀ b, v'.ownBlock = some b → w.heap.size ≤ b) ∧ Tch [] w w' ∧
      out.Perm (pick v N.came) ∧ out.Pairwise (fun a b => ¬ cmpL b a < 0) := by
  obtain ⟨bs, bc, fl, h1, h2, h3, h4, h5, hF⟩ := h
  have c4 := h1.cell (i := 4) rfl
  obtain ⟨wI, hR, hI, hT⟩ := h3.range (P := Tryd.prog) (t := 95) Tryd.underlying95
  have HR := hid hR
  have HI := hid hI
  have HT := hid hT
  have HC := hid hl
  clear h1 h2 h3 h4 h5 hF hR hI hT hl
  go_enter Tryd.func23, Tryd.ntmps23
  go_wp2_with (at_range; refine wpList_plain rfl (fun K hK => ?_); refine wp_val (run_val HR.out) ?_; go_simp)
  go_loopg [5] N.came.length (fun g v5 wr => Hid (∃ todo out, g = todo.length ∧ IterAt encStamp valL wr w.heap.size bc N.came todo ∧ Sl 50 4 encL wr v5 out ∧ (∀ b, v5.ownBlock = some b → w.heap.size < b) ∧ Tch [] w wr ∧
    (out ++ pick v todo).Perm (pick v N.came)))
  case atStart => exact hid ⟨N.came, [], rfl, HI.out, Sl.nil _ _ _ _, by simp [Value.ownBlock], HT.out, by simp⟩
  case round =>
    obtain ⟨todo, out, rfl, hit, hsl, hge, ht, hperm⟩ := hrel.out
    rcases hit.next (P := Tryd.prog) 0 with ⟨h0, hn⟩ | ⟨q, todo', w1, hp1, hn, hon, htn⟩
    · have HN := hid hn
      have hlen : out.length ≤ 4294967296 := by
        have h1 := hperm.length_eq
        have h2 : (pick v N.came).length ≤ N.came.length := by simp [pick]; exact List.length_filter_le _ _
        have h3 := HC.out
        simp at h1; omega
      have HS := hid (sort_ok u5 out wr hsl hlen)
      have HG := hid hge
      have HP := hid hperm
      have HTr := hid ht
      have H0 := hid h0
      clear hn hsl hge hperm ht hit h0 hlen hrel
      go_wp2_with (first
        | (at_next; refine wpList_plain rfl (fun K hK => ?_); refine wp_val (run_val HN.out) ?_; go_simp)
        | (go_at_call 51; refine HS.out.mono ?_; rintro e w' ⟨rfl, out', hs1, hs2, hs3, hs4⟩; replace hs1 := hid hs1; replace hs2 := hid hs2; replace hs3 := hid hs3; replace hs4 := hid hs4))
      go_ret
      have hp := HP.out
      rw [H0.out] at hp
      simp [pick] at hp
      refine ⟨_, rfl, out', hs1.out, fun b hb => Nat.le_of_lt (HG.out b hb), HTr.out.trans hs4.out (fun _ h => h) (fun x hx => .inr (Nat.le_of_lt (HG.out x (by simpa using hx)))), hs2.out.trans hp, hs3.out⟩
    · have HN := hid hn
      have HE := hon.entry (P := Tryd.prog)
      have HO := hid hon
      have HS := hid hsl
      have HG := hid hge
      have HP := hid hperm
      have HT1 := hid (ht.trans htn (T := []) (by simp) (fun x hx => .inr (by simp at hx; omega)))
      have HP1 := hid hp1
      obtain ⟨key, x⟩ := q
      simp only [valL] at HE
      by_cases hd : x.dst = v
      · subst hd
        have HA := hid ((Tch.alloc w1 (.cells #[.int .i64 x.src, .int .i64 x.dst, .int .i64 x.seq, .string x.text] 50) []).andAlloc (.cells #[.int .i64 x.src, .int .i64 x.dst, .int .i64 x.seq, .string x.text] 50))
        have hlen : out.length ≤ 4294967296 := by
          have h1 := hperm.length_eq
          have h2 : (pick x.dst N.came).length ≤ N.came.length := by simp [pick]; exact List.length_filter_le _ _
          have h3 := HC.out
          simp at h1; omega
        have hr0 := hon.iter.lt
        have hr1 := hit.lt
        have HM := hid hit.mapAt
        obtain ⟨v2, w2, hr, hs2, ht2, hob⟩ := run_append_sl (P := Tryd.prog) encL_len encL_one Tryd.underlying40 (bytes := 40) (by kernel_rfl) rfl ((hsl.keep htn (fun b hb hm => by have := hge b hb; simp at hm; omega)).keep HA.out (by simp)) hlen x (c := 1) (Blk.new (w1.alloc (.cells #[.int .i64 x.src, .int .i64 x.dst, .int .i64 x.seq, .string x.text] 50)) 50 (encL x)) 40
        rw [show (w1.alloc (.cells #[.int .i64 x.src, .int .i64 x.dst, .int .i64 x.seq, .string x.text] 50)).heap.size = w1.heap.size + 1 by simp] at hr
        have HR2 := hid hr
        have HS2 := hid hs2
        have HT2 := hid (HA.out.ahead0 ht2)
        have HOB := hid hob
        have HL := hid (show w.heap.size ≤ wr.heap.size ∧ wr.heap.size ≤ w1.heap.size from ⟨ht.size, htn.size⟩)
        clear hn hsl hge hperm ht hit hrel hon htn hp1 hlen hr hs2 ht2 hob hr0 hr1
        go_wp2_with (first
          | (at_next; refine wpList_plain rfl (fun K hK => ?_); refine wp_val (run_val HN.out) ?_; go_simp)
          | (at_builtin; refine wpList_plain rfl (fun K hK => ?_); refine wp_append rfl rfl rfl HR2.out ?_; go_simp))
        have hl1 := HP1.out.length_eq
        have hL := HL.out
        have hir := HO.out.iter
        have hne := hir.ne
        have hlt : w.heap.size < w1.heap.size := hir.lt
        have hbl := hir.mapAt.lt
        have hnb : bc ∉ u5.ownBlock.toList := fun hm => HS.out.neMap (by simpa using hm) HM.out rfl
        go_roundg todo'.length
        case measure => simp at hl1; omega
        case rel =>
          refine hid ⟨todo', out ++ [x], rfl, hir.keep HT2.out (fun hm => by have := HG.out _ (by simpa using hm); omega) hnb, HS2.out, ?_, ?_, ?_⟩
          · intro b hb
            rcases HOB.out with h | h
            · exact HG.out b (by rw [← h]; exact hb)
            · rw [hb] at h; simp at h; omega
          · exact HT1.out.trans HT2.out (fun _ h => h) (fun y hy => .inr (by have := HG.out y (by simpa using hy); omega))
          · have e1 : (pick x.dst todo).Perm (x :: pick x.dst todo') := by
              have := (HP1.out.filter (fun p => p.2.dst == x.dst)).map (·.2)
              simpa [pick] using this
            have e2 := e1.append_left out
            rw [List.append_assoc]
            exact e2.symm.trans HP.out
      · have HL := hid (show w.heap.size ≤ wr.heap.size ∧ wr.heap.size ≤ w1.heap.size from ⟨ht.size, htn.size⟩)
        have HS2 := hid (hsl.keep htn (fun b hb hm => by have := hge b hb; simp at hm; omega))
        have hdb : (x.dst == v) = false := by simpa using hd
        clear hn hsl hge hperm ht hit hrel hon htn hp1 hd
        go_wp2_with (at_next; refine wpList_plain rfl (fun K hK => ?_); refine wp_val (run_val HN.out) ?_; go_simp)
        have hl1 := HP1.out.length_eq
        have HA := Tch.alloc w1 (.cells #[.int .i64 x.src, .int .i64 x.dst, .int .i64 x.seq, .string x.text] 50) []
        go_roundg todo'.length
        case measure => simp at hl1; omega
        case rel =>
          refine hid ⟨todo', out, rfl, HO.out.iter.keep HA (by simp) (by simp), HS2.out.keep HA (by simp), HG.out, HT1.out.then0 HA, ?_⟩
          have e1 : (pick v todo).Perm (pick v todo') := by
            have := (HP1.out.filter (fun p => p.2.dst == v)).map (·.2)
            simpa [pick, hdb] using this
          exact (e1.append_left out).symm.trans HP.out
end Go.Proofs.YtlpjdngjmknniaaDoor
