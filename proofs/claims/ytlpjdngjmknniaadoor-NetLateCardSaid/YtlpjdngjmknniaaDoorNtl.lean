/- NetLate: the walk. -/
import Derived.Test.YtlpjdngjmknniaaDoorNtk
namespace Go.Proofs.YtlpjdngjmknniaaDoor
open Go.RowKit Go.Reg

/-- a net of the law's own: all its blocks are new since w0 -/
structure Own (w0 w : World) (p : Nat) (N : NetM) (F : List Nat) : Prop where
  st : St w p N F
  new : ∀ x ∈ F, w0.heap.size ≤ x
  tch : Tch [] w0 w
theorem Own.did {w0 w w' : World} {p : Nat} {N : NetM} {F : List Nat} {x : ActM} {e : Ending} (h : Own w0 w p N F) (hd : Did p N F x w e w') : e = .returned (.int .i64 (N.act x).2) ∧ ∃ F', Own w0 w' p (N.act x).1 F' ∧ (∀ y ∈ F', y ∈ F ∨ w.heap.size ≤ y) ∧ Tch F w w' := by
  obtain ⟨he, F', h1, h2, h3⟩ := hd
  have hc := chain h.new h.tch h2 h3
  exact ⟨he, F', ⟨h1, hc.1, hc.2⟩, h2, h3⟩
theorem Own.on {w0 w w' : World} {p : Nat} {N : NetM} {F : List Nat} (h : Own w0 w p N F) (t : Tch [] w w') : Own w0 w' p N F := ⟨h.st.keep t (by simp) (by simp), h.new, h.tch.then0 t⟩
theorem Own.step {w0 w w' : World} {p : Nat} {N N' : NetM} {F F' : List Nat} (h : Own w0 w p N F) (hn : NetAt w' p N' F') (hF : ∀ y ∈ F', y ∈ F ∨ w.heap.size ≤ y) (ht : Tch F w w') : Own w0 w' p N' F' := by
  have hc := chain h.new h.tch hF ht
  refine ⟨⟨hn, h.st.err.keep ht h.st.zero, ?_⟩, hc.1, hc.2⟩
  intro h0
  rcases hF 0 h0 with h1 | h1
  · exact h.st.zero h1
  · have := h.st.err.lt; omega
theorem miss_ok (p : Nat) (N : NetM) (F : List Nat) (w : World) (h : St w p N F) (B : Nat) (hb : NetOk B N) (hB : B ≤ 4294967296) :
    Calls Tryd.prog 21 #[.pointer (some ⟨p, 0, none⟩)] w fun e w' => e = .returned (.int .i64 (M N)) ∧ Tch [] w w' :=
  missing_ok p N F w h.net hb.all0 (by have := hb.all; omega) (by have := hb.came; omega)
theorem M_bound {N : NetM} {B : Nat} (hb : NetOk B N) (hB : B ≤ 4294967296) : -4294967296 ≤ M N ∧ M N ≤ 4294967296 := by
  have := hb.all0; have := hb.all; have := hb.came
  unfold M; omega

theorem late_len {N : NetM} {k : Nat} {L : Letter} (hk : k < N.flying.length) : ((N.double L).deliver k L).flying.length = N.flying.length := by
  show ((N.flying ++ [L]).eraseIdx k).length = _
  rw [List.length_eraseIdx_of_lt (by simp; omega)]; simp
theorem late_last {N : NetM} {k : Nat} {L : Letter} (hk : k < N.flying.length) : ((N.double L).deliver k L).flying[N.flying.length - 1]? = some L := by
  show ((N.flying ++ [L]).eraseIdx k)[N.flying.length - 1]? = _
  rw [List.getElem?_eraseIdx, if_neg (by omega), show N.flying.length - 1 + 1 = N.flying.length by omega]
  simp
theorem late_same {N : NetM} {k i : Nat} {L : Letter} : (((N.double L).deliver k L).deliver i L).came = ((N.double L).deliver k L).came := by
  show put (put _ (stampL L) L) (stampL L) L = put _ (stampL L) L
  exact put_same _ _ _ (by rw [get_put, if_pos rfl])
theorem late_mem {N : NetM} {k : Nat} {L : Letter} : L ∈ pick L.dst ((N.double L).deliver k L).came := by
  have : (stampL L, L) ∈ put N.came (stampL L) L := mem_of_get (by rw [get_put, if_pos rfl])
  exact List.mem_map.2 ⟨_, List.mem_filter.2 ⟨this, by simp⟩, rfl⟩
theorem NetOk.late {B : Nat} {N : NetM} (h : NetOk B N) (k : Nat) (L : Letter) : NetOk (B + 1) ((N.double L).deliver k L) := by
  refine ⟨?_, ?_, h.all0, ?_, ?_⟩
  · show ((N.flying ++ [L]).eraseIdx k).length ≤ _
    have := List.length_eraseIdx_le (N.flying ++ [L]) k
    have := h.fly
    simp at *; omega
  · show (put N.came (stampL L) L).length ≤ _
    have := put_length_le N.came (stampL L) L
    have := h.came; omega
  · have := h.all; show N.all ≤ _; omega
  · intro a b
    have := h.next a b
    show 0 ≤ N.next a b ∧ N.next a b ≤ _; omega
theorem Keyed.late {N : NetM} (h : Keyed N) (k : Nat) (L : Letter) : Keyed ((N.double L).deliver k L) := Keyed.deliver (N := N.double L) ⟨h.key, h.nodup⟩ k L

theorem nodup_of_map {α β : Type} {f : α → β} {l : List α} (h : (l.map f).Nodup) : l.Nodup := by
  induction l with
  | nil => simp
  | cons x l ih =>
    simp only [List.map_cons, List.nodup_cons] at h
    rw [List.nodup_cons]
    exact ⟨fun hx => h.1 (List.mem_map.2 ⟨x, hx, rfl⟩), ih h.2⟩
theorem count_one {α : Type} [DecidableEq α] {l : List α} {x : α} (h : l.Nodup) (hx : x ∈ l) : l.count x = 1 := by
  induction l with
  | nil => simp at hx
  | cons y l ih =>
    rw [List.nodup_cons] at h
    rw [List.count_cons]
    rcases List.mem_cons.1 hx with rfl | hx
    · rw [List.count_eq_zero.2 h.1]; simp
    · rw [ih h.2 hx]
      have : y ≠ x := fun e => h.1 (e ▸ hx)
      simp [this]

set_option maxRecDepth 100000 in
set_option maxHeartbeats 4000000 in
theorem late_ok (v0 : Value) (l : List ActM) (n : Int) (w : World) (h : ArgSl 4 encA w v0 l) (h0 : ErrT w) (hn : 0 ≤ n ∧ n ≤ 255) :
    Calls Tryd.prog 6 #[v0, .int .u8 n] w fun e w' => e = .returned (.bool true) ∧ Tch [] w w' := by
  have HA := hid (alive_ok w h0)
  have H := hid h
  have H0 := hid h0
  have HN := hid hn
  clear h h0 hn
  go_enter Tryd.func6, Tryd.ntmps6
  go_wp2_with fail
  refine HA.out.mono ?_
  rintro e w1 ⟨rfl, t1⟩
  have HFar := hid (far_ok v0 l w1 (H.out.keep t1))
  replace t1 := hid t1
  go_wp2_with fail
  refine HFar.out.mono ?_
  rintro e w2 ⟨rfl, t2⟩
  have T2 := hid (t1.out.then0 t2)
  clear t2
  cases hfar : farM l with
  | true =>
    go_wp2_with fail
    go_ret
    exact ⟨rfl, T2.out⟩
  | false =>
    have HFr := hid hfar
    clear hfar
    go_wp2_with fail
    refine (new_yes 3 w2 (by decide) (by decide)).mono ?_
    rintro e w3 ⟨p, F1, rfl, n1, f1, t3⟩
    have O3 : Hid (Own w w3 p ⟨3, [], 0, [], []⟩ F1) := hid ⟨⟨n1, H0.out.keep (T2.out.then0 t3) (by simp), fun h0 => by have := f1 0 h0; have := (H0.out.keep T2.out (by simp)).lt; omega⟩, fun x hx => Nat.le_trans T2.out.size (f1 x hx), T2.out.then0 t3⟩
    clear n1 f1 t3
    obtain ⟨a, c, rfl, hm, hc⟩ := H.out
    have HC := hid hc
    have hlen : Hid (l.length ≤ 60) := by
      have := HFr.out
      simp [farM] at this
      exact hid this.2
    have hgood : Hid (∀ x ∈ l, bad x = false) := by
      have := HFr.out
      simp only [farM, Bool.or_eq_false_iff] at this
      exact hid fun x hx => by simpa using (List.any_eq_false.1 this.1 x hx)
    clear hc hm
    go_wp2_with fail
    go_loopg [7] l.length (fun g s7 wr => Hid (∃ (i : Nat) (N : NetM) (F : List Nat), s7 = .int .i64 i ∧ g = l.length - i ∧ i ≤ l.length ∧ Own w wr p N F ∧ NetOk i N ∧ Keyed N))
    case atStart => exact hid ⟨0, _, F1, rfl, rfl, Nat.zero_le _, O3.out, NetOk.new 3, Keyed.new 3⟩
    case round =>
      obtain ⟨i, N, F, rfl, rfl, hi, ho, hok, hk⟩ := hrel.out
      clear hrel
      have O := hid ho
      have OK := hid hok
      have HK := hid hk
      have HI := hid hi
      clear ho hok hk hi
      by_cases hlt : i < l.length
      · have hx : l[i]? = some l[i] := List.getElem?_eq_getElem hlt
        have hgx := hgood.out _ (List.getElem_mem hlt)
        obtain ⟨b, o, rfl, hcell⟩ := HC.out i _ hx
        have hlt' : decide ((i : Int) < (l.length : Int)) = true := by simpa using hlt
        have HX := hid hx
        have HCE := hid hcell
        clear hcell hx
        generalize l[i] = x at hgx HX HCE
        obtain ⟨N', c', hact, hcases⟩ := act_cases (N := N) hgx
        have HAC := hid hact
        replace hcases := hid hcases
        have HG := hid hgx
        clear hgx hact
        go_wp2_with fail
        refine (miss_ok p N F wr O.out.st i OK.out (by have := hlen.out; omega)).mono ?_
        rintro e w4 ⟨rfl, t4⟩
        have O4 := hid (O.out.on t4)
        clear t4
        have c0 := tch_cellA O4.out.tch (HCE.out 0 _ rfl)
        have c1 := tch_cellA O4.out.tch (HCE.out 1 _ rfl)
        have c2 := tch_cellA O4.out.tch (HCE.out 2 _ rfl)
        have c3 := tch_cellA O4.out.tch (HCE.out 3 _ rfl)
        rw [Nat.add_zero] at c0
        go_wp2_with fail
        refine (do_ok p N F x w4 O4.out.st i OK.out (by have := hlen.out; omega)).mono ?_
        rintro e w5 hd
        obtain ⟨rfl, F', ho5, -, -⟩ := O4.out.did hd
        rw [HAC.out] at ho5 ⊢
        have OK' := OK.out.act x
        have HK' := HK.out.act x
        rw [HAC.out] at OK' HK'
        replace OK' := hid OK'
        replace HK' := hid HK'
        have O5 := hid ho5
        clear hd ho5 c1 c2 c3 c0
        dsimp only
        have hB1 := M_bound OK.out (by have := hlen.out; omega)
        have hB2 := M_bound OK'.out (by have := hlen.out; omega)
        have hmiss := miss_ok p N' F' w5 O5.out.st (i + 1) OK'.out (by have := hlen.out; omega)
        have hnext : wrap64 ((i : Int) + 1) = (i : Int) + 1 := w64 (by have := hlen.out; omega)
        replace hB1 := hid hB1
        replace hB2 := hid hB2
        generalize hm' : M N' = m' at hmiss hcases hB2
        generalize hm : M N = m at hcases hB1 ⊢
        replace hmiss := hid hmiss
        replace hm' := hid hm'
        replace hm := hid hm
        go_wp2_with fail
        refine hmiss.out.mono ?_
        rintro e w6 ⟨rfl, t6⟩
        have O6 := hid (O5.out.on t6)
        clear t6
        have c0 := tch_cellA O6.out.tch (HCE.out 0 _ rfl)
        rw [Nat.add_zero] at c0
        have hcs := hcases.out
        clear hcases
        have hb1 := hB1.out
        have hb2 := hB2.out
        rcases hcs with ⟨rfl, hN⟩ | ⟨rfl, hk, hmm⟩ | ⟨rfl, hk, hmm⟩ | ⟨rfl, hk, hmm⟩
        · obtain rfl : m' = m := by rw [← hm'.out, ← hm.out, hN]
          clear hN hb1 hb2
          go_wp2_with fail
          go_roundg (l.length - (i + 1))
          case measure => omega
          case rel => exact hid ⟨i + 1, N', F', by simp [hnext], rfl, by omega, O6.out, OK'.out, HK'.out⟩
        · have hw : wrap64 (m + 1) = m' := by rw [w64 (by omega)]; exact hmm.symm
          rw [hk] at c0
          clear hmm hk hb1 hb2
          go_wp2_with fail
          go_roundg (l.length - (i + 1))
          case measure => omega
          case rel => exact hid ⟨i + 1, N', F', by simp [hnext], rfl, by omega, O6.out, OK'.out, HK'.out⟩
        · subst hmm
          rw [hk] at c0
          clear hk hb1 hb2
          go_wp2_with fail
          go_roundg (l.length - (i + 1))
          case measure => omega
          case rel => exact hid ⟨i + 1, N', F', by simp [hnext], rfl, by omega, O6.out, OK'.out, HK'.out⟩
        · rw [hk] at c0
          rcases hmm with hmm | hmm
          · subst hmm
            clear hk hb1 hb2
            go_wp2_with fail
            go_roundg (l.length - (i + 1))
            case measure => omega
            case rel => exact hid ⟨i + 1, N', F', by simp [hnext], rfl, by omega, O6.out, OK'.out, HK'.out⟩
          · have hw : wrap64 (m - 1) = m' := by rw [w64 (by omega)]; exact hmm.symm
            have hne : (m' != m) = true := by simp; omega
            clear hmm hk hb1 hb2
            go_wp2_with fail
            go_roundg (l.length - (i + 1))
            case measure => omega
            case rel => exact hid ⟨i + 1, N', F', by simp [hnext], rfl, by omega, O6.out, OK'.out, HK'.out⟩
      · have he : i = l.length := by have := HI.out; omega
        subst he
        have hlt' : decide ((l.length : Int) < (l.length : Int)) = false := by simp
        have hfb : N.flying.length ≤ 60 := by have := OK.out.fly; have := hlen.out; omega
        go_wp2_with fail
        refine (flying_ok p N F wr O.out.st.net (by omega)).mono ?_
        rintro e w4 ⟨vf, rfl, sf, t4⟩
        have HFl := hid hfb
        have O4 := hid (O.out.on t4)
        rcases sf.sl.shape with ⟨rfl, hnil⟩ | ⟨g, cap, rfl, hcap⟩
        · clear sf t4 hfb
          go_wp2_with fail
          go_ret
          exact ⟨rfl, O4.out.tch⟩
        · have hge := sf.ge g rfl
          have hgl := sf.sl.lt (b := g) rfl
          have SF := hid sf
          have HG := hid (show wr.heap.size ≤ g ∧ g < w4.heap.size from ⟨hge, hgl⟩)
          clear sf t4 hfb hge hgl hcap
          by_cases hz : N.flying.length = 0
          · have hz' : decide ((N.flying.length : Int) = 0) = true := by simp [hz]
            have hz2 : ((N.flying.length : Int) == 0) = true := by simp [hz]
            go_wp2_with fail
            go_ret
            exact ⟨rfl, O4.out.tch⟩
          · have hz2 : ((N.flying.length : Int) == 0) = false := beq_eq_false_iff_ne.2 (by omega)
            have hnn : ¬ N.flying = [] := fun e => hz (by simp [e])
            obtain ⟨n', rfl⟩ := Int.eq_ofNat_of_zero_le HN.out.1
            have hwn : wrap64 (n' : Int) = (n' : Int) := w64 (by have := HN.out.2; omega)
            have hmod : ((n' : Int).tmod (N.flying.length : Int)) = ((n' % N.flying.length : Nat) : Int) := rfl
            have hk : n' % N.flying.length < N.flying.length := Nat.mod_lt _ (by omega)
            generalize n' % N.flying.length = k at hmod hk
            have hL : N.flying[k]? = some N.flying[k] := List.getElem?_eq_getElem hk
            generalize N.flying[k] = L at hL
            have HZ := hid hz
            have HL := hid hL
            have HKl := hid hk
            have hD := double_ok p N F k L w4 O4.out.st.net hL (by have := HFl.out; omega)
            have HD := hid hD
            clear hz hL hk hD
            go_wp2_with fail
            refine HD.out.mono ?_
            rintro e w5 ⟨rfl, F5, n5, f5, t5⟩
            have O5 := hid (O4.out.step n5 f5 t5)
            have hgF : g ∉ F := fun h => by have := O.out.st.net.lt g h; have := HG.out; omega
            have hgF5 : g ∉ F5 := fun h => by rcases f5 g h with h | h; exact hgF h; have := HG.out; omega
            have S5 := hid (SF.out.sl.keep t5 (fun b hb => by simp [Value.ownBlock] at hb; subst hb; exact hgF))
            have HF5 := hid hgF5
            have hV := deliver_ok p (N.double L) F5 k L w5 n5 (by show (N.flying ++ [L])[k]? = some L; rw [List.getElem?_append_left HKl.out]; exact HL.out) (by show (N.flying ++ [L]).length ≤ _; simp; have := HFl.out; omega)
            have HV := hid hV
            clear n5 f5 t5 hgF hgF5 hV
            go_wp2_with fail
            refine HV.out.mono ?_
            rintro e w6 ⟨rfl, n6, t6⟩
            have O6 := hid (O5.out.step n6 (fun x hx => .inl hx) t6)
            have S6 := hid (S5.out.keep t6 (fun b hb => by simp [Value.ownBlock] at hb; subst hb; exact HF5.out))
            have hc1 : w6.cell? ⟨g, k * 4 + 1, none⟩ = some (.int .i64 L.dst) := S6.out.cells encL_len rfl HL.out (j := 1) rfl
            have hI := inbox_ok p _ F5 L.dst w6 n6 (by have := put_length_le N.came (stampL L) L; have := OK.out.came; have := hlen.out; show (put N.came (stampL L) L).length ≤ _; omega)
            have HI1 := hid hI
            clear n6 t6 hI
            go_wp2_with fail
            refine HI1.out.mono ?_
            rintro e w7 ⟨v7, out7, rfl, s7, g7, t7, p7, -⟩
            have O7 := hid (O6.out.on t7)
            have S7 := hid (S6.out.keep t7 (by simp))
            have P7 := hid p7
            have hN2 := NetOk.late OK.out k L
            have K2 := hid (Keyed.late HK.out k L)
            have hfl2 : ((N.double L).deliver k L).flying.length = N.flying.length := late_len HKl.out
            have hlast : ((N.double L).deliver k L).flying[N.flying.length - 1]? = some L := late_last HKl.out
            have hcame : (((N.double L).deliver k L).deliver (N.flying.length - 1) L).came = ((N.double L).deliver k L).came := late_same
            have hM3 : M (((N.double L).deliver k L).deliver (N.flying.length - 1) L) = M ((N.double L).deliver k L) := by unfold M; rw [hcame]; rfl
            have hmem : L ∈ pick L.dst ((N.double L).deliver k L).came := late_mem
            generalize (N.double L).deliver k L = N2 at *
            obtain ⟨a7, c7, hv7⟩ : ∃ a c, v7 = .slice a out7.length c := by
              rcases s7.shape with ⟨h1, h2⟩ | ⟨g', cap', h1, _⟩
              · exact ⟨none, 0, by rw [h1, h2]; rfl⟩
              · exact ⟨_, _, h1⟩
            subst hv7
            have HM2 := hid (miss_ok p N2 F5 w7 O7.out.st _ hN2 (by have := hlen.out; omega))
            have HN2 := hid hN2
            have HMM := hid hmem
            have HL2 := hid hfl2
            have HLa := hid hlast
            have HCa := hid hcame
            have HM3 := hid hM3
            clear s7 g7 t7 p7 hN2 hfl2 hlast hcame hM3 hc1 hmem
            go_wp2_with fail
            refine HM2.out.mono ?_
            rintro e w8 ⟨rfl, t8⟩
            have O8 := hid (O7.out.on t8)
            have S8 := hid (S7.out.keep t8 (by simp))
            have HFy := hid (flying_ok p N2 F5 w8 O8.out.st.net (by rw [HL2.out]; have := HFl.out; omega))
            clear t8
            go_wp2_with fail
            refine HFy.out.mono ?_
            rintro e w9 ⟨v9, rfl, s9, t9⟩
            have O9 := hid (O8.out.on t9)
            have S9 := hid (S8.out.keep t9 (by simp))
            obtain ⟨a9, c9, hv9⟩ : ∃ a c, v9 = .slice a N.flying.length c := by
              rw [← HL2.out]
              rcases s9.sl.shape with ⟨h1, h2⟩ | ⟨g', cap', h1, _⟩
              · exact ⟨none, 0, by rw [h1, h2]; rfl⟩
              · exact ⟨_, _, h1⟩
            subst hv9
            have hsub : wrap64 ((N.flying.length : Int) - 1) = ((N.flying.length - 1 : Nat) : Int) := by
              have := HFl.out; have := HZ.out
              rw [w64 (by omega)]; omega
            have HDe := hid (deliver_ok p N2 F5 (N.flying.length - 1) L w9 O9.out.st.net HLa.out (by rw [HL2.out]; have := HFl.out; omega))
            clear s9 t9
            go_wp2_with fail
            refine HDe.out.mono ?_
            rintro e w10 ⟨rfl, n10, t10⟩
            have O10 := hid (O9.out.step n10 (fun x hx => .inl hx) t10)
            have S10 := hid (S9.out.keep t10 (fun b hb => by simp [Value.ownBlock] at hb; subst hb; exact HF5.out))
            have hc1 : w10.cell? ⟨g, k * 4 + 1, none⟩ = some (.int .i64 L.dst) := S10.out.cells encL_len rfl HL.out (j := 1) rfl
            have hN3 : NetOk (l.length + 2) (N2.deliver (N.flying.length - 1) L) := by
              have h := HN2.out
              refine ⟨?_, by rw [HCa.out]; have := h.came; omega, h.all0, ?_, fun a b => ?_⟩
              · show (N2.flying.eraseIdx _).length ≤ _
                have := List.length_eraseIdx_le N2.flying (N.flying.length - 1)
                have := h.fly; omega
              · have := h.all; show N2.all ≤ _; omega
              · have := h.next a b; show 0 ≤ N2.next a b ∧ N2.next a b ≤ _; omega
            have hI := inbox_ok p _ F5 L.dst w10 n10 (by rw [HCa.out]; have := HN2.out.came; have := hlen.out; omega)
            rw [HCa.out] at hI
            have HI2 := hid hI
            have HN3 := hid hN3
            clear n10 t10 hI hN3
            go_wp2_with fail
            refine HI2.out.mono ?_
            rintro e w11 ⟨v11, out11, rfl, s11, g11, t11, p11, -⟩
            have O11 := hid (O10.out.on t11)
            have S11 := hid (S10.out.keep t11 (by simp))
            have hle : out7.length = out11.length := P7.out.length_eq.trans p11.length_eq.symm
            have P11 := hid p11
            obtain ⟨a11, c11, hv11⟩ : ∃ a c, v11 = .slice a out11.length c := by
              rcases s11.shape with ⟨h1, h2⟩ | ⟨g', cap', h1, _⟩
              · exact ⟨none, 0, by rw [h1, h2]; rfl⟩
              · exact ⟨_, _, h1⟩
            subst hv11
            have B11 := hid s11
            have hM := miss_ok p _ F5 w11 O11.out.st _ HN3.out (by have := hlen.out; omega)
            rw [HM3.out] at hM
            have HMi := hid hM
            have HLE := hid hle
            clear s11 g11 t11 p11 hM hle hc1
            have hle2 : ((out7.length : Int) != (out11.length : Int)) = false := by rw [HLE.out]; simp
            go_wp2_with fail
            refine HMi.out.mono ?_
            rintro e w12 ⟨rfl, t12⟩
            have O12 := hid (O11.out.on t12)
            have S12 := hid (S11.out.keep t12 (by simp))
            have B12 := hid (B11.out.keep t12 (by simp))
            clear t12
            go_wp2_with fail
            have hcount : out11.count L = 1 := by
              rw [P11.out.count_eq]
              exact count_one (nodup_of_map (pick_nodup K2.out L.dst)) HMM.out
            have HCo := hid hcount
            clear hcount
            go_loopg [16, 17] out11.length (fun g s16 s17 wr => Hid (∃ j : Nat, s17 = .int .i64 j ∧ s16 = .int .i64 (((out11.take j).count L : Nat) : Int) ∧ g = out11.length - j ∧ j ≤ out11.length ∧ Tch [] w12 wr))
            case atStart => exact hid ⟨0, rfl, by simp, rfl, Nat.zero_le _, Tch.refl _ _⟩
            case round =>
              obtain ⟨j, rfl, rfl, rfl, hj, ht⟩ := hrel.out
              clear hrel
              have HT := hid ht
              have HJ := hid hj
              clear ht hj
              by_cases hjl : j < out11.length
              · have hjl' : decide ((j : Int) < (out11.length : Int)) = true := by simpa using hjl
                have hx : out11[j]? = some out11[j] := List.getElem?_eq_getElem hjl
                have HX := hid hx
                generalize out11[j] = y at hx HX
                clear hx
                obtain ⟨g2, rfl⟩ : ∃ g2, a11 = some ⟨g2, 0, none⟩ := by
                  rcases B12.out.shape with ⟨_, h⟩ | ⟨g2, cap2, h, _⟩
                  · rw [h] at hjl; simp at hjl
                  · simp at h; exact ⟨g2, h.1⟩
                have o0 := HT.out.cell (B12.out.cells encL_len rfl HX.out (j := 0) rfl) (by simp)
                have o1 := HT.out.cell (B12.out.cells encL_len rfl HX.out (j := 1) rfl) (by simp)
                have o2 := HT.out.cell (B12.out.cells encL_len rfl HX.out (j := 2) rfl) (by simp)
                have o3 := HT.out.cell (B12.out.cells encL_len rfl HX.out (j := 3) rfl) (by simp)
                have f0 := HT.out.cell (S12.out.cells encL_len rfl HL.out (j := 0) rfl) (by simp)
                have f1 := HT.out.cell (S12.out.cells encL_len rfl HL.out (j := 1) rfl) (by simp)
                have f2 := HT.out.cell (S12.out.cells encL_len rfl HL.out (j := 2) rfl) (by simp)
                have f3 := HT.out.cell (S12.out.cells encL_len rfl HL.out (j := 3) rfl) (by simp)
                rw [Nat.add_zero] at o0 f0
                have hlen11 : out11.length ≤ 100 := by
                  have h1 := P11.out.length_eq
                  have h2 : (pick L.dst N2.came).length ≤ N2.came.length := by simp [pick]; exact List.length_filter_le _ _
                  have h3 := HN2.out.came; have h4 := hlen.out
                  omega
                have hcl : (out11.take j).count L ≤ 100 := by
                  have := List.count_le_length (a := L) (l := out11.take j)
                  simp at this; omega
                have hnx : wrap64 ((j : Int) + 1) = (j : Int) + 1 := w64 (by omega)
                have hcn : wrap64 ((((out11.take j).count L : Nat) : Int) + 1) = (((out11.take j).count L : Nat) : Int) + 1 := w64 (by omega)
                have htk : (out11.take (j + 1)).count L = (out11.take j).count L + (if y = L then 1 else 0) := by
                  rw [List.take_add_one, HX.out]
                  simp [List.count_append, List.count_cons]
                generalize hcn0 : (out11.take j).count L = cn at *
                have HTK := hid htk
                have HCN := hid hcn0
                clear hcn0
                have H100 := hid hlen11
                clear htk hlen11 hcl
                go_wp2_with fail
                refine wp_region_g [] [0, 0, 0, 1, 0, 0, 0, 1, 3] [0, 1, 2, 4, 5, 6, 3, 7, 8] [0, 0, 3, 7, 0, 0, 48, 112, 255] mixed (by kernel_rfl) ?_
                intro wz hTz
                replace o0 := hTz.cell o0 (by simp)
                replace o1 := hTz.cell o1 (by simp)
                replace o2 := hTz.cell o2 (by simp)
                replace o3 := hTz.cell o3 (by simp)
                replace f0 := hTz.cell f0 (by simp)
                replace f1 := hTz.cell f1 (by simp)
                replace f2 := hTz.cell f2 (by simp)
                replace f3 := hTz.cell f3 (by simp)
                have HTz := hid (HT.out.then0 hTz)
                clear hTz
                have hkl := HKl.out
                by_cases hyL : y = L
                · have hd : decide (y = L) = true := by simpa using hyL
                  have HD8 := hid hd
                  have htk := HTK.out
                  rw [if_pos hyL] at htk
                  have HTK2 := hid htk
                  clear hyL hd htk HTK
                  go_wp2_with (first | (refine wpT_pure rfl rfl rfl rfl (fun _ _ => ?_)) | (refine wpT_look rfl rfl rfl (fun _ _ => ?_)))
                  refine wpT_one rfl rfl rfl (fun K8 hK8 => ?_)
                  refine wp_eql_letter (l := y) (m := L) rfl rfl rfl ?_
                  rw [HD8.out]
                  refine hK8 _ _ ?_
                  refine wpT_nil ?_
                  clear hK8
                  go_simp
                  go_wp2_with fail
                  go_roundg (out11.length - (j + 1))
                  case measure => exact Nat.sub_lt_sub_left hjl (Nat.lt_succ_self j)
                  case rel => exact hid ⟨j + 1, by simp only [hnx, Int.natCast_add, Int.natCast_one], by rw [HTK2.out]; simp only [hcn, Int.natCast_add, Int.natCast_one], rfl, Nat.succ_le_of_lt hjl, HTz.out⟩
                · have hd : decide (y = L) = false := by simpa using hyL
                  have HD8 := hid hd
                  have htk := HTK.out
                  rw [if_neg hyL] at htk
                  have HTK2 := hid htk
                  clear hyL hd htk HTK
                  go_wp2_with (first | (refine wpT_pure rfl rfl rfl rfl (fun _ _ => ?_)) | (refine wpT_look rfl rfl rfl (fun _ _ => ?_)))
                  refine wpT_one rfl rfl rfl (fun K8 hK8 => ?_)
                  refine wp_eql_letter (l := y) (m := L) rfl rfl rfl ?_
                  rw [HD8.out]
                  refine hK8 _ _ ?_
                  refine wpT_nil ?_
                  clear hK8
                  go_simp
                  go_wp2_with fail
                  go_roundg (out11.length - (j + 1))
                  case measure => exact Nat.sub_lt_sub_left hjl (Nat.lt_succ_self j)
                  case rel => exact hid ⟨j + 1, by simp only [hnx, Int.natCast_add, Int.natCast_one], by rw [HTK2.out, Nat.add_zero], rfl, Nat.succ_le_of_lt hjl, HTz.out⟩
              · have he : j = out11.length := by have := HJ.out; omega
                subst he
                have hjl' : decide ((out11.length : Int) < (out11.length : Int)) = false := by simp
                go_wp2_with fail
                go_ret
                have hc := HCo.out
                rw [List.take_length]
                exact ⟨by simp [hc], O12.out.tch.then0 HT.out⟩
end Go.Proofs.YtlpjdngjmknniaaDoor
