/- The walk is sound: cells. -/
import Derived.Test.YtlpjdngjmknniaaDoorSxg
namespace Go.Sx
open Go Go.RowKit Go.Reg

mutual
theorem repC_len {O : List Nat} {w : World} : ∀ (d : Da) (cs : List Value), RepC O w d cs → cs.length = d.size
  | .agg ds, cs, h => by simp only [RepC] at h; simp only [Da.size]; exact repCs_len ds cs h
  | .undef, cs, h => by simp only [RepC] at h; obtain ⟨v, rfl⟩ := h; rfl
  | .int _ _, cs, h => by simp only [RepC] at h; subst h; rfl
  | .bool _, cs, h => by simp only [RepC] at h; subst h; rfl
  | .prop _ _, cs, h => by simp only [RepC] at h; subst h; rfl
  | .str _, cs, h => by simp only [RepC] at h; subst h; rfl
  | .tuple _, cs, h => by simp only [RepC] at h; obtain ⟨_, _, rfl⟩ := h; rfl
  | .nilp, cs, h => by simp only [RepC] at h; subst h; rfl
  | .nils, cs, h => by simp only [RepC] at h; subst h; rfl
  | .nilm, cs, h => by simp only [RepC] at h; subst h; rfl
  | .nilf, cs, h => by simp only [RepC] at h; subst h; rfl
  | .nili, cs, h => by simp only [RepC] at h; subst h; rfl
  | .iface _ _, cs, h => by simp only [RepC] at h; obtain ⟨_, _, rfl⟩ := h; rfl
  | .ref _, cs, h => by simp only [RepC] at h; obtain ⟨_, _, _, rfl, _⟩ := h; rfl
  | .list _ _, cs, h => by simp only [RepC] at h; obtain ⟨_, _, _, rfl, _⟩ := h; rfl
  | .func _ _ _, cs, h => by simp only [RepC] at h; obtain ⟨_, _, _, _, rfl⟩ := h; rfl
  | .raw _, cs, h => by simp only [RepC] at h; subst h; rfl
theorem repCs_len {O : List Nat} {w : World} : ∀ (ds : List Da) (cs : List Value), RepCs O w ds cs → cs.length = sizes ds
  | [], cs, h => by simp only [RepCs] at h; subst h; rfl
  | d :: ds, cs, h => by
    simp only [RepCs] at h
    obtain ⟨c1, c2, rfl, h1, h2⟩ := h
    simp only [List.length_append, sizes, repC_len d c1 h1, repCs_len ds c2 h2]
end
mutual
theorem repD_len {η : Nat → Value} {I O : List Nat} {w : World} : ∀ (d : Dat) (cs : List Value), RepD η I O w d cs → cs.length = d.size
  | .d x, cs, h => repC_len x cs h
  | .agg ds, cs, h => by simp only [RepD] at h; simp only [Dat.size]; exact repDs_len ds cs h
  | .own _, cs, h => by simp only [RepD] at h; obtain ⟨_, rfl⟩ := h; rfl
  | .at_ _ _, cs, h => by simp only [RepD] at h; obtain ⟨_, _, _, rfl⟩ := h; rfl
  | .el _ _ _ _, cs, h => by simp only [RepD] at h; obtain ⟨_, _, _, _, _, rfl⟩ := h; rfl
  | .tuple _, cs, h => by simp only [RepD] at h; obtain ⟨_, _, rfl⟩ := h; rfl
  | .iface _ _, cs, h => by simp only [RepD] at h; obtain ⟨_, _, rfl⟩ := h; rfl
  | .func _ _ _, cs, h => by simp only [RepD] at h; obtain ⟨_, _, _, _, rfl⟩ := h; rfl
theorem repDs_len {η : Nat → Value} {I O : List Nat} {w : World} : ∀ (ds : List Dat) (cs : List Value), RepDs η I O w ds cs → cs.length = sizesD ds
  | [], cs, h => by simp only [RepDs] at h; subst h; rfl
  | d :: ds, cs, h => by
    simp only [RepDs] at h
    obtain ⟨c1, c2, rfl, h1, h2⟩ := h
    simp only [List.length_append, sizesD, repD_len d c1 h1, repDs_len ds c2 h2]
end

mutual
theorem repC_one {O : List Nat} {w : World} : ∀ (d : Da) (cs : List Value), d.stor = true → RepC O w d cs → ∀ v ∈ cs, v.oneCell' = true
  | .agg ds, cs, hs, h => by simp only [RepC] at h; simp only [Da.stor] at hs; exact repCs_one ds cs hs h
  | .undef, cs, hs, h => by cases hs
  | .int _ _, cs, hs, h => by simp only [RepC] at h; subst h; simp [Value.oneCell']
  | .bool _, cs, hs, h => by simp only [RepC] at h; subst h; simp [Value.oneCell']
  | .prop _ _, cs, hs, h => by simp only [RepC] at h; subst h; simp [Value.oneCell']
  | .str _, cs, hs, h => by simp only [RepC] at h; subst h; simp [Value.oneCell']
  | .tuple _, cs, hs, h => by cases hs
  | .nilp, cs, hs, h => by simp only [RepC] at h; subst h; simp [Value.oneCell']
  | .nils, cs, hs, h => by simp only [RepC] at h; subst h; simp [Value.oneCell']
  | .nilm, cs, hs, h => by simp only [RepC] at h; subst h; simp [Value.oneCell']
  | .nilf, cs, hs, h => by simp only [RepC] at h; subst h; simp [Value.oneCell']
  | .nili, cs, hs, h => by simp only [RepC] at h; subst h; simp [Value.oneCell']
  | .iface _ _, cs, hs, h => by simp only [RepC] at h; obtain ⟨_, _, rfl⟩ := h; simp [Value.oneCell']
  | .ref _, cs, hs, h => by simp only [RepC] at h; obtain ⟨_, _, _, rfl, _⟩ := h; simp [Value.oneCell']
  | .list _ _, cs, hs, h => by simp only [RepC] at h; obtain ⟨_, _, _, rfl, _⟩ := h; simp [Value.oneCell']
  | .func _ _ _, cs, hs, h => by simp only [RepC] at h; obtain ⟨_, _, _, _, rfl⟩ := h; simp [Value.oneCell']
  | .raw _, cs, hs, h => by cases hs
theorem repCs_one {O : List Nat} {w : World} : ∀ (ds : List Da) (cs : List Value), stors ds = true → RepCs O w ds cs → ∀ v ∈ cs, v.oneCell' = true
  | [], cs, hs, h => by simp only [RepCs] at h; subst h; simp
  | d :: ds, cs, hs, h => by
    simp only [RepCs] at h
    obtain ⟨c1, c2, rfl, h1, h2⟩ := h
    simp only [stors, Bool.and_eq_true] at hs
    intro v hv
    rcases List.mem_append.1 hv with hv | hv
    · exact repC_one d c1 hs.1 h1 v hv
    · exact repCs_one ds c2 hs.2 h2 v hv
end

/-- what the values of owned things look like -/
def OneV (η : Nat → Value) (I : List Nat) : Prop := ∀ i ∈ I, (η i).oneCell' = true
mutual
theorem repD_one {η : Nat → Value} {I O : List Nat} {w : World} (hη : OneV η I) : ∀ (d : Dat) (cs : List Value), d.stor = true → RepD η I O w d cs → ∀ v ∈ cs, v.oneCell' = true
  | .d x, cs, hs, h => repC_one x cs hs h
  | .agg ds, cs, hs, h => by simp only [RepD] at h; simp only [Dat.stor] at hs; exact repDs_one hη ds cs hs h
  | .own i, cs, hs, h => by simp only [RepD] at h; obtain ⟨h1, rfl⟩ := h; simpa using hη i h1
  | .at_ _ _, cs, hs, h => by simp only [RepD] at h; obtain ⟨_, _, _, rfl⟩ := h; simp [Value.oneCell']
  | .el _ _ _ _, cs, hs, h => by simp only [RepD] at h; obtain ⟨_, _, _, _, _, rfl⟩ := h; simp [Value.oneCell']
  | .tuple _, cs, hs, h => by cases hs
  | .iface _ _, cs, hs, h => by simp only [RepD] at h; obtain ⟨_, _, rfl⟩ := h; simp [Value.oneCell']
  | .func _ _ _, cs, hs, h => by simp only [RepD] at h; obtain ⟨_, _, _, _, rfl⟩ := h; simp [Value.oneCell']
theorem repDs_one {η : Nat → Value} {I O : List Nat} {w : World} (hη : OneV η I) : ∀ (ds : List Dat) (cs : List Value), storsD ds = true → RepDs η I O w ds cs → ∀ v ∈ cs, v.oneCell' = true
  | [], cs, hs, h => by simp only [RepDs] at h; subst h; simp
  | d :: ds, cs, hs, h => by
    simp only [RepDs] at h
    obtain ⟨c1, c2, rfl, h1, h2⟩ := h
    simp only [storsD, Bool.and_eq_true] at hs
    intro v hv
    rcases List.mem_append.1 hv with hv | hv
    · exact repD_one hη d c1 hs.1 h1 v hv
    · exact repDs_one hη ds c2 hs.2 h2 v hv
end

theorem toV_cells {O : List Nat} {w : World} {d : Da} {cs : List Value} (h : RepC O w d cs) (hs : d.stor = true) : (toV d cs).cells.toList = cs ∧ (d.isAgg = false → cs = [toV d cs]) := by
  have hl := repC_len d cs h
  have ho := repC_one d cs hs h
  cases d with
  | agg ds => exact ⟨by simp [toV, Value.cells], fun h => by cases h⟩
  | _ =>
    all_goals
      simp only [Da.size] at hl
      obtain ⟨v, rfl⟩ := List.length_eq_one_iff.1 hl
      have := ho v (by simp)
      refine ⟨?_, fun _ => rfl⟩
      simp only [toV, List.headD_cons]
      cases v <;> simp [Value.oneCell'] at this <;> rfl
theorem toVD_cells {η : Nat → Value} {I O : List Nat} {w : World} {d : Dat} {cs : List Value} (hη : OneV η I) (h : RepD η I O w d cs) (hs : d.stor = true) : (toVD d cs).cells.toList = cs ∧ (d.isAgg = false → cs = [toVD d cs]) := by
  have hl := repD_len d cs h
  have ho := repD_one hη d cs hs h
  cases d with
  | d x => exact toV_cells h hs
  | agg ds => exact ⟨by simp [toVD, Value.cells], fun h => by cases h⟩
  | _ =>
    all_goals
      simp only [Dat.size] at hl
      obtain ⟨v, rfl⟩ := List.length_eq_one_iff.1 hl
      have := ho v (by simp)
      refine ⟨?_, fun _ => rfl⟩
      simp only [toVD, List.headD_cons]
      cases v <;> simp [Value.oneCell'] at this <;> rfl

theorem run_loadVar_ok {P : Program} {t : TypeId} {e : TyI} (h : TyOk P t e) {w : World} {b o : Nat} {cs : List Value} (hc : Cells w b o cs) (hl : cs.length = e.size) (hs : e.agg = false → e.size = 1) :
    (loadVar t ⟨b, o, none⟩).run P w = .ok (if e.agg then .agg cs.toArray else cs.headD undef) w := by
  unfold loadVar
  simp only [Sem.run_bind, h.isAgg, Result.andThen_ok]
  cases ha : e.agg
  · have h1 := hs ha
    rw [h1] at hl
    obtain ⟨v, rfl⟩ := List.length_eq_one_iff.1 hl
    have h2 : w.cell? ⟨b, o, none⟩ = some v := hc 0 v rfl
    simp [h2]
  · have := run_loadCells_list (P := P) w ⟨b, o, none⟩ cs (fun j v hj => by
      have := hc j v hj
      by_cases hj0 : j = 0
      · subst hj0; exact this
      · simpa [Addr.add, hj0] using this)
    rw [hl] at this
    simp only [if_true, Sem.run_bind, h.sizeOf, Result.andThen_ok, this, Sem.run_pure]

theorem fits_spec {d : Da} {e : TyI} (h : d.fits e = true) : d.isAgg = e.agg ∧ d.size = e.size := by
  simp only [Da.fits, Bool.and_eq_true, beq_iff_eq] at h
  exact ⟨h.1, Nat.eq_of_beq_eq_true h.2⟩
theorem fitsD_spec {d : Dat} {e : TyI} (h : d.fits e = true) : d.isAgg = e.agg ∧ d.size = e.size := by
  simp only [Dat.fits, Bool.and_eq_true, beq_iff_eq] at h
  exact ⟨h.1, Nat.eq_of_beq_eq_true h.2⟩
theorem size_one {d : Da} (h : d.isAgg = false) : d.size = 1 := by
  cases d <;> first | rfl | cases h
theorem sizeD_one {d : Dat} (h : d.isAgg = false) : d.size = 1 := by
  cases d with
  | d x => exact size_one h
  | agg ds => cases h
  | _ => rfl
theorem toVD_load {d : Dat} {cs : List Value} : toVD d cs = if d.isAgg then .agg cs.toArray else cs.headD undef := by
  cases d with
  | d x => cases x <;> rfl
  | _ => rfl

theorem repDs_datas {η : Nat → Value} {I O : List Nat} {w : World} : ∀ {xs : List Da} {cs : List Value}, RepDs η I O w (datas xs) cs ↔ RepCs O w xs cs
  | [], cs => by simp [datas, RepDs, RepCs]
  | x :: xs, cs => by simp only [datas, RepDs, RepCs, RepD, repDs_datas (xs := xs)]
theorem parts_rep {η : Nat → Value} {I O : List Nat} {w : World} {d : Dat} {es : List Dat} {cs : List Value} (h : d.parts = some es) (hd : RepD η I O w d cs) : RepDs η I O w es cs ∧ d.isAgg = true := by
  unfold Dat.parts at h
  split at h
  · simp at h; subst h; exact ⟨repDs_datas.2 (by simpa only [RepD, RepC] using hd), rfl⟩
  · simp at h; subst h; exact ⟨by simpa only [RepD] using hd, rfl⟩
  · cases h

theorem lookAt_ok {η : Nat → Value} {I O : List Nat} {w : World} {e : TyI} : ∀ (f : Nat) (ds : List Dat) (o : Nat) {d : Dat} {cs : List Value}, lookAt e f ds o = some d → RepDs η I O w ds cs → d.fits e = true ∧ ∃ c, RepD η I O w d c ∧ ∀ (j : Nat) (u : Value), c[j]? = some u → cs[o + j]? = some u
  | 0, _, _, _, _, h, _ => by simp [lookAt] at h
  | f + 1, [], _, _, _, h, _ => by simp [lookAt] at h
  | f + 1, d :: ds, o, x, cs, h, hr => by
    simp only [RepDs] at hr
    obtain ⟨c1, c2, rfl, h1, h2⟩ := hr
    have hl := repD_len d c1 h1
    simp only [lookAt] at h
    split at h
    · rename_i hb
      have hlt : ¬ o < d.size := by
        intro hh; rw [(by simpa [Nat.blt_eq] using hh : Nat.blt o d.size = true)] at hb; cases hb
      obtain ⟨g1, c, g2, g3⟩ := lookAt_ok f ds _ h h2
      refine ⟨g1, c, g2, fun j u hj => ?_⟩
      rw [List.getElem?_append_right (by omega), hl]
      have := g3 j u hj
      rwa [show o + j - d.size = o - d.size + j by omega]
    · split at h
      · rename_i hb2
        simp only [Bool.and_eq_true] at hb2
        have h0 := Nat.eq_of_beq_eq_true hb2.1
        simp at h; subst h; subst h0
        exact ⟨hb2.2, c1, h1, fun j u hj => by rw [List.getElem?_append_left (by have := (List.getElem?_eq_some_iff.1 hj).1; omega), Nat.zero_add]; exact hj⟩
      · split at h
        · rename_i es hp
          obtain ⟨g1, c, g2, g3⟩ := lookAt_ok f es o h (parts_rep hp h1).1
          refine ⟨g1, c, g2, fun j u hj => ?_⟩
          have := g3 j u hj
          rw [List.getElem?_append_left (List.getElem?_eq_some_iff.1 this).1]
          exact this
        · cases h

/-- cells with others put over them -/
def splice (cs : List Value) (o : Nat) (x : List Value) : List Value := cs.take o ++ x ++ cs.drop (o + x.length)
theorem splice_left {c1 c2 x : List Value} {o : Nat} (h : o + x.length ≤ c1.length) : splice (c1 ++ c2) o x = splice c1 o x ++ c2 := by
  unfold splice
  rw [List.take_append_of_le_length (by omega), List.drop_append_of_le_length h]
  simp [List.append_assoc]
theorem splice_right {c1 c2 x : List Value} {o : Nat} (h : c1.length ≤ o) : splice (c1 ++ c2) o x = c1 ++ splice c2 (o - c1.length) x := by
  unfold splice
  rw [List.take_append, List.drop_append, List.take_of_length_le (by omega), List.drop_of_length_le (by omega : c1.length ≤ o + x.length), show o + x.length - c1.length = o - c1.length + x.length by omega]
  simp [List.append_assoc]

theorem putAt_ok {η : Nat → Value} {I O : List Nat} {w : World} {x : Dat} {cx : List Value} (hx : RepD η I O w x cx) : ∀ (f : Nat) (ds : List Dat) (o : Nat) {ds' : List Dat} {cs : List Value}, putAt x f ds o = some ds' → RepDs η I O w ds cs → RepDs η I O w ds' (splice cs o cx) ∧ o + cx.length ≤ cs.length
  | 0, _, _, _, _, h, _ => by simp [putAt] at h
  | f + 1, [], _, _, _, h, _ => by simp [putAt] at h
  | f + 1, d :: ds, o, ds', cs, h, hr => by
    simp only [RepDs] at hr
    obtain ⟨c1, c2, rfl, h1, h2⟩ := hr
    have hl := repD_len d c1 h1
    have hlx := repD_len x cx hx
    simp only [putAt] at h
    split at h
    · rename_i hb
      have hlt : ¬ o < d.size := by
        intro hh; rw [(by simpa [Nat.blt_eq] using hh : Nat.blt o d.size = true)] at hb; cases hb
      unfold consO at h
      split at h
      · rename_i l hp
        simp at h; subst h
        obtain ⟨g1, g2⟩ := putAt_ok hx f ds _ hp h2
        rw [splice_right (by omega), hl]
        refine ⟨?_, by simp; omega⟩
        simp only [RepDs]
        exact ⟨c1, _, rfl, h1, g1⟩
      · cases h
    · split at h
      · rename_i hb2
        simp only [Bool.and_eq_true, beq_iff_eq] at hb2
        obtain ⟨⟨h0, _⟩, h3⟩ := hb2
        have h0 := Nat.eq_of_beq_eq_true h0
        have h3 := Nat.eq_of_beq_eq_true h3
        simp at h; subst h; subst h0
        have : splice (c1 ++ c2) 0 cx = cx ++ c2 := by
          unfold splice
          rw [List.drop_append, List.drop_of_length_le (by omega)]
          simp
          rw [show cx.length - c1.length = 0 by omega]; rfl
        rw [this]
        refine ⟨?_, by simp; omega⟩
        simp only [RepDs]
        exact ⟨cx, c2, rfl, hx, h2⟩
      · split at h
        · rename_i es hp
          unfold aggO at h
          split at h
          · rename_i l hp2
            simp at h; subst h
            obtain ⟨g1, g2⟩ := putAt_ok hx f es o hp2 (parts_rep hp h1).1
            rw [splice_left (by omega)]
            refine ⟨?_, by simp; omega⟩
            simp only [RepDs, RepD]
            exact ⟨_, c2, rfl, g1, h2⟩
          · cases h
        · cases h

theorem Blk.splice {P : Program} {w : World} {b : Nat} {T : TypeId} {cs x : List Value} {o : Nat} (h : Blk w b T cs) (hl : o + x.length ≤ cs.length) (h1 : ∀ v ∈ x, v.oneCell' = true) :
    ∃ w', (storeCells ⟨b, o, none⟩ x).run P w = .ok () w' ∧ Blk w' b T (splice cs o x) ∧ Tch [b] w w' := by
  have := run_storeCells_at P b o T x 0 cs.toArray w h (by simpa using hl) h1
  refine ⟨_, this, ?_, ?_⟩
  · have e := setRow_heap w b cs.toArray (cs.toArray.toList.take (o + 0) ++ x ++ cs.toArray.toList.drop (o + 0 + x.length)).toArray T (0, 0) h
    unfold Blk; rw [e]; simp [Sx.splice]
  · exact ⟨rfl, rfl, rfl, by simp [World.setRow], fun k hk hn => by
      have : b ≠ k := fun e => hn (by simp [e])
      simp [World.setRow, Array.getElem?_modify, this]⟩

end Go.Sx
