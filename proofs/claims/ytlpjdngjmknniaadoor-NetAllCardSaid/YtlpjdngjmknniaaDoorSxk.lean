/- The walk is sound: literals, append, slices. -/
import Derived.Test.YtlpjdngjmknniaaDoorSxj
namespace Go.Sx
open Go Go.RowKit Go.Reg

/-! ### literals -/
theorem foldl_splice (off : Nat) : ∀ (xs : List Value) (k : Nat) (cells : Array Value), off + k + xs.length ≤ cells.size →
    ((xs.zipIdx k).foldl (fun (cs : Array Value) (p : Value × Nat) => cs.setIfInBounds (off + p.2) p.1) cells).toList = splice cells.toList (off + k) xs
  | [], k, cells, _ => by simp [splice]
  | x :: xs, k, cells, h => by
    simp only [List.length_cons] at h
    simp only [List.zipIdx_cons, List.foldl_cons]
    rw [foldl_splice off xs (k + 1) _ (by simp; omega)]
    rw [Array.toList_setIfInBounds, show off + (k + 1) = off + k + 1 by omega]
    have hlen : off + k + (xs.length + 1) ≤ cells.toList.length := by simpa using h
    generalize cells.toList = cs at hlen
    generalize off + k = o at hlen
    have hlt : o < cs.length := by omega
    have e0 : cs = cs.take o ++ cs[o] :: cs.drop (o + 1) := by rw [List.getElem_cons_drop, List.take_append_drop]
    generalize hA : cs.take o = A at e0
    generalize cs.drop (o + 1) = R at e0
    generalize cs[o] = y at e0
    have hAl : A.length = o := by rw [← hA]; simp; omega
    subst hAl
    rw [e0, List.set_append_right _ _ (Nat.le_refl _), Nat.sub_self, List.set_cons_zero, splice_right (by omega), splice_right (Nat.le_refl _)]
    rw [show A.length + 1 - A.length = 1 by omega, Nat.sub_self]
    have e1 := splice_right (c1 := [x]) (c2 := R) (x := xs) (o := 1) (by simp)
    simp only [List.singleton_append] at e1
    rw [e1]
    simp [splice]

theorem fill_cons {place : Nat → Option (Nat × Nat)} {cells : Array Value} {i off size : Nat} {v : Value} {rest : List (Nat × Value)} (hp : place i = some (off, size)) (hs : v.cells.size = size) (hl : off + size ≤ cells.size) :
    Instr.fill place cells ((i, v) :: rest) = Instr.fill place (splice cells.toList off v.cells.toList).toArray rest := by
  have e := foldl_splice off v.cells.toList 0 cells (by simp; omega)
  simp only [Instr.fill, hp]
  rw [if_neg (by simp; omega)]
  congr 1
  apply Array.ext'
  rw [show off + 0 = off by rfl] at e
  rw [← e, ← Array.foldl_toList, Array.toList_zipIdx]

theorem fill_seq {size : Nat} {place : Nat → Option (Nat × Nat)} (hp : ∀ i, place i = some (i * size, size)) : ∀ (vs : List Value) (i : Nat) (done rest : List Value), done.length = i * size → rest.length = vs.length * size → (∀ v ∈ vs, v.cells.size = size) →
    Instr.fill place (done ++ rest).toArray ((vs.zipIdx i).map fun p => (p.2, p.1)) = some (done ++ (vs.map (·.cells.toList)).flatten).toArray
  | [], i, done, rest, hd, hr, hs => by simp [Instr.fill] at hr ⊢; exact hr
  | v :: vs, i, done, rest, hd, hr, hs => by
    have hv := hs v (by simp)
    have hvl : v.cells.toList.length = size := by simpa using hv
    simp only [List.length_cons, Nat.add_mul, Nat.one_mul] at hr
    simp only [List.zipIdx_cons, List.map_cons]
    rw [fill_cons (hp i) hv (by simp; omega)]
    have e : splice (done ++ rest) (i * size) v.cells.toList = (done ++ v.cells.toList) ++ rest.drop size := by
      rw [splice_right (by omega), hd, Nat.sub_self]
      simp [splice, hvl]
    rw [show (done ++ rest).toArray.toList = done ++ rest by simp, e, fill_seq hp vs (i + 1) _ _ (by simp [Nat.add_mul]; omega) (by simp; omega) (fun u hu => hs u (by simp [hu]))]
    simp

section
variable {C : Cx} {T : Tab} {B S : List Nat} {w0 w : World} {n : Nat} {fr : Fr} {σ : Sg} {η : Nat → Value} {φ : Nat → List Nat} {a : Act} {v vx vy : Value} {no : Prop}

theorem run_buildSlice_ok {P : Program} {t : TypeId} {e ee : TyI} (h : TyOk P t e) (hk : e.kd = 2) (h2 : TyOk P e.elem ee) {vs : List Value} (hv : ∀ v ∈ vs, v.cells.size = ee.size) (hm : vs.length ≤ 1000) (hs : ee.size ≤ 1000) :
    (Instr.buildSlice t vs.length ((vs.zipIdx 0).map fun p => (p.2, p.1)).toArray).run P w = .ok (.slice (some ⟨w.heap.size, 0, none⟩) vs.length vs.length) (w.alloc (.cells (vs.map (·.cells.toList)).flatten.toArray e.elem)) := by
  obtain ⟨d, h1, _, h3, _, _, _, _, h8⟩ := h.desc
  rw [hk] at h8
  cases d <;> simp at h8
  have he := h3 _ rfl
  subst he
  obtain ⟨z, hz, _, _⟩ := h2.zero
  have hms : vs.length * ee.size ≤ 1000 * 1000 := Nat.mul_le_mul hm hs
  have hlt : ¬ (2 ^ 24 < vs.length * ee.size) := by omega
  have hfill : ∀ cells : Array Value, cells.size = vs.length * ee.size → Instr.fill (fun i => some (i * ee.size, ee.size)) cells ((vs.zipIdx 0).map fun p => (p.2, p.1)) = some ((vs.map (·.cells.toList)).flatten).toArray := fun cells hc => by
    have := fill_seq (size := ee.size) (place := fun i => some (i * ee.size, ee.size)) (fun _ => rfl) vs 0 [] cells.toList (by simp) (by simpa using hc) hv
    simpa using this
  simp only [Instr.buildSlice, Sem.run_bind, run_underlying h1, Result.andThen_ok, h2.sizeOf, Sem.run_ite]
  rw [if_neg hlt]
  by_cases h0 : vs.length * ee.size = 0
  · simp only [Result.andThen_ok, Sem.run_pure, h0, if_true]
    rw [hfill _ (by simp [h0])]
    rfl
  · simp only [Result.andThen_ok, Sem.run_pure, h0, if_false, hz]
    rw [hfill _ (by simp)]
    rfl

theorem repCss_replicate {O : List Nat} {w : World} {d : Da} {cs : List Value} (h : RepC O w d cs) : ∀ m, RepCss O w (List.replicate m d) (List.replicate m cs)
  | 0 => by simp [RepCss]
  | m + 1 => by simp only [List.replicate_succ, RepCss]; exact ⟨cs, _, rfl, h, repCss_replicate h m⟩
theorem madeCells_flat (z : Array Value) : ∀ m, madeCells z (m * z.size) = (List.replicate m z.toList).flatten.toArray := by
  intro m
  apply Array.ext'
  simp only [madeCells, Array.toList_map, Array.toList_range]
  induction m with
  | zero => simp
  | succ m ih =>
    rw [Nat.succ_mul, List.range_add, List.map_append, ih, List.replicate_succ', List.flatten_append]
    congr 1
    simp only [List.map_map, List.flatten_cons, List.flatten_nil, List.append_nil]
    apply List.ext_getElem?
    intro j
    rw [List.getElem?_map]
    by_cases hj : j < z.size
    · rw [List.getElem?_range hj]
      have : (m * z.size + j) % z.size = j := by rw [Nat.mul_comm, Nat.mul_add_mod]; exact Nat.mod_eq_of_lt hj
      simp [this, hj]
    · rw [List.getElem?_eq_none (by simp; omega), List.getElem?_eq_none (by simp; omega)]; rfl
theorem run_makeSlice_ok {P : Program} {t : TypeId} {e ee : TyI} (h : TyOk P t e) (hk : e.kd = 2) (h2 : TyOk P e.elem ee) (hst : ee.zero.stor = true) (hby : ee.bytes ≤ 1000) {k1 k2 : IntKind} {m : Nat} (hm : m ≤ mostLen) :
    ∃ z : List Value, (Instr.makeSlice t (.int k1 m) (.int k2 m)).run P w = .ok (.slice (some ⟨w.heap.size, 0, none⟩) m m) (w.alloc (.cells (List.replicate m z).flatten.toArray e.elem)) ∧ RowOk ee.size z ∧ (∀ O w, RepC O w ee.zero z) ∧ True := by
  obtain ⟨d, h1, _, h3, _, _, _, _, h8⟩ := h.desc
  rw [hk] at h8
  cases d <;> simp at h8
  have he := h3 _ rfl
  subst he
  obtain ⟨i, z, i1, i2, i3, i4, i5, i6⟩ := h2.info
  have hlen : z.cells.size = ee.size := by
    have := repC_len _ _ (i6 [] w)
    rw [h2.zsize] at this
    simpa using this
  unfold mostLen at hm
  have hb : (i.bytes : Int) * (m : Int) ≤ 281474976710656 := by
    have : i.bytes * m ≤ 1000 * 4294967296 := Nat.mul_le_mul (by omega) hm
    have h' : ((i.bytes * m : Nat) : Int) ≤ 281474976710656 := by omega
    rwa [Int.natCast_mul] at h'
  have hr := run_make (P := P) w t e.elem i z h1 i1 i4 k1 k2 m m (by omega) (Int.le_refl _) hb (by omega)
  simp only [Int.toNat_natCast] at hr
  rw [i2, ← hlen, madeCells_flat] at hr
  exact ⟨z.cells.toList, hr, ⟨by simpa using hlen, repC_one _ _ hst (i6 [] w)⟩, i6, trivial⟩

/-- a new row that a slice fills -/
theorem sl_new {E k : Nat} {css : List (List Value)} (hk : ∀ x ∈ css, RowOk k x) (hm : css.length ≤ maxLen) (w : World) : Sl E k id (w.alloc (.cells css.flatten.toArray E)) (.slice (some ⟨w.heap.size, 0, none⟩) css.length css.length) css := by
  have hfl := flat_len (fun x hx => (hk x hx).1)
  refine ⟨by rw [flatMap_id]; exact hfl, .inr ⟨w.heap.size, css.length, css.flatten.toArray, rfl, Nat.zero_le _, (MapKept.heap_alloc w _).1, Nat.le_refl _, hm, by simpa using hfl, ?_⟩⟩
  rw [flatMap_id]; simp only []; rw [List.take_of_length_le (by rw [hfl]; exact Nat.le_refl _)]

/-! ### append -/
/-- the elements of a slice that stands for es -/
structure Src (k : Nat) (O : List Nat) (w : World) (es : List Da) (v : Value) : Prop where
  ex : ∃ a c css, v = .slice a es.length c ∧ RepCss O w es css ∧ (∀ x ∈ css, RowOk k x) ∧ (es = [] ∨ ∃ b o, a = some ⟨b, o, none⟩ ∧ Cells w b o css.flatten)

theorem elems_ok (hm : Mem C B S w0 σ η φ w) {x : Dat} {k : Nat} {es : List Da} (h : elems x k σ = some es) (hx : RD B σ η φ w x vx) : Src k (B ++ blocks φ σ) w es vx := by
  unfold elems at h
  split at h
  · split at h
    · rename_i hb
      have hb := Nat.eq_of_beq_eq_true hb
      simp at h; subst h; subst hb
      obtain ⟨cs, h1, h2⟩ := hx
      simp only [RepD, RepC] at h1
      obtain ⟨aa, c, css, rfl, _, _, h4, h5, h6⟩ := h1
      exact ⟨aa, c, css, h2, h4, h5, h6.imp id (fun ⟨b, o, g1, _, _, g4⟩ => ⟨b, o, g1, g4⟩)⟩
    · cases h
  · simp at h; subst h
    exact ⟨none, 0, [], hx.nils, by simp [RepCss], by simp, .inl rfl⟩
  · split at h
    · rename_i hg
      split at h
      · rename_i hb
        have hb := Nat.eq_of_beq_eq_true hb
        simp at h; have h := h.symm; subst h; subst hb
        obtain ⟨css, hs, _, hr, hk⟩ := own_slice_val hm hg
        have hl := repCss_len hr
        obtain ⟨cs', h1, h2⟩ := hx
        simp only [RepD] at h1
        obtain ⟨_, rfl⟩ := h1
        rcases hs.shape with ⟨he, he2⟩ | ⟨g, cap, he, _⟩
        · subst he2
          have : es = [] := by simpa using hl.symm
          subst this
          exact ⟨none, 0, [], h2.trans he, by simp [RepCss], by simp, .inl rfl⟩
        · exact ⟨_, cap, css, h2.trans (by rw [he, hl]; rfl), hr, hk, .inr ⟨g, 0, rfl, sl_cells hs he⟩⟩
      · cases h
    · cases h
  · cases h

theorem cells_add {b o : Nat} {cs : List Value} (h : Cells w b o cs) : ∀ (j : Nat) (u : Value), cs[j]? = some u → w.cell? ((⟨b, o, none⟩ : Addr).add j) = some u := fun j u hj => by
  have := h j u hj
  simpa [Addr.add_lit] using this

theorem append_any {P : Program} {t : TypeId} {e ee : TyI} (h : TyOk P t e) (hk : e.kd = 2) (h2 : TyOk P e.elem ee) (hk0 : 0 < ee.size) (hb0 : ee.bytes ≤ 1000) {css : List (List Value)} (hs : Sl e.elem ee.size id w v css) {O : List Nat} {es : List Da} (hy : Src ee.size O w es vy) (hlen : css.length + es.length ≤ mostLen) (ty : TypeId) :
    ∃ v' w' css2, (Builtin.append_ #[t, t] ty #[v, vy]).run P w = .ok v' w' ∧ Sl e.elem ee.size id w' v' (css ++ css2) ∧ RepCss O w es css2 ∧ (∀ x ∈ css2, RowOk ee.size x) ∧ Tch v.ownBlock.toList w w' ∧ (v'.ownBlock = v.ownBlock ∨ v'.ownBlock = some w.heap.size) := by
  obtain ⟨d, h1, _, h3, _, _, _, _, h8⟩ := h.desc
  rw [hk] at h8
  cases d <;> simp at h8
  have he := h3 _ rfl
  subst he
  obtain ⟨i, z, hi, hsize, hby, hz, _, _⟩ := h2.info
  obtain ⟨av, c, css2, rfl, hr2, hk2, hsrc⟩ := hy.ex
  have hl2 := repCss_len hr2
  have hfl2 := flat_len (fun x hx => (hk2 x hx).1)
  unfold mostLen at hlen
  by_cases h0 : es.length = 0
  · have hes : es = [] := List.eq_nil_of_length_eq_zero h0
    subst hes
    have hc2 : css2 = [] := by simpa using hl2
    subst hc2
    refine ⟨v, w, [], ?_, by simpa using hs, hr2, hk2, Tch.refl _ _, .inl rfl⟩
    have hf : (Builtin.firstCells ee.size 0 (.slice av 0 c)).run P w = .ok #[] w := by
      cases av <;> simp [Builtin.firstCells, loadCells, loadCellsFrom]
    rcases hs.shape with ⟨rfl, hn⟩ | ⟨g, cap, rfl, hc⟩
    · simp [Builtin.append_, run_underlying h1, h2.sizeOf, Builtin.lenOf, hf]
    · have : css.length ≤ cap := hc
      simp [Builtin.append_, run_underlying h1, h2.sizeOf, Builtin.lenOf, hf, this, storeCells]
  · obtain ⟨b, o, rfl, hcell⟩ : ∃ b o, av = some ⟨b, o, none⟩ ∧ Cells w b o css2.flatten := hsrc.resolve_left (fun e => h0 (by rw [e]; rfl))
    have hnews := cells_add hcell
    have hln : css2.flatten.length = es.length * ee.size := by rw [hfl2, hl2]
    have hone := flat_one hk2
    have hbb : (css.length + es.length) * ee.bytes ≤ 4294967296 * 1000 := Nat.mul_le_mul hlen hb0
    have hbb2 : es.length * ee.bytes ≤ (css.length + es.length) * ee.bytes := Nat.mul_le_mul_right _ (by omega)
    have hzs : z.cells.size = ee.size := by
      obtain ⟨i', z', g1, g2, _, g4, _, g6⟩ := h2.info
      rw [hi] at g1; cases g1
      rw [hz] at g4; cases g4
      have := repC_len _ _ (g6 [] w)
      have hsz := h2.zsize
      simp at this
      omega
    obtain ⟨v', w', hr, ho, hg, _⟩ := run_append_own (P := P) w 0 t ty e.elem i z ee.size ee.bytes h1 hi hz hsize hby hzs hk0 v css.length (css.flatMap id) hs ⟨b, o, none⟩ es.length c css2.flatten hln hnews hone (by simp only [maxLen]; omega) (by omega) (Nat.zero_le _)
    refine ⟨v', w', css2, hr, ?_, hr2, hk2, ⟨hg.os, hg.tape, hg.output, hg.size, fun j hj hn => hg.block j hj (fun e => hn (by rw [← e]; simp))⟩, ?_⟩
    · unfold Sl
      rw [List.flatMap_append, flatMap_id css2, List.length_append, hl2]; exact ho
    · have hln' : css2.flatten.length = es.length * i.size := by rw [hsize]; exact hln
      rcases hs.2 with ⟨rfl, hn⟩ | ⟨g, cap, cur, rfl, _, hcur, hnc, hcm, hcs, htake⟩
      · have hx' := run_append_nil (P := P) w t ty e.elem i z h1 hi hz ⟨b, o, none⟩ es.length c css2.flatten hln' hnews (by omega) (by omega) (by rw [hby]; omega)
        rw [hx'] at hr
        simp at hr
        exact .inr (by rw [← hr.1]; rfl)
      · by_cases hroom : css.length + es.length ≤ cap
        · have hfit2 : css.length * i.size + css2.flatten.length ≤ cur.size := by rw [hln, hcs, hsize, ← Nat.add_mul]; exact Nat.mul_le_mul_right _ hroom
          have hx' := run_append_room (P := P) w t ty e.elem i h1 hi g css.length cap cur hcur ⟨b, o, none⟩ es.length c css2.flatten hln' hnews hone hroom hfit2
          rw [hx'] at hr
          simp at hr
          exact .inl (by rw [← hr.1]; rfl)
        · have holds : ∀ j u, (css.flatMap id)[j]? = some u → w.cell? ((⟨g, 0, none⟩ : Addr).add j) = some u := World.ownsRow.cells hs (g := g) rfl
          have hx' := run_append_grow (P := P) w t ty e.elem i z h1 hi hz ⟨g, 0, none⟩ css.length cap (css.flatMap id) (by rw [hsize]; exact hs.1) holds ⟨b, o, none⟩ es.length c css2.flatten hln' hnews (by omega) (by omega) (growslice_fits (by omega) (by rw [hby]; omega))
          rw [hx'] at hr
          simp at hr
          exact .inr (by rw [← hr.1]; rfl)
end

end Go.Sx
