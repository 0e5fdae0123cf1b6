/- Strings: s[a:b]; string of one byte. -/
import Derived.Test.YtlchegpgicdldaaDoorSxu
namespace Go.Sx
open Go Go.RowKit Go.Reg
section
variable {C : Cx} {T : Tab} {fr : Fr} {σ : Sg}
theorem run_slice_str {P : Program} {t : TypeId} {e : TyI} (h : TyOk P t e) (hk : e.kd = 7) {s : ByteArray} {w : World} {lo hi : Option Value} {l m : Nat} (hlo : match lo with | none => l = 0 | some v => ∃ k, v = .int k l) (hhi : match hi with | none => m = s.size | some v => ∃ k, v = .int k m) (hlm : l ≤ m) (hml : m ≤ s.size) :
    (Instr.sliceAt t (.string s) lo hi none).run P w = .ok (.string (s.extract l m)) w := by
  obtain ⟨d, h1, _, _, _, _, _, _, h8⟩ := h.desc
  rw [hk] at h8
  cases d <;> simp at h8
  have hb : (Instr.sliceBounds false s.size s.size lo hi none).run P w = .ok (l, m, s.size) w := by
    cases lo with
    | none =>
      simp only at hlo; subst hlo
      cases hi with
      | none => simp only at hhi; subst hhi; simp [Instr.sliceBounds]
      | some v => obtain ⟨k, rfl⟩ := hhi; simp [Instr.sliceBounds, run_sliceBound (w := w) (P := P) (k := k) (show m ≤ s.size by omega)]
    | some u =>
      obtain ⟨k', rfl⟩ := hlo
      cases hi with
      | none => simp only at hhi; subst hhi; simp [Instr.sliceBounds, run_sliceBound (w := w) (P := P) (k := k') hlm]
      | some v => obtain ⟨k, rfl⟩ := hhi; simp [Instr.sliceBounds, run_sliceBound (w := w) (P := P) (k := k) (show m ≤ s.size by omega), run_sliceBound (w := w) (P := P) (k := k') hlm]
  simp only [Instr.sliceAt, Sem.run_bind, run_underlying h1, Result.andThen_ok, Instr.slice]
  simp
  rw [hb]
  rfl
/-- 's[l:m]' of a string -/
theorem op_strSl (l m : Nat) {n kd : Nat} {o : Oper} {K : Fr → Sg → Prop} {t : TypeId} {x : Operand} {lo hi : Option Operand} {e : TyI} {s : ByteArray} (hC : C.Ok T) (ho : o.op = .slice t x lo hi none) (he : tyAt t T = some e) (hk7 : e.kd = 7) (hx : ev C.Γ fr x = .d (.str s)) (hlo : match lo with | none => l = 0 | some y => ∃ k : Int, ev C.Γ fr y = .d (.int .i64 k) ∧ k = l) (hhi : match hi with | none => m = s.size | some y => ∃ k : Int, ev C.Γ fr y = .d (.int .i64 k) ∧ k = m)
    (hlm : l ≤ m) (hms : m ≤ s.size) (hkd : kd = 3) (hd : dstOk o.dst n = true) (hK : K (putF o.dst (.d (.str (s.extract l m))) fr) σ) : OpSem C n kd o K fr σ := by
  subst hkd
  refine opSem_calc (by decide) (by decide) hd fun B S w0 η φ a' w hM => ?_
  have ex : a'.eval x = .string s := RD.str (by have := ev_rep hM x; rwa [hx] at this)
  refine .inr ⟨_, _, hK, ?_, rd_str _, fun h => by cases h⟩
  simp only [execOp, ho, Option.map_none]
  refine run_v ?_
  rw [ex]
  refine run_slice_str (hC.ty he) hk7 ?_ ?_ hlm hms
  · cases lo with
    | none => simpa using hlo
    | some y =>
      obtain ⟨k, h1, h2⟩ := hlo
      subst h2
      exact ⟨_, rep_int (rd_da (ev_rep hM y) h1)⟩
  · cases hi with
    | none => simpa using hhi
    | some y =>
      obtain ⟨k, h1, h2⟩ := hhi
      subst h2
      exact ⟨_, rep_int (rd_da (ev_rep hM y) h1)⟩
/-- 'string' of an owned slice of one byte -/
theorem op_str1 {n kd : Nat} {o : Oper} {K : Fr → Sg → Prop} {t u : TypeId} {x : Operand} {e f g : TyI} {E i : Nat} {b : Int} (hC : C.Ok T) (ho : o.op = .convert t u x) (he : tyAt t T = some e) (hk2 : e.kd = 2) (hf : tyAt u T = some f) (hk7 : f.kd = 7) (hg : tyAt e.elem T = some g) (hik : g.ik = some .u8) (_hg8 : g.kd = 8) (hx : ev C.Γ fr x = .own i) (hs : sget i σ = some (.slice E 1 [.int .u8 b])) (hkd : kd = 3) (hd : dstOk o.dst n = true)
    (hK : K (putF o.dst (.d (.str ⟨#[UInt8.ofNat b.toNat]⟩)) fr) σ) : OpSem C n kd o K fr σ := by
  subst hkd
  refine opSem_calc (by decide) (by decide) hd fun B S w0 η φ a' w hM => ?_
  have ex : a'.eval x = η i := rd_own (ev_rep hM x) hx
  obtain ⟨css, h1, _, h3, _⟩ := own_slice_val hM.mem hs
  simp only [RepCss, RepC] at h3
  obtain ⟨c1, c2, rfl, rfl, rfl⟩ := h3
  refine .inr ⟨_, _, hK, ?_, rd_str _, fun h => by cases h⟩
  simp only [execOp, ho]
  refine run_v ?_
  rw [ex]
  obtain ⟨d1, g1, _, g3, _, _, _, _, g8⟩ := (hC.ty he).desc
  rw [hk2] at g8
  cases d1 <;> simp at g8
  have hel := g3 _ rfl
  subst hel
  obtain ⟨d2, j1, _, _, _, _, _, _, j8⟩ := (hC.ty hf).desc
  rw [hk7] at j8
  cases d2 <;> simp at j8
  obtain ⟨d3, m1, _, _, _, _, _, m7, m8⟩ := (hC.ty hg).desc
  have hd3 := m7 _ hik
  subst hd3
  rcases h1.shape with ⟨_, h⟩ | ⟨gg, cap, hv, hc⟩
  · cases h
  · have hcells := sl_cells h1 hv
    have hl := run_loadCells_list (P := C.P) w ⟨gg, 0, none⟩ [.int .u8 b] (fun j v hj => by
      have := hcells j v (by simpa using hj)
      cases j with
      | zero => simpa [Addr.add_lit] using this
      | succ j => simp at hj)
    rw [hv]
    simp only [convert, Sem.run_bind, run_underlying g1, run_underlying j1, run_underlying m1, Result.andThen_ok, Conv.bytesToString]
    simp only [List.length_singleton] at hl ⊢
    rw [hl]
    simp
    rfl
end
end Go.Sx
