/- Net: clones, the next one, nobody. -/
import Derived.Test.YtlpjdngjmknniaaDoorNxf
import Derived.Laws.Externs
import Derived.MapKept
namespace Go.Proofs.YtlpjdngjmknniaaDoor
open Go.RowKit Go.Reg

theorem run_eqInNil {P : Program} {w : World} (d : Nat) (t k e : TypeId) (p : Nat) (h : P.underlying t = some (.map k e)) : (Op.equalIn (d + 1) t (.map (some p)) (.map none)).run P w = .ok false w := by simp [Op.equalIn, run_underlying h]
theorem run_eqMapNil {P : Program} {w : World} (t k e : TypeId) (p : Nat) (h : P.underlying t = some (.map k e)) : (binOp .eql t (.map (some p)) (.map none)).run P w = .ok (.bool false) w := by
  have h1 := run_eqInNil (w := w) 9999 t k e p h
  simp only [binOp]
  simp [show Op.equal t (.map (some p)) (.map none) = Op.equalIn (9999 + 1) t (.map (some p)) (.map none) from rfl, h1]
theorem run_mapOf {P : Program} {w : World} (t x k e : TypeId) (v : Value) (h : P.underlying t = some (.map k e)) : (Instr.typeAssert (.iface t v) x t false).run P w = .ok v w := by
  simp [Instr.typeAssert, run_underlying h, go_sem, Result.andThen]
theorem run_mclone {P : Program} {w : World} {r : Nat} {es : Array MapEntry} {c : Nat} (t : TypeId) (hb : w.heap[r]? = some (.map es c)) : (Extern.MapsClone.clone #[.iface t (.map (some r))]).run P w = .ok (.iface t (.map (some w.heap.size))) (w.alloc (.map es c)) := by
  have e : Extern.MapsClone.clone #[.iface t (.map (some r))] = (getObj r >>= fun o => match o with
      | .map es c => (newObj (.map es c) >>= fun n => pure (.iface t (.map (some n))))
      | _ => stuck "maps.clone: a map expected") := rfl
  rw [e]
  simp [MapKept.run_getObj_map hb, Result.andThen, go_sem]

set_option maxRecDepth 100000 in
theorem mclone_way (b : Nat) (es : Array MapEntry) (c : Nat) (w : World) (hb : w.heap[b]? = some (.map es c)) :
    Calls Tryd.prog 57 #[.map (some b)] w fun e w' => e = .returned (.map (some w.heap.size)) ∧ w' = w.alloc (.map es c) := by
  have e1 : (binOp .eql 94 (.map (some b)) (.map none)).run Tryd.prog w = .ok (.bool false) w := run_eqMapNil _ _ _ _ Tryd.underlying94
  have e2 : (callFunc 73 #[.iface 94 (.map (some b))]).run Tryd.prog w = .ok (.value (.iface 94 (.map (some w.heap.size)))) (w.alloc (.map es c)) := by
    rw [run_callFunc_extern Tryd.func73 (by kernel_rfl) (by kernel_rfl) (by kernel_rfl) (e := Extern.MapsClone.clone) (by kernel_rfl), run_mclone _ hb]; rfl
  have e3 := fun w v => run_mapOf (P := Tryd.prog) (w := w) 94 20 _ _ v Tryd.underlying94
  go_enter Tryd.func57, Tryd.ntmps57
  go_wp2_with fail
  go_ret
  exact ⟨rfl, rfl⟩
set_option maxRecDepth 100000 in
theorem mclone_stamp (b : Nat) (es : Array MapEntry) (c : Nat) (w : World) (hb : w.heap[b]? = some (.map es c)) :
    Calls Tryd.prog 58 #[.map (some b)] w fun e w' => e = .returned (.map (some w.heap.size)) ∧ w' = w.alloc (.map es c) := by
  have e1 : (binOp .eql 95 (.map (some b)) (.map none)).run Tryd.prog w = .ok (.bool false) w := run_eqMapNil _ _ _ _ Tryd.underlying95
  have e2 : (callFunc 73 #[.iface 95 (.map (some b))]).run Tryd.prog w = .ok (.value (.iface 95 (.map (some w.heap.size)))) (w.alloc (.map es c)) := by
    rw [run_callFunc_extern Tryd.func73 (by kernel_rfl) (by kernel_rfl) (by kernel_rfl) (e := Extern.MapsClone.clone) (by kernel_rfl), run_mclone _ hb]; rfl
  have e3 := fun w v => run_mapOf (P := Tryd.prog) (w := w) 95 20 _ _ v Tryd.underlying95
  go_enter Tryd.func58, Tryd.ntmps58
  go_wp2_with fail
  go_ret
  exact ⟨rfl, rfl⟩
set_option maxRecDepth 100000 in
theorem clone_net (p : Nat) (N : NetM) (F : List Nat) (w : World) (h : NetAt w p N F) (hfl : N.flying.length ≤ 4294967296) :
    Calls Tryd.prog 27 #[.pointer (some ⟨p, 0, none⟩)] w fun e w' => ∃ p' F', e = .returned (.pointer (some ⟨p', 0, none⟩)) ∧ NetAt w' p' N F' ∧ (∀ x ∈ F', w.heap.size ≤ x) ∧ Tch [] w w' := by
  obtain ⟨bs, bc, fl, h1, h2, h3, h4, h5, hF⟩ := h
  have c0 := h1.cell (i := 0) rfl
  have c1 := h1.cell (i := 1) rfl
  have c2 := h1.cell (i := 2) rfl
  have c3 := h1.cell (i := 3) rfl
  have c4 := h1.cell (i := 4) rfl
  have H2 := hid h2
  have H3 := hid h3
  have H4 := hid h4
  clear h1 h2 h3 h4 h5 hF
  go_enter Tryd.func27, Tryd.ntmps27
  go_wp2_with fail
  refine wp_region_g [50, 57, 58] [0, 0, 0, 1, 0, 0, 0, 1, 2, 0, 0, 0, 1, 0, 0, 0, 1, 2, 0, 0, 0, 1, 2, 0, 6, 0] [0, 1, 2, 4, 5, 6, 9, 10, 11, 13, 14, 15, 18, 19, 20, 3, 7, 12, 16, 21, 8, 17, 22, 23, 24, 25] [0, 1, 3, 7, 0, 16, 48, 112, 240, 0, 512, 1536, 3584, 0, 8192, 24576, 57344, 123376, 0, 262144, 786432, 1835008, 4186608, 8388607, 16777215, 33554431] mixed (by kernel_rfl) ?_
  intro w1 hT
  have d0 := hT.cellA c0
  have d1 := hT.cellA c1
  have d2 := hT.cellA c2
  have d3 := hT.cellA c3
  have d4 := hT.cellA c4
  have HT := hid hT
  have K2 := hid (H2.out.keep hT (by simp))
  have K3 := hid (H3.out.keep hT (by simp))
  have K4 := hid (H4.out.keep hT (fun _ _ => by simp))
  clear hT H2 H3 H4 c0 c1 c2 c3 c4
  go_wp2_with (first | (refine wpT_pure rfl rfl rfl rfl (fun _ _ => ?_)) | (refine wpT_look rfl rfl rfl (fun _ _ => ?_)))
  obtain ⟨es1, k1, m1, M1⟩ := K2.out
  obtain ⟨es2, k2, m2, M2⟩ := K3.out
  have HM1 := hid M1
  have HM2 := hid M2
  clear M1 M2
  refine wpT_call rfl rfl rfl (fun K1 hK1 => ?_)
  go_wp2_with (go_at_call 57; refine (mclone_way bs es1 k1 _ m1).mono ?_; rintro e w' ⟨rfl, rfl⟩)
  have t1 : Ext w1 (w1.alloc (.map es1 k1)) := (Tch.alloc w1 _ []).ext
  refine hK1 _ _ t1 ?_
  have T1 : Tch [] w1 (w1.alloc (.map es1 k1)) := Tch.alloc w1 _ []
  have HT1 := hid T1
  have L4 := hid (K4.out.keep T1 (fun _ _ => by simp))
  clear t1 T1
  go_wp2_with (first | (refine wpT_pure rfl rfl rfl rfl (fun _ _ => ?_)) | (refine wpT_look rfl rfl rfl (fun _ _ => ?_)))
  refine wpT_call rfl rfl rfl (fun K2 hK2 => ?_)
  go_wp2_with fail
  refine (clone_ok fl N.flying _ L4.out hfl).mono ?_
  rintro e w2 ⟨fl', rfl, hSl, hT2⟩
  refine hK2 _ _ hT2.ext ?_
  obtain ⟨fa, fc, rfl⟩ := sl_len_eq hSl.sl
  have HSl := hid hSl
  have m2' : w2.heap[bc]? = some (.map es2 k2) := by
    rw [hT2.blk bc (by simp; have := (Array.getElem?_eq_some_iff.1 m2).1; omega) (by simp)]
    rw [HT1.out.blk bc ((Array.getElem?_eq_some_iff.1 m2).1) (by simp)]
    exact m2
  have HT2 := hid hT2
  clear hSl hT2
  go_wp2_with (first | (refine wpT_pure rfl rfl rfl rfl (fun _ _ => ?_)) | (refine wpT_look rfl rfl rfl (fun _ _ => ?_)))
  refine wpT_call rfl rfl rfl (fun K3 hK3 => ?_)
  go_wp2_with fail
  refine (mclone_stamp bc es2 k2 _ m2').mono ?_
  rintro e w3 ⟨rfl, rfl⟩
  refine hK3 _ _ (Tch.alloc w2 _ []).ext ?_
  go_wp2_with (first | (refine wpT_pure rfl rfl rfl rfl (fun _ _ => ?_)) | (refine wpT_look rfl rfl rfl (fun _ _ => ?_)) | refine wpT_nil ?_)
  go_ret
  have tA : Tch [] w2 (w2.alloc (.map es2 k2)) := Tch.alloc _ _ _
  have tB : ∀ o, Tch [] (w2.alloc (.map es2 k2)) ((w2.alloc (.map es2 k2)).alloc o) := fun o => Tch.alloc _ _ _
  have tC := fun o => HT2.out.then0 (tA.then0 (tB o))
  have hs1 : w.heap.size ≤ w1.heap.size := HT.out.size
  have hs2 : w1.heap.size + 1 ≤ w2.heap.size := by have := HT2.out.size; simpa using this
  refine ⟨_, _, rfl, ⟨w1.heap.size, w2.heap.size, .slice fa N.flying.length fc, ?_, ?_, ?_, ?_, by omega, rfl⟩, ?_, ?_⟩
  · have := Blk.new (w2.alloc (.map es2 k2)) 97 [.int .i64 N.workers, .map (some w1.heap.size), .int .i64 N.all, .slice fa N.flying.length fc, .map (some w2.heap.size)]
    simpa using this
  · exact (show MapAt encWay valI (w1.alloc (.map es1 k1)) w1.heap.size N.sent from ⟨es1, k1, (MapKept.heap_alloc w1 _).1, HM1.out⟩).keep (tC _) (by simp)
  · exact (show MapAt encStamp valL (w2.alloc (.map es2 k2)) w2.heap.size N.came from ⟨es2, k2, (MapKept.heap_alloc w2 _).1, HM2.out⟩).keep (tB _) (by simp)
  · exact HSl.out.sl.keep (tA.then0 (tB _)) (fun _ _ => by simp)
  · intro x hx
    have hge := HSl.out.ge
    simp at hx
    rcases hx with rfl | rfl | rfl | hx
    · simp; omega
    · omega
    · omega
    · have := hge x hx; simp at this; omega
  · exact HT.out.then0 (HT1.out.then0 (tC _))
set_option maxRecDepth 100000 in
theorem next_net (p : Nat) (N : NetM) (F : List Nat) (w : World) (h : NetAt w p N F) :
    Calls Tryd.prog 28 #[.pointer (some ⟨p, 0, none⟩)] w fun e w' => ∃ p' F', e = .returned (.pointer (some ⟨p', 0, none⟩)) ∧ NetAt w' p' ⟨N.workers, [], 0, [], []⟩ F' ∧ (∀ x ∈ F', w.heap.size ≤ x) ∧ Tch [] w w' := by
  obtain ⟨bs, bc, fl, h1, h2, h3, h4, h5, hF⟩ := h
  have c0 := h1.cell (i := 0) rfl
  clear h1 h2 h3 h4 h5 hF
  go_enter Tryd.func28, Tryd.ntmps28
  go_wp2_with fail
  refine (fresh_ok N.workers w).mono ?_
  rintro e w' ⟨p', F', rfl, hN, hF, hT⟩
  have HN := hid hN
  have HF := hid hF
  have HT := hid hT
  clear hN hF hT
  go_wp2_with fail
  go_ret
  exact ⟨_, _, rfl, HN.out, HF.out, HT.out⟩
end Go.Proofs.YtlpjdngjmknniaaDoor
