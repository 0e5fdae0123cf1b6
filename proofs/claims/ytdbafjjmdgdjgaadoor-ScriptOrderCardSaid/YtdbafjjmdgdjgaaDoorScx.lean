/- What the variables of strings and strconv hold; strings.Cut, strconv.Itoa, strconv.Atoi, told for the engine. -/
import Derived.Test.YtdbafjjmdgdjgaaDoorLss
import Derived.Test.YtdbafjjmdgdjgaaDoorNum
namespace Go.Proofs.YtdbafjjmdgdjgaaDoor
open Go.Sx Go.RowKit Go.Reg Go.Gr Go.Shelf

set_option maxRecDepth 100000
/-- what the variables hold that are no constants of the text -/
structure LayG where
  m : Int
  s : Value
  r : Value
  hs : s = .nilIface ∨ ∃ te pe, s = .iface te pe
  hr : r = .nilIface ∨ ∃ te pe, r = .iface te pe
noncomputable def C2 (X : LayG) : Cx := ⟨Tryd.prog, C1.Γ ++ [(1, .int .i64 X.m), (2, .raw X.s), (3, .raw X.r), (4, .agg (Lib.pow10Tab.map (Da.int .u64)))]⟩
theorem memMax (X : LayG) : (1, Da.int .i64 X.m) ∈ (C2 X).Γ := List.mem_append_right _ (.head _)
theorem memSyn (X : LayG) : (2, Da.raw X.s) ∈ (C2 X).Γ := List.mem_append_right _ (.tail _ (.head _))
theorem memRng (X : LayG) : (3, Da.raw X.r) ∈ (C2 X).Γ := List.mem_append_right _ (.tail _ (.tail _ (.head _)))
theorem memTab (X : LayG) : (4, Da.agg (Lib.pow10Tab.map (Da.int .u64))) ∈ (C2 X).Γ := List.mem_append_right _ (.tail _ (.tail _ (.tail _ (.head _))))
theorem c2_ok (X : LayG) : (C2 X).Ok tab := ⟨c1_ok.tab, c1_ok.mixed⟩
theorem Pure.up {X : LayG} {f : FuncId} {xs : List Da} {Q : Da → Prop} (h : Sx.Pure C1 f xs Q) : Sx.Pure (C2 X) f xs Q := fun O w vs h1 h2 h3 => h O w vs h1 (fun g hg => h2 g (List.mem_append_left _ hg)) h3
theorem glob_at {C : Cx} {O : List Nat} {w : World} {p : Nat × Da} (h : Glob C O w) (hp : p ∈ C.Γ) : ∃ c, RepC O w p.2 c ∧ Cells w p.1 0 c ∧ ∃ cs t fr, w.heap[p.1]? = some (.cells cs t fr) ∧ cs.size = gsz p.2 := by
  obtain ⟨⟨cs, h1, h2⟩, _, h3⟩ := h p hp
  simp only [RepC] at h1
  obtain ⟨b, o, c, rfl, _, _, h4, h5⟩ := h1
  simp only [toV, List.headD_cons, Value.pointer.injEq, Option.some.injEq, Addr.mk.injEq, and_true] at h2
  obtain ⟨h6, rfl⟩ := h2
  subst h6
  exact ⟨c, h4, h5, h3⟩
theorem glob_cell {C : Cx} {O : List Nat} {w : World} {g : Nat} {d : Da} {v : Value} (h : Glob C O w) (hp : (g, d) ∈ C.Γ) (hd : ∀ c, RepC O w d c → c = [v]) : w.cell? ⟨g, 0, none⟩ = some v := by
  obtain ⟨c, h1, h2, _⟩ := glob_at h hp
  rw [hd c h1] at h2
  exact h2 0 _ rfl
theorem ints_cells {O : List Nat} {w : World} {k : IntKind} : ∀ {l : List Int} {c : List Value}, RepCs O w (l.map (Da.int k)) c → c = l.map (Value.int k)
  | [], c, h => by simpa only [List.map_nil, RepCs] using h
  | x :: l, c, h => by
    simp only [List.map_cons, RepCs, RepC] at h
    obtain ⟨c1, c2, rfl, rfl, h⟩ := h
    rw [ints_cells h]; rfl
theorem tab_of {P : Program} {C : Cx} {O : List Nat} {w : World} {g : Nat} {k : IntKind} {l : List Int} {name : String} (h : Glob C O w) (hp : (g, .agg (l.map (Da.int k))) ∈ C.Γ) (hn : P.globalNamed name = some g) : Lib.TabIs P w name k l := by
  obtain ⟨c, h1, h2, cs, t, fr, h3, h4⟩ := glob_at h hp
  simp only [RepC] at h1
  have hc := ints_cells h1
  subst hc
  unfold Lib.TabIs World.var?
  rw [hn, Option.bind_some]
  rw [h3]
  simp only [Option.some.injEq]
  have hsz : cs.size = l.length := by rw [h4]; simp [gsz]
  apply Array.ext
  · simp [hsz]
  · intro i h5 h6
    have := h2 i (Value.int k (l[i]'(by omega))) (by rw [List.getElem?_map, List.getElem?_eq_getElem (by omega)]; rfl)
    simp only [World.cell?, h3, Nat.zero_add] at this
    rw [Array.getElem?_eq_getElem h5] at this
    simpa using this
theorem rep_str {O : List Nat} {w : World} {s : ByteArray} {v : Value} (h : Rep O w (.str s) v) : v = .string s := by
  obtain ⟨cs, h1, rfl⟩ := h
  simp only [RepC] at h1
  subst h1; rfl
theorem cut_pure (X : LayG) (s sep : List UInt8) (hs : s.length ≤ 1000000) : Sx.Pure (C2 X) 19 [.str (bs s), .str (bs sep)] (fun y => y = .tuple [.str (bs (Lib.cut s sep).1), .str (bs (Lib.cut s sep).2.1), .bool (Lib.cut s sep).2.2]) := by
  intro O w us hO hg hr
  obtain ⟨v, vs, rfl, h1, h2⟩ := reps_inv hr
  obtain ⟨v2, vs2, rfl, h3, h4⟩ := reps_inv h2
  obtain rfl := reps_inv0 h4
  obtain rfl := rep_str h1
  obtain rfl := rep_str h3
  have hm : w.cell? ⟨1, 0, none⟩ = some (.int .i64 X.m) := glob_cell hg (memMax X) (fun c h => by simpa only [RepC] using h)
  refine ⟨by kernel_rfl, (Any.strings_Cut Tryd.cutL (bs s) (bs sep) X.m w (by rw [bs_size]; omega) hm).mono ?_⟩
  rintro e w' ⟨rfl, n, rfl⟩
  refine ⟨_, _, rfl, rfl, ⟨[_], ?_, rfl⟩, ⟨rfl, rfl, rfl, Nat.le_refl _, fun _ _ _ => rfl⟩⟩
  simp only [RepC, RepCss]
  exact ⟨[[.string _], [.string _], [.bool _]], ⟨_, _, rfl, rfl, _, _, rfl, rfl, _, _, rfl, rfl, rfl⟩, rfl⟩
theorem itoa_pure (X : LayG) (n : Int) (h0 : -9223372036854775808 ≤ n) (h1 : n ≤ 9223372036854775807) : Sx.Pure (C2 X) 27 [.int .i64 n] (fun y => y = .str (bs (Lib.itoa n))) := by
  intro O w us hO hg hr
  obtain ⟨v, vs, rfl, h3, h2⟩ := reps_inv hr
  obtain rfl := reps_inv0 h2
  obtain rfl := rep_int h3
  refine ⟨by kernel_rfl, (Any.strconv_Itoa Tryd.itoaL n h0 h1 w (tab_of hg (memTab X) (by kernel_rfl))).mono ?_⟩
  rintro e w' ⟨rfl, k, os, rfl⟩
  refine ⟨_, _, rfl, rfl, ⟨[_], by simp only [RepC]; rfl, rfl⟩, ⟨rfl, rfl, rfl, by rw [Go.Sort.size_grow]; exact Nat.le_add_right _ _, fun b hb _ => Go.Sort.heap_grow_old (w.drewN k) os hb⟩⟩
theorem atoi_pure (X : LayG) (s : List UInt8) (hs : s.length ≤ 1000000) : Sx.Pure (C2 X) 31 [.str (bs s)] (fun y => (∃ v, Lib.atoiAll s = .ok v ∧ y = .tuple [.int .i64 v, .nili]) ∨ ∃ v t p, (∀ u, Lib.atoiAll s ≠ .ok u) ∧ y = .tuple [.int .i64 v, .iface t (.raw p)]) := by
  intro O w us hO hg hr
  obtain ⟨v, vs, rfl, h3, h2⟩ := reps_inv hr
  obtain rfl := reps_inv0 h2
  obtain rfl := rep_str h3
  have hb : ∀ w w' : World, Below w.heap.size w w' → Tch [] w w' := fun w w' h => ⟨h.os, h.tape, h.output, h.size, fun b hb _ => h.block b hb⟩
  refine ⟨by kernel_rfl, ?_⟩
  cases hv : Lib.atoiAll s
  · rename_i v
    refine (Any.strconv_Atoi_ok Tryd.atoiL (bs s) (by rw [bs_size]; omega) v hv w).mono ?_
    rintro e w' ⟨rfl, h⟩
    refine ⟨_, _, rfl, .inl ⟨v, rfl, rfl⟩, ⟨[_], by simp only [RepC, RepCss]; exact ⟨[[.int .i64 v], [.nilIface]], ⟨_, _, rfl, rfl, _, _, rfl, rfl, rfl⟩, rfl⟩, rfl⟩, ?_⟩
    rcases h with rfl | ⟨t, rfl⟩
    · exact Tch.refl _ _
    · exact hb _ _ (Lib.bytesWorld_below w _ t)
  · have hm := glob_cell (v := X.s) hg (memSyn X) (fun c h => by simpa only [RepC] using h)
    refine (Any.strconv_Atoi_syntax Tryd.atoiL (bs s) (by rw [bs_size]; omega) hv X.s w hm X.hs).mono ?_
    rintro e w' ⟨N, rfl, _, _, h⟩
    exact ⟨_, _, rfl, .inr ⟨_, _, _, (by intro u h; cases h), rfl⟩, ⟨[_], by simp only [RepC, RepCss]; exact ⟨[[.int .i64 _], [.iface _ _]], ⟨_, _, rfl, rfl, _, _, rfl, ⟨_, rfl, rfl⟩, rfl⟩, rfl⟩, rfl⟩, hb _ _ h⟩
  · have hm := glob_cell (v := X.r) hg (memRng X) (fun c h => by simpa only [RepC] using h)
    refine (Any.strconv_Atoi_range Tryd.atoiL (bs s) (by rw [bs_size]; omega) hv X.r w hm X.hr).mono ?_
    rintro e w' ⟨N, rfl, _, _, h⟩
    exact ⟨_, _, rfl, .inr ⟨_, _, _, (by intro u h; cases h), rfl⟩, ⟨[_], by simp only [RepC, RepCss]; exact ⟨[[.int .i64 _], [.iface _ _]], ⟨_, _, rfl, rfl, _, _, rfl, ⟨_, rfl, rfl⟩, rfl⟩, rfl⟩, rfl⟩, hb _ _ h⟩
end Go.Proofs.YtdbafjjmdgdjgaaDoor
