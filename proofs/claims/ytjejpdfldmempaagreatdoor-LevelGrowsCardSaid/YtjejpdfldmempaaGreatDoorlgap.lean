/- Merged: Vsb Lnp. -/
import Derived.Test.YtjejpdfldmempaaGreatDoorOen
import Derived.Test.YtjejpdfldmempaaGreatDoorlgaj
import Derived.Test.YtjejpdfldmempaaGreatDoorlgao
import Derived.Test.YtjejpdfldmempaaGreatDoorlgak
import Derived.Test.YtjejpdfldmempaaGreatDoorlgan
section
namespace Go.Gr
theorem rise_get {l : List Int} (h : l.Pairwise (· < ·)) {i j : Nat} {x y : Int} (hi : l[i]? = some x) (hj : l[j]? = some y) (hij : i < j) : x < y := by
 obtain ⟨h1, rfl⟩ := List.getElem?_eq_some_iff.1 hi
 obtain ⟨h2, rfl⟩ := List.getElem?_eq_some_iff.1 hj
 exact List.pairwise_iff_getElem.1 h i j h1 h2 hij
theorem rise_take {l : List Int} (h : l.Pairwise (· < ·)) {m : Nat} {y e : Int} (hm : l[m]? = some y) (he : y < e) : ∀ x ∈ l.take (m + 1), x < e := by
 intro x hx
 obtain ⟨i, hi, rfl⟩ := List.mem_take_iff_getElem.1 hx
 by_cases h2 : i = m
 ·subst h2
  rw [List.getElem?_eq_getElem (by omega)] at hm
  rw [Option.some.inj hm]; exact he
 ·have := rise_get h (List.getElem?_eq_getElem (by omega)) hm (show i < m by omega)
  omega
theorem rise_drop {l : List Int} (h : l.Pairwise (· < ·)) {m : Nat} {y e : Int} (hm : l[m]? = some y) (he : ¬ y < e) : ∀ x ∈ l.drop m, ¬ x < e := by
 intro x hx hc
 obtain ⟨i, hi, rfl⟩ := List.mem_drop_iff_getElem.1 hx
 by_cases h2 : i = 0
 ·subst h2
  rw [List.getElem?_eq_getElem (by omega)] at hm
  have := Option.some.inj hm
  simp only [Nat.add_zero] at hc
  rw [this] at hc; exact he hc
 ·have := rise_get h hm (List.getElem?_eq_getElem (i := m + i) (by omega)) (by omega)
  omega
theorem rise_mem {l : List Int} (h : l.Pairwise (· < ·)) {m : Nat} {e : Int} (h1 : ∀ x ∈ l.take m, x < e) (h2 : ∀ x ∈ l.drop m, ¬ x < e) : e ∈ l ↔ l[m]? = some e := by
 refine ⟨fun he => ?_, fun h => List.mem_of_getElem? h⟩
 obtain ⟨i, hi⟩ := List.mem_iff_getElem?.1 he
 have hil := (List.getElem?_eq_some_iff.1 hi).1
 have hie := (List.getElem?_eq_some_iff.1 hi).2
 by_cases h3 : i < m
 ·have := h1 e (hie ▸ List.mem_take_iff_getElem.2 ⟨i, by omega, rfl⟩); omega
 ·by_cases h4 : i = m
  ·subst h4; exact hi
  ·have hm := List.getElem?_eq_getElem (l := l) (i := m) (by omega)
   have h5 := rise_get h hm hi (by omega)
   have := h2 _ (List.mem_drop_iff_getElem.2 ⟨0, by omega, rfl⟩)
   simp only [Nat.add_zero] at this
   omega
end Go.Gr
namespace Go.Proofs.YtjejpdfldmempaaGreatDoor
open Go.Sx Go.RowKit Go.Reg Go.Gr
set_option maxRecDepth 100000
def pl_cless : List (Nat × Plan) := []
def G_cless : List FuncId := []
theorem cok_cless : codeOk Tryz.prog G_cless pl_cless (Tryz.f269.body.getD .skip) = true := by kernel_rfl
theorem run_cless (vs : Array Value) (w : World) : (callFunc 269 vs).run C1.P w = .ok (.enter 269 vs) w := by kernel_rfl
theorem less_pure (a b : Int) : Pure C1 269 [.int .i64 a, .int .i64 b] (fun y => y = .bool (decide (a < b))) := by
 refine pure_of c1_ok (pl := pl_cless) (G := G_cless) Tryz.func269 rfl Tryz.ntmps269 run_cless cok_cless (by simp) ?_
 (conv => whnf)
 (repeat' ((first | refine ord_ok ?_ ?_ | refine call_eq rfl (nan_pure a) ?_ | refine call_eq rfl (nan_pure b) ?_ | refine ify ?_ | refine ifn ?_ | refine i6 ?_ | refine ati ?_ | refine mst ?_ | refine rmd ?_ | refine ibo (fun _ => ?_) (fun _ => ?_) | exact oend) <;> conv => whnf))
 exact rfl
def pl_snan : List (Nat × Plan) := []
def G_snan : List FuncId := []
theorem cok_snan : codeOk Tryz.prog G_snan pl_snan (Tryz.f277.body.getD .skip) = true := by kernel_rfl
theorem run_snan (vs : Array Value) (w : World) : (callFunc 277 vs).run C1.P w = .ok (.enter 277 vs) w := by kernel_rfl
theorem snan_pure (a : Int) : Pure C1 277 [.int .i64 a] (fun y => y = .bool false) := by
 refine pure_of c1_ok (pl := pl_snan) (G := G_snan) Tryz.func277 rfl Tryz.ntmps277 run_snan cok_snan (by simp) ?_
 ((conv => whnf); repeat' ((first | refine odw ?_ | refine ify ?_ | refine ifn ?_ | refine i6 ?_ | refine ati ?_ | refine mst ?_ | refine rmd ?_ | refine ibo (fun _ => ?_) (fun _ => ?_)) <;> conv => whnf))
 show Da.plain (.prop _ _) = _
 simp [Da.plain]
def pl_bsi : List (Nat × Plan) := []
def G_bsi : List FuncId := []
theorem cok_bsi : codeOk Tryz.prog G_bsi pl_bsi (Tryz.f257.body.getD .skip) = true := by kernel_rfl
theorem run_bsi (vs : Array Value) (w : World) : (callFunc 257 vs).run C1.P w = .ok (.enter 257 vs) w := by kernel_rfl
theorem bsi_pure (l : List Int) (hr : l.Pairwise (· < ·)) (hl : l.length ≤ 4294967296) (e : Int) : Pure C1 257 [dIs l, .int .i64 e] (fun y => ∃ m : Nat, y = .tuple [.int .i64 m, .bool (decide (e ∈ l))]) := by
 have hlm : (l.map dI).length = l.length := List.length_map _
 refine pure_of c1_ok (pl := pl_bsi) (G := G_bsi) Tryz.func257 rfl Tryz.ntmps257 run_bsi cok_bsi (by simp) ?_
 ((conv => whnf); repeat' ((first | refine odw ?_ | refine ify ?_ | refine ifn ?_ | refine i6 ?_ | refine ati ?_ | refine mst ?_ | refine rmd ?_ | refine ibo (fun _ => ?_) (fun _ => ?_)) <;> conv => whnf))
 refine loop_lo (ι := Nat × Nat) (fun x => x.1 ≤ x.2 ∧ x.2 ≤ l.length ∧ (∀ z ∈ l.take x.1, z < e) ∧ ∀ z ∈ l.drop x.2, ¬ z < e)
  (fun x => [(8, .d (.int .i64 x.2)), (7, .d (.int .i64 x.1)), (6, .d (.int .i64 (l.map dI).length)), (1, .d (.int .i64 e)), (0, .d (dIs l))])
  (fun _ => []) (fun x => x.2 - x.1) (0, (l.map dI).length) (fun _ => rfl) ⟨Nat.zero_le _, by rw [hlm]; exact Nat.le_refl _, by simp, by rw [hlm]; simp⟩ (.refl _ _) ⟨rfl, rfl, rfl, rfl, rfl, trivial⟩ trivial ?_
 rintro ⟨lo, hi⟩ ⟨h1, h2, h3, h4⟩
 dsimp only at h1 h2 h3 h4
 refine sxCode_sound c1_ok (G := G_bsi) (pl := pl_bsi) _ _ _ _ (by kernel_rfl) ?_
 by_cases hlt : lo < hi
 ·have hx := List.getElem?_eq_getElem (l := l) (i := (lo + hi) / 2) (by omega)
  generalize l[(lo + hi) / 2]'(by omega) = z at hx
  have hxd : (l.map dI)[(lo + hi) / 2]? = some (.int .i64 z) := by rw [List.getElem?_map, hx]; rfl
  have hle := less_pure z e
  by_cases hz : z < e
  ·rw [decide_eq_true hz] at hle
   (conv => whnf)
   (repeat' ((first | refine ord_ok ?_ ?_ | refine u64_is (by omega) ?_ | refine ify ?_ | refine ifn ?_ | refine i6 ?_ | refine ati ?_ | refine mst ?_ | refine rmd ?_ | refine ibo (fun _ => ?_) (fun _ => ?_) | exact oend) <;> conv => whnf))
   refine op_shr 1 rfl rfl rfl (by decide) rfl rfl ?_
   (conv => whnf)
   (repeat' ((first | refine ord_ok ?_ ?_ | refine i64_eq ((lo + hi) / 2) (half_nat lo hi) (by omega) ?_ | refine at_da hxd rfl ?_ | refine call_eq rfl hle ?_ | refine ify ?_ | refine ifn ?_ | refine i6 ?_ | refine ati ?_ | refine mst ?_ | refine rmd ?_ | refine ibo (fun _ => ?_) (fun _ => ?_) | exact oend) <;> conv => whnf))
   exact ⟨((lo + hi) / 2 + 1, hi), _, _, ⟨by dsimp only; omega, h2, rise_take hr hx hz, h4⟩, .refl _ _, ⟨rfl, rfl, rfl, rfl, rfl, trivial⟩, trivial, by dsimp only; omega⟩
  ·rw [decide_eq_false hz] at hle
   (conv => whnf)
   (repeat' ((first | refine ord_ok ?_ ?_ | refine u64_is (by omega) ?_ | refine ify ?_ | refine ifn ?_ | refine i6 ?_ | refine ati ?_ | refine mst ?_ | refine rmd ?_ | refine ibo (fun _ => ?_) (fun _ => ?_) | exact oend) <;> conv => whnf))
   refine op_shr 1 rfl rfl rfl (by decide) rfl rfl ?_
   (conv => whnf)
   (repeat' ((first | refine ord_ok ?_ ?_ | refine i64_eq ((lo + hi) / 2) (half_nat lo hi) (by omega) ?_ | refine at_da hxd rfl ?_ | refine call_eq rfl hle ?_ | refine ify ?_ | refine ifn ?_ | refine i6 ?_ | refine ati ?_ | refine mst ?_ | refine rmd ?_ | refine ibo (fun _ => ?_) (fun _ => ?_) | exact oend) <;> conv => whnf))
   exact ⟨(lo, (lo + hi) / 2), _, _, ⟨by dsimp only; omega, by dsimp only; omega, h3, rise_drop hr hx hz⟩, .refl _ _, ⟨rfl, rfl, rfl, rfl, rfl, trivial⟩, trivial, by dsimp only; omega⟩
 ·have hm := rise_mem hr h3 (by rw [show lo = hi by omega]; exact h4)
  by_cases hln : lo < l.length
  ·have hx := List.getElem?_eq_getElem hln
   generalize l[lo] = z at hx
   have hxd : (l.map dI)[lo]? = some (.int .i64 z) := by rw [List.getElem?_map, hx]; rfl
   have hnz := snan_pure z
   by_cases hz : z = e
   ·rw [decide_eq_true (hm.2 (by rw [hx, hz]))]
    (conv => whnf)
    (repeat' ((first | refine ord_ok ?_ ?_ | refine at_da hxd rfl ?_ | refine call_eq rfl hnz ?_ | refine ify ?_ | refine ifn ?_ | refine i6 ?_ | refine ati ?_ | refine mst ?_ | refine rmd ?_ | refine ibo (fun _ => ?_) (fun _ => ?_) | exact oend) <;> conv => whnf))
    exact ⟨lo, rfl⟩
   ·rw [decide_eq_false (fun h => hz (by have := hm.1 h; rw [hx] at this; exact Option.some.inj this))]
    (conv => whnf)
    (repeat' ((first | refine ord_ok ?_ ?_ | refine at_da hxd rfl ?_ | refine call_eq rfl hnz ?_ | refine ify ?_ | refine ifn ?_ | refine i6 ?_ | refine ati ?_ | refine mst ?_ | refine rmd ?_ | refine ibo (fun _ => ?_) (fun _ => ?_) | exact oend) <;> conv => whnf))
    exact ⟨lo, rfl⟩
  ·rw [decide_eq_false (fun h => by have := hm.1 h; rw [List.getElem?_eq_none (by omega)] at this; cases this)]
   ((conv => whnf); repeat' ((first | refine odw ?_ | refine ify ?_ | refine ifn ?_ | refine i6 ?_ | refine ati ?_ | refine mst ?_ | refine rmd ?_ | refine ibo (fun _ => ?_) (fun _ => ?_)) <;> conv => whnf))
   exact ⟨lo, rfl⟩
def pl_shas : List (Nat × Plan) := []
def G_shas : List FuncId := []
theorem cok_shas : codeOk Tryz.prog G_shas pl_shas (Tryz.f240.body.getD .skip) = true := by kernel_rfl
theorem run_shas (vs : Array Value) (w : World) : (callFunc 240 vs).run C1.P w = .ok (.enter 240 vs) w := by kernel_rfl
theorem shas_pure (l : List Int) (hr : l.Pairwise (· < ·)) (hl : l.length ≤ 4294967296) (e : Int) : Pure C1 240 [dIs l, .int .i64 e] (fun y => y = .bool (decide (e ∈ l))) := by
 refine pure_of c1_ok (pl := pl_shas) (G := G_shas) Tryz.func240 rfl Tryz.ntmps240 run_shas cok_shas (by simp) ?_
 ((conv => whnf); repeat' ((first | refine odw ?_ | refine ify ?_ | refine ifn ?_ | refine i6 ?_ | refine ati ?_ | refine mst ?_ | refine rmd ?_ | refine ibo (fun _ => ?_) (fun _ => ?_)) <;> conv => whnf))
 refine call_pure rfl (bsi_pure l hr hl e) ?_; rintro y ⟨m, rfl⟩
 ((conv => whnf); repeat' ((first | refine odw ?_ | refine ify ?_ | refine ifn ?_ | refine i6 ?_ | refine ati ?_ | refine mst ?_ | refine rmd ?_ | refine ibo (fun _ => ?_) (fun _ => ?_)) <;> conv => whnf))
 exact rfl
def pl_scf : List (Nat × Plan) := []
def G_scf : List FuncId := [231]
theorem cok_scf : codeOk Tryz.prog G_scf pl_scf (Tryz.f187.body.getD .skip) = true := by kernel_rfl
theorem run_scf (vs : Array Value) (w : World) : (callFunc 187 vs).run C1.P w = .ok (.enter 187 vs) w := by kernel_rfl
theorem containsF_pure (l : List Int) (g : FuncId) (cs : List Da) (p : Int → Bool) (hp : ∀ x ∈ l, Pure C1 g (.int .i64 x :: cs) (fun y => y = .bool (p x))) : Pure C1 187 [dIs l, .func (.func g) [] cs] (fun y => y = .bool (l.any p)) := by
 refine pure_of c1_ok (pl := pl_scf) (G := G_scf) Tryz.func187 rfl Tryz.ntmps187 run_scf cok_scf (by simp) ?_
 (conv => whnf)
 (repeat' ((first | refine ord_ok ?_ ?_ | refine call_eq rfl (indexF_pure l g cs p hp) ?_ | refine ify ?_ | refine ifn ?_ | refine i6 ?_ | refine ati ?_ | refine mst ?_ | refine rmd ?_ | refine ibo (fun _ => ?_) (fun _ => ?_) | exact oend) <;> conv => whnf))
 show Da.plain _ = _
 have := idxF_nn l p
 cases h : l.any p <;> simp [Da.plain, this, h]
def pl_skept : List (Nat × Plan) := []
def G_skept : List FuncId := []
theorem cok_skept : codeOk Tryz.prog G_skept pl_skept (Tryz.f238.body.getD .skip) = true := by kernel_rfl
theorem run_skept (vs : Array Value) (w : World) : (callFunc 238 vs).run C1.P w = .ok (.enter 238 vs) w := by kernel_rfl
theorem kept_mksl (l : List Int) (g : FuncId) (cs : List Da) (p : Int → Bool) (hl : l.length ≤ 4294967296) (hp : ∀ x ∈ l, Pure C1 g (.int .i64 x :: cs) (fun y => y = .bool (p x))) : MakeSl C1 238 [dIs l, .func (.func g) [] cs] 3 1 (fun ds => ds = (l.filter p).map dI) := by
 have hll : (l.map dI).length = l.length := List.length_map _
 refine mksl_of c1_ok (pl := pl_skept) (G := G_skept) Tryz.func238 rfl Tryz.ntmps238 run_skept cok_skept (by simp) ?_
 ((conv => whnf); repeat' ((first | refine odw ?_ | refine ify ?_ | refine ifn ?_ | refine i6 ?_ | refine ati ?_ | refine mst ?_ | refine rmd ?_ | refine ibo (fun _ => ?_) (fun _ => ?_)) <;> conv => whnf))
 refine loop_lo (ι := Nat) (fun i => i ≤ l.length) (fun i => [(10, .d (.int .i64 i)), (9, .d (.int .i64 (l.map dI).length)), (8, .d (dIs l)), (5, .own 300), (1, .d (.func (.func g) [] cs))]) (fun i => [(300, .slice 3 1 (((l.take i).filter p).map dI))])
  (fun i => l.length - i) 0 (fun _ => rfl) (Nat.zero_le _) (.own 5 300 3 1 rfl rfl (.refl _ _)) ⟨rfl, rfl, rfl, rfl, rfl, trivial⟩ ⟨rfl, trivial⟩ ?_
 intro i hi
 refine sxCode_sound c1_ok (G := G_skept) (pl := pl_skept) _ _ _ _ (by kernel_rfl) ?_
 by_cases hlt : i < l.length
 ·have hx := List.getElem?_eq_getElem hlt
  have hpx := hp _ (List.getElem_mem hlt)
  generalize l[i] = x at hx hpx
  have hxd : (l.map dI)[i]? = some (.int .i64 x) := by rw [List.getElem?_map, hx]; rfl
  have hfl : ((l.take i).filter p).length ≤ i := by
   have := List.length_filter_le p (l.take i)
   rw [List.length_take] at this; omega
  cases hy : p x with
  | true =>
    rw [hy] at hpx
    have hfin : ((l.take i).filter p).map dI ++ [.int .i64 x] = ((l.take (i + 1)).filter p).map dI := by
     rw [List.take_add_one, hx, Option.toList_some, List.filter_append, List.map_append]
     simp [hy, dI]
    (conv => whnf)
    (repeat' ((first | refine ord_ok ?_ ?_ | refine at_da hxd rfl ?_ | refine call_eq (allD_fn _ _) hpx ?_ | refine ify ?_ | refine ifn ?_ | refine i6 ?_ | refine ati ?_ | refine mst ?_ | refine rmd ?_ | refine ibo (fun _ => ?_) (fun _ => ?_) | exact oend) <;> conv => whnf))
    exact ⟨i + 1, _, _, hlt, .refl _ _, ⟨rfl, rfl, rfl, rfl, rfl, trivial⟩, ⟨slice_is hfin, trivial⟩, by omega⟩
  | false =>
    rw [hy] at hpx
    have hfin : ((l.take i).filter p).map dI = ((l.take (i + 1)).filter p).map dI := by
     rw [List.take_add_one, hx, Option.toList_some, List.filter_append]
     simp [hy]
    (conv => whnf)
    (repeat' ((first | refine ord_ok ?_ ?_ | refine at_da hxd rfl ?_ | refine call_eq (allD_fn _ _) hpx ?_ | refine ify ?_ | refine ifn ?_ | refine i6 ?_ | refine ati ?_ | refine mst ?_ | refine rmd ?_ | refine ibo (fun _ => ?_) (fun _ => ?_) | exact oend) <;> conv => whnf))
    exact ⟨i + 1, _, _, hlt, .refl _ _, ⟨rfl, rfl, rfl, rfl, rfl, trivial⟩, ⟨slice_is hfin, trivial⟩, by omega⟩
 ·have hii : l.take i = l := List.take_of_length_le (by omega)
  rw [hii]
  ((conv => whnf); repeat' ((first | refine odw ?_ | refine ify ?_ | refine ifn ?_ | refine i6 ?_ | refine ati ?_ | refine mst ?_ | refine rmd ?_ | refine ibo (fun _ => ?_) (fun _ => ?_)) <;> conv => whnf))
  exact ⟨rfl, rfl, rfl⟩
def pl_sbut1 : List (Nat × Plan) := []
def G_sbut1 : List FuncId := [240]
theorem cok_sbut1 : codeOk Tryz.prog G_sbut1 pl_sbut1 (Tryz.f239.body.getD .skip) = true := by kernel_rfl
theorem run_sbut1 (vs : Array Value) (w : World) : (callFunc 239 vs).run C1.P w = .ok (.enter 239 vs) w := by kernel_rfl
theorem but1_pure (b : List Int) (hr : b.Pairwise (· < ·)) (hl : b.length ≤ 4294967296) (x : Int) : Pure C1 239 [.int .i64 x, .ref (dIs b)] (fun y => y = .bool (!decide (x ∈ b))) := by
 refine pure_of c1_ok (pl := pl_sbut1) (G := G_sbut1) Tryz.func239 rfl Tryz.ntmps239 run_sbut1 cok_sbut1 (by simp) ?_
 (conv => whnf)
 (repeat' ((first | refine ord_ok ?_ ?_ | refine call_eq rfl (shas_pure b hr hl x) ?_ | refine ify ?_ | refine ifn ?_ | refine i6 ?_ | refine ati ?_ | refine mst ?_ | refine rmd ?_ | refine ibo (fun _ => ?_) (fun _ => ?_) | exact oend) <;> conv => whnf))
 exact rfl
def pl_sbut : List (Nat × Plan) := []
def G_sbut : List FuncId := []
theorem cok_sbut : codeOk Tryz.prog G_sbut pl_sbut (Tryz.f199.body.getD .skip) = true := by kernel_rfl
theorem run_sbut (vs : Array Value) (w : World) : (callFunc 199 vs).run C1.P w = .ok (.enter 199 vs) w := by kernel_rfl
end Go.Proofs.YtjejpdfldmempaaGreatDoor
end
section
namespace Go.Gr
theorem tch_sym (E : List Edg) (i j : Nat) : tch E i j = tch E j i := by
 unfold tch
 cases E[i]? with
 | none => cases E[j]? <;> rfl
 | some x =>
   cases E[j]? with
   | none => rfl
   | some y =>
     rw [Bool.eq_iff_iff]
     simp only [Bool.and_eq_true, Bool.or_eq_true, decide_eq_true_eq]
     constructor
     ·rintro ⟨h, h2⟩; exact ⟨fun e => h e.symm, by omega⟩
     ·rintro ⟨h, h2⟩; exact ⟨fun e => h e.symm, by omega⟩
def lnGr (G : Gr) : Gr := ⟨List.replicate G.edges.length 0, wantW G.edges G.edges.length⟩
theorem lnGr_ok {G : Gr} (h : G.Ok) (hm : G.edges.length ≤ 4096) (hp : (pairsOf G.edges G.labels.length).length ≤ 16384) : (lnGr G).Ok := by
 have := canon_ok (lines_newErr h hm hp)
 rwa [lines_canon h] at this
theorem mem_addN {out : List Int} {x y : Int} : y ∈ addN out x ↔ y ∈ out ∨ y = x := by
 unfold addN
 split
 ·rename_i h
  constructor
  ·exact .inl
  ·rintro (h2 | rfl)
   ·exact h2
   ·exact h
 ·simp
theorem addN_nodup {out : List Int} (h : out.Nodup) (x : Int) : (addN out x).Nodup := by
 unfold addN
 split
 ·exact h
 ·rename_i hx
  rw [List.nodup_append]
  exact ⟨h, by simp, fun a ha b hb e => by simp at hb; subst hb; subst e; exact hx ha⟩
theorem vertsOf_spec (l : List Edg) : (vertsOf l).Nodup ∧ ∀ x, x ∈ vertsOf l ↔ ∃ e ∈ l, x = e.a ∨ x = e.b := by
 suffices h : ∀ l : List Edg, (vertsOf l.reverse).Nodup ∧ ∀ x, x ∈ vertsOf l.reverse ↔ ∃ e ∈ l.reverse, x = e.a ∨ x = e.b by have := h l.reverse; rwa [List.reverse_reverse] at this
 intro l
 induction l with
 | nil => simp [vertsOf]
 | cons e l ih =>
   rw [List.reverse_cons, vertsOf_snoc]
   refine ⟨addN_nodup (addN_nodup ih.1 _) _, fun x => ?_⟩
   rw [mem_addN, mem_addN, ih.2]
   constructor
   ·rintro ((⟨z, hz, h⟩ | h) | h)
    ·exact ⟨z, by simp at hz ⊢; exact .inl hz, h⟩
    ·exact ⟨e, by simp, .inl h⟩
    ·exact ⟨e, by simp, .inr h⟩
   ·rintro ⟨z, hz, h⟩
    rcases List.mem_append.1 hz with hz | hz
    ·exact .inl (.inl ⟨z, hz, h⟩)
    ·simp at hz; subst hz
     rcases h with h | h
     ·exact .inl (.inr h)
     ·exact .inr h
def upto (k : Nat) : List Int := (List.range k).map fun v : Nat => (v : Int)
theorem upto_succ (k : Nat) : upto (k + 1) = upto k ++ [(k : Int)] := by simp [upto, List.range_succ]
theorem upto_len (k : Nat) : (upto k).length = k := by simp [upto]
theorem mem_upto {k : Nat} {x : Int} : x ∈ upto k ↔ 0 ≤ x ∧ x < k := by
 simp only [upto, List.mem_map, List.mem_range]
 constructor
 ·rintro ⟨v, h, rfl⟩; omega
 ·rintro ⟨h1, h2⟩
  obtain ⟨m, rfl⟩ := Int.eq_ofNat_of_zero_le h1
  exact ⟨m, by omega, rfl⟩
end Go.Gr
end
