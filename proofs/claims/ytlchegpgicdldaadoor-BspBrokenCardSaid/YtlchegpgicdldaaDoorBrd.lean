/- ref20.Round: the states and the inboxes behind a round. -/
import Derived.Test.YtlchegpgicdldaaDoorBpl
import Derived.Test.YtlchegpgicdldaaDoorNst
namespace Go.Proofs.YtlchegpgicdldaaDoor
open Go.Sx Go.RowKit Go.Reg

set_option maxRecDepth 100000
theorem boxT_succ (ll : Nat → List (Int × ByteArray)) (w : Nat) (v : Int) : boxT (w + 1) ll v = boxT w ll v ++ ((ll w).filter (fun m => m.1 == v)).map (·.2) := by unfold boxT; rw [List.range_succ, List.flatMap_append]; simp
theorem boxT_len {ll : Nat → List (Int × ByteArray)} {K : Nat} (h : ∀ w, (ll w).length ≤ K) (v : Int) : ∀ w, (boxT w ll v).length ≤ w * K := by
  intro w
  induction w with
  | zero => simp [boxT]
  | succ w ih =>
    rw [boxT_succ, List.length_append, List.length_map]
    have h1 := List.length_filter_le (fun m => m.1 == v) (ll w)
    have h2 := h w
    rw [Nat.succ_mul]; omega
def bL (to : List (List Int)) (want : List ByteArray) (w i : Nat) (v : Int) : List ByteArray := boxT w (mlW to want) v ++ (((mlW to want w).take i).filter (fun m => m.1 == v)).map (·.2)
def bxs (to : List (List Int)) (want : List ByteArray) (w i : Nat) : List Bx := (List.range want.length).map fun v : Nat => .box (bL to want w i v)
theorem bxs_len (to : List (List Int)) (want : List ByteArray) (w i : Nat) : (bxs to want w i).length = want.length := by simp [bxs]
theorem bxs_at {to : List (List Int)} {want : List ByteArray} {w i v : Nat} (h : v < want.length) : (bxs to want w i)[v]? = some (.box (bL to want w i v)) := by
  unfold bxs; rw [List.getElem?_map, List.getElem?_range h]; rfl
theorem bxs_next {to : List (List Int)} {want : List ByteArray} {w i : Nat} (h : (mlW to want w).length ≤ i) : bxs to want w i = bxs to want (w + 1) 0 := by
  unfold bxs
  refine List.map_congr_left fun v _ => ?_
  unfold bL
  rw [List.take_of_length_le h]
  rw [boxT_succ]; simp
theorem bxs_step {to : List (List Int)} {want : List ByteArray} {w i v : Nat} {m : Int × ByteArray} (hm : (mlW to want w)[i]? = some m) (hv : m.1 = v) : (bxs to want w i).set v (.box (bL to want w i v ++ [m.2])) = bxs to want w (i + 1) := by
  apply List.ext_getElem?
  intro k
  rw [List.getElem?_set]
  have e : ∀ x : Int, bL to want w (i + 1) x = bL to want w i x ++ (if m.1 = x then [m.2] else []) := fun x => by
    unfold bL
    rw [List.take_add_one, hm, Option.toList_some, List.filter_append, List.map_append, ← List.append_assoc]
    by_cases h : m.1 = x <;> simp [h]
  by_cases hk : k < want.length
  · rw [bxs_at hk, bxs_at hk, bxs_len]
    by_cases h : v = k
    · subst h; rw [if_pos rfl, if_pos hk, e, if_pos hv]
    · rw [if_neg h, e, if_neg (by omega), List.append_nil]
  · rw [List.getElem?_eq_none (by rw [bxs_len]; omega), List.getElem?_eq_none (by rw [bxs_len]; omega), bxs_len]
    split
    · rw [if_neg (by omega)]
    · rfl
theorem bxs_zero (to : List (List Int)) (want : List ByteArray) : bxs to want 0 0 = List.replicate want.length (.box []) := by
  apply List.ext_getElem?
  intro k
  rw [List.getElem?_replicate]
  split
  · rename_i h; rw [bxs_at h]; rfl
  · rename_i h; rw [List.getElem?_eq_none (by rw [bxs_len]; omega)]
theorem mlW_none {to : List (List Int)} {want : List ByteArray} {w : Nat} (h : to.length ≤ w) : mlW to want w = [] := by
  unfold mlW mailsB; rw [List.getElem?_eq_none h]; rfl
theorem boxT_more {to : List (List Int)} {want : List ByteArray} {w : Nat} (hw : w ≤ want.length) (h : want.length ≤ w ∨ to.length ≤ w) (v : Int) : boxT w (mlW to want) v = boxT want.length (mlW to want) v := by
  obtain ⟨k, hk⟩ := Nat.exists_eq_add_of_le hw
  rw [hk]
  rcases h with h | h
  · have : k = 0 := by omega
    rw [this]; rfl
  · clear hk hw
    induction k with
    | zero => rfl
    | succ k ih =>
      rw [show w + (k + 1) = (w + k) + 1 from rfl, boxT_succ, mlW_none (w := w + k) (by omega), ← ih]; simp
theorem bxs_end {to : List (List Int)} {want : List ByteArray} {w : Nat} (hw : w ≤ want.length) (h : want.length ≤ w ∨ to.length ≤ w) : bxs to want w 0 = (roundB to want).map .box := by
  unfold bxs roundB
  rw [List.map_map]
  refine List.map_congr_left fun v _ => ?_
  simp only [Function.comp, bL, boxT_more hw h]
  simp
def pl_r20r : List (Nat × Plan) := [(6, .leaf [0, 0, 0, 0, 0, 1, 0, 0, 0, 1, 2, 6, 3, 0] [0, 1, 2, 3, 4, 6, 7, 8, 5, 9, 10, 11, 12, 13] [0, 0, 0, 0, 12, 28, 0, 0, 192, 448, 1022, 2046, 4095, 8191]),
  (14, .leaf [0, 0, 0, 0, 0, 1, 0, 0, 0, 1, 6, 3, 0, 3] [0, 1, 2, 3, 4, 6, 7, 8, 5, 9, 10, 11, 12, 13] [0, 0, 0, 0, 12, 28, 0, 0, 192, 448, 960, 2044, 4095, 8191])]
def G_r20r : List FuncId := [42]
theorem cok_r20r : codeOk Tryd.prog G_r20r pl_r20r (Tryd.f24.body.getD .skip) = true := by kernel_rfl
theorem run_r20r (vs : Array Value) (w : World) : (callFunc 24 vs).run C1.P w = .ok (.enter 24 vs) w := by kernel_rfl
theorem round_pure (to : List (List Int)) (want : List ByteArray) (inbox : List (List ByteArray)) (h1 : 1 ≤ want.length) (h2 : want.length ≤ 1000) (hin : inbox.length = want.length) (hs : ∀ s ∈ want, s.size ≤ 1000) (hb : ∀ l ∈ inbox, l.length ≤ 100000 ∧ ∀ s ∈ l, s.size ≤ 1000) (hto : to.length ≤ 100000) (htl : ∀ x ∈ to, x.length ≤ 100000 ∧ ∀ n ∈ x, 0 ≤ n ∧ n < want.length) :
    Pure C1 24 [.agg [.list 1 (to.map dTB)], .list 1 (want.map dTx), .list 1 (inbox.map dTs)] (fun y => y = .tuple [.list 1 ((roundS want inbox).map dTx), .list 1 ((roundB to want).map dTs)]) := by
  have k1 : (want.map dTx).length = want.length := List.length_map _
  have k2 : (inbox.map dTs).length = inbox.length := List.length_map _
  have k3 : (to.map dTB).length = to.length := List.length_map _
  have k4 : (roundS want inbox).length = want.length := by unfold roundS; simp
  refine pure_of c1_ok (pl := pl_r20r) (G := G_r20r) Tryd.func24 rfl Tryd.ntmps24 run_r20r cok_r20r (by simp) ?_
  (conv => whnf)
  (repeat' ((first | refine ord_ok (by (conv => whnf); (repeat' ((first | refine mk_ok want.length (by omega) (by omega) (by omega) ?_ | refine ify ?_ | refine ifn ?_ | refine i6 ?_ | refine ati ?_ | refine mst ?_ | refine rmd ?_ | refine ibo (fun _ => ?_) (fun _ => ?_)) <;> conv => whnf)); (all_goals (repeat' (first | exact trivial | exact rfl | refine And.intro ?_ ?_)))) ?_ | refine mk_ok want.length (by omega) (by omega) (by omega) ?_ | refine ify ?_ | refine ifn ?_ | refine i6 ?_ | refine ati ?_ | refine mst ?_ | refine rmd ?_ | refine ibo (fun _ => ?_) (fun _ => ?_)) <;> conv => whnf))
  refine loop_lo (ι := Nat) (fun i => i ≤ want.length) (fun i => [(10, .d (.int .i64 (i : Nat))), (9, .own 16), (8, .own 8), (3, .own 3), (2, .d (.list 1 (inbox.map dTs))), (1, .d (.list 1 (want.map dTx)))])
    (fun i => [(3, .cells 31 [.d (.list 1 (to.map dTB))]), (8, .slice 9 1 (((roundS want inbox).take i).map dTx)), (16, .slice 22 1 (List.replicate want.length .nils))]) (fun i => want.length - i) 0 (fun _ => rfl) (by omega) (.own 8 8 9 1 rfl rfl (.refl _ _)) ⟨rfl, rfl, rfl, rfl, rfl, rfl, trivial⟩ ⟨rfl, rfl, rfl, trivial⟩ ?_
  intro i hi
  refine sxCode_sound c1_ok (G := G_r20r) (pl := pl_r20r) _ _ _ _ (by kernel_rfl) ?_
  by_cases hil : i < want.length
  · have hw := List.getElem?_eq_getElem hil
    have hws := hs _ (List.getElem_mem hil)
    have hx := List.getElem?_eq_getElem (show i < inbox.length by omega)
    obtain ⟨hx1, hx2⟩ := hb _ (List.getElem_mem (show i < inbox.length by omega))
    have hr : (roundS want inbox)[i]? = some (nxB i want[i] inbox[i]) := by
      unfold roundS
      rw [List.getElem?_map, List.getElem?_range hil]
      simp only [Option.map_some, gW, gB, List.getD_eq_getElem?_getD, hw, hx, Option.getD_some]
    have htk : ((roundS want inbox).take (i + 1)).map dTx = ((roundS want inbox).take i).map dTx ++ [.str (nxB i want[i] inbox[i])] := by rw [List.take_add_one, hr, Option.toList_some, List.map_append]; rfl
    generalize want[i] = s at hw hws hr htk
    generalize inbox[i] = l at hx hx1 hx2 hr htk
    have hwd : (want.map dTx)[i]? = some (.str s) := by rw [List.getElem?_map, hw]; rfl
    have hxd : (inbox.map dTs)[i]? = some (.list 1 (l.map dTx)) := by rw [List.getElem?_map, hx]; rfl
    have hnx := next_pure i s l (by omega) hws hx1 hx2
    have hlen : (((roundS want inbox).take i).map dTx).length = i := by rw [List.length_map, List.length_take]; omega
    (conv => whnf)
    (repeat' ((first | refine ord_ok (by (conv => whnf); (repeat' ((first | refine at_da hwd rfl ?_ | refine at_da hxd rfl ?_ | refine call_eq rfl hnx ?_ | refine ify ?_ | refine ifn ?_ | refine i6 ?_ | refine ati ?_ | refine mst ?_ | refine rmd ?_ | refine ibo (fun _ => ?_) (fun _ => ?_)) <;> conv => whnf)); (all_goals (repeat' (first | exact trivial | exact rfl | refine And.intro ?_ ?_)))) ?_ | refine at_da hwd rfl ?_ | refine at_da hxd rfl ?_ | refine call_eq rfl hnx ?_ | refine ify ?_ | refine ifn ?_ | refine i6 ?_ | refine ati ?_ | refine mst ?_ | refine rmd ?_ | refine ibo (fun _ => ?_) (fun _ => ?_)) <;> conv => whnf))
    exact ⟨i + 1, _, _, hil, .refl _ _, ⟨rfl, rfl, rfl, rfl, rfl, rfl, trivial⟩, ⟨rfl, by rw [htk]; rfl, rfl, trivial⟩, by omega⟩
  · have hii : (roundS want inbox).take i = roundS want inbox := List.take_of_length_le (by omega)
    rw [hii]
    have hlen : ((roundS want inbox).map dTx).length = want.length := by rw [List.length_map, k4]
    ((conv => whnf); repeat' ((first | refine odw ?_ | refine ify ?_ | refine ifn ?_ | refine i6 ?_ | refine ati ?_ | refine mst ?_ | refine rmd ?_ | refine ibo (fun _ => ?_) (fun _ => ?_)) <;> conv => whnf))
    refine code_trf ?_
    refine loop_trf (ι := Nat) (fun w => w ≤ want.length) (fun w => [(11, .d (.int .i64 (w : Nat))), (9, .own 16), (8, .own 8), (3, .own 3), (1, .d (.list 1 (want.map dTx)))])
      (fun w => [(3, .cells 31 [.d (.list 1 (to.map dTB))]), (8, .slice 9 1 ((roundS want inbox).map dTx)), (16, (boxJ 22 9 (bxs to want w 0)).own)]) (fun w => want.length - w) 0 (fun _ => rfl) (by omega) (Trf.nilBoxes (E2 := 9) 16 want.length rfl) ⟨rfl, rfl, rfl, rfl, rfl, trivial⟩ ⟨rfl, rfl, by rw [bxs_zero]; rfl, trivial⟩ ?_
    intro w hw
    refine sxCode_sound c1_ok (G := G_r20r) (pl := pl_r20r) _ _ _ _ (by kernel_rfl) ?_
    by_cases hwl : w < want.length
    · by_cases hwt : w < to.length
      · have hx : to[w]? = some to[w] := List.getElem?_eq_getElem hwt
        obtain ⟨hx1, hx2⟩ := htl _ (List.getElem_mem hwt)
        have hs1 := List.getElem?_eq_getElem hwl
        have hml : mlW to want w = to[w].map fun n => (n, want[w]) := by unfold mlW mailsB gW; rw [hx, List.getD_eq_getElem?_getD, hs1]; rfl
        generalize to[w] = ns at hx hx1 hx2 hml
        generalize want[w] = s at hs1 hml
        have hxd : (to.map dTB)[w]? = some (.list 1 (ns.map dIB)) := by rw [List.getElem?_map, hx]; rfl
        have hsd : (want.map dTx)[w]? = some (.str s) := by rw [List.getElem?_map, hs1]; rfl
        have hnm : (ns.map dIB).length = ns.length := List.length_map _
        ((conv => whnf); repeat' ((first | refine odw ?_ | refine ify ?_ | refine ifn ?_ | refine i6 ?_ | refine ati ?_ | refine mst ?_ | refine rmd ?_ | refine ibo (fun _ => ?_) (fun _ => ?_)) <;> conv => whnf))
        refine loop_trf (ι := Nat) (fun i => i ≤ ns.length) (fun i => [(12, .d (.int .i64 (i : Nat))), (11, .d (.int .i64 (w : Nat))), (9, .own 16), (8, .own 8), (3, .own 3), (1, .d (.list 1 (want.map dTx)))])
          (fun i => [(3, .cells 31 [.d (.list 1 (to.map dTB))]), (8, .slice 9 1 ((roundS want inbox).map dTx)), (16, (boxJ 22 9 (bxs to want w i)).own)]) (fun i => ns.length - i) 0 (fun _ => rfl) (by omega) .refl ⟨rfl, rfl, rfl, rfl, rfl, rfl, trivial⟩ ⟨rfl, rfl, rfl, trivial⟩ ?_
        intro i hi
        refine sxCode_sound c1_ok (G := G_r20r) (pl := pl_r20r) _ _ _ _ (by kernel_rfl) ?_
        by_cases hil : i < ns.length
        · have hy : ns[i]? = some ns[i] := List.getElem?_eq_getElem hil
          obtain ⟨hy1, hy2⟩ := hx2 _ (List.getElem_mem hil)
          obtain ⟨v, hv⟩ := Int.eq_ofNat_of_zero_le hy1
          have hm : (mlW to want w)[i]? = some (ns[i], s) := by rw [hml, List.getElem?_map, hy]; rfl
          generalize ns[i] = y at hy hy1 hy2 hv hm
          subst hv
          have hyd : (ns.map dIB)[i]? = some (.int .i64 v) := by rw [List.getElem?_map, hy]; rfl
          have hvn : v < want.length := by omega
          have hbl : v < (bxs to want w i).length := by rw [bxs_len]; exact hvn
          have hat := bxs_at (to := to) (w := w) (i := i) hvn
          have hst := bxs_step hm rfl
          have hll : (bL to want w i v).length ≤ 200000000 := by
            unfold bL
            have g1 := boxT_len (ll := mlW to want) (K := 100000) (fun w => by
              unfold mlW mailsB
              rw [List.length_map]
              cases h : to[w]? with
              | none => simp
              | some x => exact (htl x (List.mem_of_getElem? h)).1) v w
            have g2 := List.length_filter_le (fun m => m.1 == (v : Int)) ((mlW to want w).take i)
            rw [List.length_append, List.length_map]
            have g3 : ((mlW to want w).take i).length ≤ 100000 := by rw [List.length_take, hml, List.length_map]; omega
            have : w * 100000 ≤ 1000 * 100000 := Nat.mul_le_mul_right _ (by omega)
            omega
          have hlm : ((bL to want w i v).map dSt).length = (bL to want w i v).length := List.length_map _
          have hlj : ((bL to want w i v).map dSt) ++ [.str s] = (bL to want w i v ++ [s]).map dSt := by rw [List.map_append]; rfl
          (conv => whnf)
          (repeat' ((first | refine ord_ok (by (conv => whnf); (repeat' ((first | refine at_da hxd rfl ?_ | refine at_da hyd rfl ?_ | refine at_da hsd rfl ?_ | refine op_boxAddr c1_ok 16 v rfl rfl rfl rfl rfl rfl rfl rfl rfl hbl ⟨by decide, by decide⟩ rfl ?_ | refine op_boxAddr c1_ok 16 v rfl rfl rfl rfl rfl rfl rfl rfl rfl (by rw [List.length_set]; exact hbl) ⟨by decide, by decide⟩ rfl ?_ | refine op_boxLoad c1_ok 16 72 v rfl rfl rfl rfl rfl rfl hat rfl ⟨by decide, by decide⟩ rfl ?_ | refine op_boxStore c1_ok 16 72 v (bL to want w i v ++ [s]) rfl rfl rfl rfl rfl rfl rfl hlj (by rw [List.length_set]; exact hbl) ⟨by decide, by decide⟩ rfl ?_ | refine ify ?_ | refine ifn ?_ | refine i6 ?_ | refine ati ?_ | refine mst ?_ | refine rmd ?_ | refine ibo (fun _ => ?_) (fun _ => ?_)) <;> conv => whnf)); (all_goals (repeat' (first | exact trivial | exact rfl | refine And.intro ?_ ?_)))) ?_ | refine at_da hxd rfl ?_ | refine at_da hyd rfl ?_ | refine at_da hsd rfl ?_ | refine op_boxAddr c1_ok 16 v rfl rfl rfl rfl rfl rfl rfl rfl rfl hbl ⟨by decide, by decide⟩ rfl ?_ | refine op_boxAddr c1_ok 16 v rfl rfl rfl rfl rfl rfl rfl rfl rfl (by rw [List.length_set]; exact hbl) ⟨by decide, by decide⟩ rfl ?_ | refine op_boxLoad c1_ok 16 72 v rfl rfl rfl rfl rfl rfl hat rfl ⟨by decide, by decide⟩ rfl ?_ | refine op_boxStore c1_ok 16 72 v (bL to want w i v ++ [s]) rfl rfl rfl rfl rfl rfl rfl hlj (by rw [List.length_set]; exact hbl) ⟨by decide, by decide⟩ rfl ?_ | refine ify ?_ | refine ifn ?_ | refine i6 ?_ | refine ati ?_ | refine mst ?_ | refine rmd ?_ | refine ibo (fun _ => ?_) (fun _ => ?_)) <;> conv => whnf))
          rw [List.set_set, hst]
          exact ⟨i + 1, _, _, hil, .refl, ⟨rfl, rfl, rfl, rfl, rfl, rfl, trivial⟩, ⟨rfl, rfl, rfl, trivial⟩, by omega⟩
        · have hee : bxs to want w i = bxs to want (w + 1) 0 := bxs_next (by rw [hml, List.length_map]; omega)
          rw [hee]
          (conv => whnf)
          (repeat' ((first | refine ord_ok (by (conv => whnf); (repeat' ((first | refine at_da hxd rfl ?_ | refine ify ?_ | refine ifn ?_ | refine i6 ?_ | refine ati ?_ | refine mst ?_ | refine rmd ?_ | refine ibo (fun _ => ?_) (fun _ => ?_)) <;> conv => whnf)); (all_goals (repeat' (first | exact trivial | exact rfl | refine And.intro ?_ ?_)))) ?_ | refine at_da hxd rfl ?_ | refine ify ?_ | refine ifn ?_ | refine i6 ?_ | refine ati ?_ | refine mst ?_ | refine rmd ?_ | refine ibo (fun _ => ?_) (fun _ => ?_)) <;> conv => whnf))
          exact ⟨w + 1, _, _, hwl, .refl, ⟨rfl, rfl, rfl, rfl, rfl, trivial⟩, ⟨rfl, rfl, rfl, trivial⟩, by omega⟩
      · ((conv => whnf); repeat' ((first | refine odw ?_ | refine ify ?_ | refine ifn ?_ | refine i6 ?_ | refine ati ?_ | refine mst ?_ | refine rmd ?_ | refine ibo (fun _ => ?_) (fun _ => ?_)) <;> conv => whnf))
        refine ⟨_, _, Trf.unbox 16 rfl (bxs_end (by omega) (.inr (by omega))), ?_⟩
        ((conv => whnf); repeat' ((first | refine odw ?_ | refine ify ?_ | refine ifn ?_ | refine i6 ?_ | refine ati ?_ | refine mst ?_ | refine rmd ?_ | refine ibo (fun _ => ?_) (fun _ => ?_)) <;> conv => whnf))
        exact rfl
    · ((conv => whnf); repeat' ((first | refine odw ?_ | refine ify ?_ | refine ifn ?_ | refine i6 ?_ | refine ati ?_ | refine mst ?_ | refine rmd ?_ | refine ibo (fun _ => ?_) (fun _ => ?_)) <;> conv => whnf))
      refine ⟨_, _, Trf.unbox 16 rfl (bxs_end (by omega) (.inl (by omega))), ?_⟩
      ((conv => whnf); repeat' ((first | refine odw ?_ | refine ify ?_ | refine ifn ?_ | refine i6 ?_ | refine ati ?_ | refine mst ?_ | refine rmd ?_ | refine ibo (fun _ => ?_) (fun _ => ?_)) <;> conv => whnf))
      exact rfl
end Go.Proofs.YtlchegpgicdldaaDoor
