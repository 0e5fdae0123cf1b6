/- Merged: Vta. -/
import Derived.Test.YtjejpdfldmempaaGreatDoorOen
import Derived.Test.YtjejpdfldmempaaGreatDoorlgba
import Derived.Test.YtjejpdfldmempaaGreatDoorlgbc
section
namespace Go.Proofs.YtjejpdfldmempaaGreatDoor
open Go.Sx Go.RowKit Go.Reg Go.Gr
set_option maxRecDepth 100000
theorem Pure.len2 {f : FuncId} {d : Da} {l : List Int} {xs : List Da} {Q : Da → Prop} (h : l.length ≤ 9223372036854775807 → Sx.Pure C1 f (d :: dIs l :: xs) Q) : Sx.Pure C1 f (d :: dIs l :: xs) Q :=
 Pure.assume (fun O w us hr => by obtain ⟨v, vs, rfl, h1, h2⟩ := reps_inv hr; obtain ⟨v2, vs2, rfl, h3, _⟩ := reps_inv h2; exact ints_len h3) h
def pl_rbs : List (Nat × Plan) := [(4, .leaf [1, 0, 0, 0, 1, 0, 2, 0] [1, 2, 3, 5, 0, 4, 6, 7] [0, 0, 0, 6, 14, 0, 63, 127])]
def G_rbs : List FuncId := [133]
theorem cok_rbs : codeOk Tryz.prog G_rbs pl_rbs (Tryz.f87.body.getD .skip) = true := by kernel_rfl
theorem run_rbs (vs : Array Value) (w : World) : (callFunc 87 vs).run C1.P w = .ok (.enter 87 vs) w := by kernel_rfl
theorem rbes_pure (G : Gr) (l : List Int) (v : Int) : Pure C1 87 [dM G.labels G.edges, dIs l, .int .i64 v] (fun y => y = .bool (l.any (besP G.edges v))) := by
 refine Pure.len2 fun hm => ?_
 have hl : (l.map dI).length = l.length := List.length_map _
 refine pure_of c1_ok (pl := pl_rbs) (G := G_rbs) Tryz.func87 rfl Tryz.ntmps87 run_rbs cok_rbs (by simp) ?_
 ((conv => whnf); repeat' ((first | refine odw ?_ | refine ify ?_ | refine ifn ?_ | refine i6 ?_ | refine ati ?_ | refine mst ?_ | refine rmd ?_ | refine ibo (fun _ => ?_) (fun _ => ?_)) <;> conv => whnf))
 refine loop_lo (ι := Nat) (fun i => i ≤ l.length ∧ ∀ y ∈ l.take i, besP G.edges v y = false) (fun i => [(7, .d (.int .i64 i)), (3, .own 3), (2, .d (.int .i64 v)), (1, .d (dIs l))]) (fun _ => [(3, .cells 59 [.d (dIs G.labels), .d (dEs G.edges)])]) (fun i => l.length - i) 0 (fun _ => rfl) ⟨Nat.zero_le _, by simp⟩ (.refl _ _) ⟨rfl, rfl, rfl, rfl, trivial⟩ ⟨rfl, trivial⟩ ?_
 rintro i ⟨hi, hne⟩
 refine sxCode_sound c1_ok (G := G_rbs) (pl := pl_rbs) _ _ _ _ (by kernel_rfl) ?_
 by_cases hlt : i < l.length
 ·have hx := List.getElem?_eq_getElem hlt
  generalize l[i] = x at hx
  have hxd : (l.map dI)[i]? = some (.int .i64 x) := by rw [List.getElem?_map, hx]; rfl
  have hid := rid_pure G.labels G.edges x v
  by_cases hmm : turn ⟨x, v⟩ ∈ G.edges
  ·have hnn := idE_nonneg.2 hmm
   have hany : l.any (besP G.edges v) = true := List.any_eq_true.2 ⟨x, List.mem_of_getElem? hx, decide_eq_true hmm⟩
   rw [hany]
   generalize idE G.edges (turn ⟨x, v⟩) = q at hid hnn
   (conv => whnf)
   (repeat' ((first | refine ord_ok ?_ ?_ | refine at_da hxd rfl ?_ | refine call_eq rfl hid ?_ | refine ify ?_ | refine ifn ?_ | refine i6 ?_ | refine ati ?_ | refine mst ?_ | refine rmd ?_ | refine ibo (fun _ => ?_) (fun _ => ?_) | exact oend) <;> conv => whnf))
   exact rfl
  ·have hnn : ¬ 0 ≤ idE G.edges (turn ⟨x, v⟩) := fun h => hmm (idE_nonneg.1 h)
   generalize idE G.edges (turn ⟨x, v⟩) = q at hid hnn
   (conv => whnf)
   (repeat' ((first | refine ord_ok ?_ ?_ | refine at_da hxd rfl ?_ | refine call_eq rfl hid ?_ | refine ify ?_ | refine ifn ?_ | refine i6 ?_ | refine ati ?_ | refine mst ?_ | refine rmd ?_ | refine ibo (fun _ => ?_) (fun _ => ?_) | exact oend) <;> conv => whnf))
   refine ⟨i + 1, _, _, ⟨hlt, ?_⟩, .refl _ _, ⟨rfl, rfl, rfl, rfl, trivial⟩, ⟨rfl, trivial⟩, by omega⟩
   intro y hy
   rw [tk1 hx] at hy
   rcases List.mem_append.1 hy with hy | hy
   ·exact hne y hy
   ·simp at hy; subst hy; exact decide_eq_false hmm
 ·have hii : l.take i = l := List.take_of_length_le (by omega)
  rw [hii] at hne
  rw [List.any_eq_false.2 (fun y hy => by rw [hne y hy]; decide)]
  ((conv => whnf); repeat' ((first | refine odw ?_ | refine ify ?_ | refine ifn ?_ | refine i6 ?_ | refine ati ?_ | refine mst ?_ | refine rmd ?_ | refine ibo (fun _ => ?_) (fun _ => ?_)) <;> conv => whnf))
  exact rfl
def pl_rhs : List (Nat × Plan) := []
def G_rhs : List FuncId := []
theorem cok_rhs : codeOk Tryz.prog G_rhs pl_rhs (Tryz.f85.body.getD .skip) = true := by kernel_rfl
theorem run_rhs (vs : Array Value) (w : World) : (callFunc 85 vs).run C1.P w = .ok (.enter 85 vs) w := by kernel_rfl
theorem vrhas_pure (G : Gr) (v : Int) : Pure C1 85 [dM G.labels G.edges, .int .i64 v] (fun y => y = .bool (hasV G v)) := by
 have hl : (G.labels.map dI).length = G.labels.length := List.length_map _
 refine pure_of c1_ok (pl := pl_rhs) (G := G_rhs) Tryz.func85 rfl Tryz.ntmps85 run_rhs cok_rhs (by simp) ?_
 by_cases h0 : 0 ≤ v
 ·by_cases h1 : v < G.labels.length
  ·rw [hasV_yes h0 h1]
   have h2 : v < ((G.labels.map dI).length : Int) := by rw [hl]; exact h1
   ((conv => whnf); repeat' ((first | refine odw ?_ | refine ify ?_ | refine ifn ?_ | refine i6 ?_ | refine ati ?_ | refine mst ?_ | refine rmd ?_ | refine ibo (fun _ => ?_) (fun _ => ?_)) <;> conv => whnf))
   show Da.plain _ = _
   simp [Da.plain, hl, h1]
  ·rw [hasV_no (fun h => h1 h.2)]
   ((conv => whnf); repeat' ((first | refine odw ?_ | refine ify ?_ | refine ifn ?_ | refine i6 ?_ | refine ati ?_ | refine mst ?_ | refine rmd ?_ | refine ibo (fun _ => ?_) (fun _ => ?_)) <;> conv => whnf))
   show Da.plain _ = _
   simp [Da.plain, hl, h1]
 ·rw [hasV_no (fun h => h0 h.1)]
  ((conv => whnf); repeat' ((first | refine odw ?_ | refine ify ?_ | refine ifn ?_ | refine i6 ?_ | refine ati ?_ | refine mst ?_ | refine rmd ?_ | refine ibo (fun _ => ?_) (fun _ => ?_)) <;> conv => whnf))
  exact rfl
def pl_rlk : List (Nat × Plan) := [(4, .leaf [1, 0, 0, 0, 1, 2, 0, 0, 0, 0, 0, 0, 0, 0, 1, 2, 0, 0, 0, 0, 0, 1, 0, 0, 0, 0, 0, 0, 1, 2, 0, 0, 0] [1, 2, 3, 0, 4, 5, 6, 7, 8, 9, 10, 11, 12, 13, 14, 15, 16, 17, 18, 19, 20, 22, 23, 24, 25, 26, 27, 21, 28, 29, 30, 31, 32] [0, 0, 0, 6, 14, 31, 63, 127, 255, 255, 1023, 255, 255, 6399, 14591, 32767, 65535, 131071, 262143, 524287, 1048575, 2097151, 2097151, 2097151, 14680063, 2097151, 2097151, 102760447, 236978175, 536870911, 1073741823, 2147483647, 4294967295])]
def G_rlk : List FuncId := [85, 86, 87]
theorem cok_rlk : codeOk Tryz.prog G_rlk pl_rlk (Tryz.f35.body.getD .skip) = true := by kernel_rfl
theorem run_rlk (vs : Array Value) (w : World) : (callFunc 35 vs).run C1.P w = .ok (.enter 35 vs) w := by kernel_rfl
theorem rlinked_pure (G : Gr) (l : List Int) : Pure C1 35 [dM G.labels G.edges, dIs l] (fun y => y = .bool (linkedV G l)) := by
 refine Pure.len2 fun hm => ?_
 have hl : (l.map dI).length = l.length := List.length_map _
 refine pure_of c1_ok (pl := pl_rlk) (G := G_rlk) Tryz.func35 rfl Tryz.ntmps35 run_rlk cok_rlk (by simp) ?_
 ((conv => whnf); repeat' ((first | refine odw ?_ | refine ify ?_ | refine ifn ?_ | refine i6 ?_ | refine ati ?_ | refine mst ?_ | refine rmd ?_ | refine ibo (fun _ => ?_) (fun _ => ?_)) <;> conv => whnf))
 refine loop_lo (ι := Nat) (fun i => i ≤ l.length ∧ ∀ (j : Nat) (v : Int), j < i → l[j]? = some v → linkAt G l j v = true) (fun i => [(5, .d (.int .i64 i)), (2, .own 2), (1, .d (dIs l))]) (fun _ => [(2, .cells 59 [.d (dIs G.labels), .d (dEs G.edges)])]) (fun i => l.length - i) 0 (fun _ => rfl) ⟨Nat.zero_le _, by intro j v h; omega⟩ (.refl _ _) ⟨rfl, rfl, rfl, trivial⟩ ⟨rfl, trivial⟩ ?_
 rintro i ⟨hi, hne⟩
 refine sxCode_sound c1_ok (G := G_rlk) (pl := pl_rlk) _ _ _ _ (by kernel_rfl) ?_
 by_cases hlt : i < l.length
 ·have hx := List.getElem?_eq_getElem hlt
  generalize l[i] = y at hx
  have hxd : (l.map dI)[i]? = some (.int .i64 y) := by rw [List.getElem?_map, hx]; rfl
  have h1 := vrhas_pure G y
  have h2 := has06_pure (l.take i) y
  have h3 := rbes_pure G (l.take i) y
  rw [dIs_take] at h2 h3
  have hi2 : i ≤ (l.map dI).length := by omega
  have hstep : linkAt G l i y = true → ∀ (j : Nat) (v : Int), j < i + 1 → l[j]? = some v → linkAt G l j v = true := by
   intro hyes j v hj hjv
   by_cases hji : j = i
   ·subst hji; rw [hx] at hjv; cases hjv; exact hyes
   ·exact hne j v (by omega) hjv
  cases hv : hasV G y with
  | false =>
    rw [hv] at h1
    rw [linkedV_no hx (by simp [linkAt, hv])]
    (conv => whnf)
    (repeat' ((first | refine ord_ok ?_ ?_ | refine at_da hxd rfl ?_ | refine call_eq rfl h1 ?_ | refine ify ?_ | refine ifn ?_ | refine i6 ?_ | refine ati ?_ | refine mst ?_ | refine rmd ?_ | refine ibo (fun _ => ?_) (fun _ => ?_) | exact oend) <;> conv => whnf))
    exact rfl
  | true =>
    rw [hv] at h1
    by_cases hc : y ∈ l.take i
    ·rw [decide_eq_true hc] at h2
     rw [linkedV_no hx (by simp [linkAt, hc])]
     (conv => whnf)
     (repeat' ((first | refine ord_ok ?_ ?_ | refine at_da hxd rfl ?_ | refine call_eq rfl h1 ?_ | refine hi_is rfl hi2 ?_ | refine call_eq rfl h2 ?_ | refine ify ?_ | refine ifn ?_ | refine i6 ?_ | refine ati ?_ | refine mst ?_ | refine rmd ?_ | refine ibo (fun _ => ?_) (fun _ => ?_) | exact oend) <;> conv => whnf))
     exact rfl
    ·rw [decide_eq_false hc] at h2
     by_cases h0 : i = 0
     ·have hyes : linkAt G l i y = true := by simp [linkAt, hv, h0]
      (conv => whnf)
      (repeat' ((first | refine ord_ok ?_ ?_ | refine at_da hxd rfl ?_ | refine call_eq rfl h1 ?_ | refine hi_is rfl hi2 ?_ | refine call_eq rfl h2 ?_ | refine ify ?_ | refine ifn ?_ | refine i6 ?_ | refine ati ?_ | refine mst ?_ | refine rmd ?_ | refine ibo (fun _ => ?_) (fun _ => ?_) | exact oend) <;> conv => whnf))
      exact ⟨i + 1, _, _, ⟨hlt, hstep hyes⟩, .refl _ _, ⟨rfl, rfl, rfl, trivial⟩, ⟨rfl, trivial⟩, by omega⟩
     ·by_cases hb : (l.take i).any (besP G.edges y) = true
      ·have hyes : linkAt G l i y = true := by simp only [linkAt, hv, hb, decide_eq_false hc]; simp
       rw [hb] at h3
       (conv => whnf)
       (repeat' ((first | refine ord_ok ?_ ?_ | refine at_da hxd rfl ?_ | refine call_eq rfl h1 ?_ | refine hi_is rfl hi2 ?_ | refine call_eq rfl h2 ?_ | refine call_eq rfl h3 ?_ | refine ify ?_ | refine ifn ?_ | refine i6 ?_ | refine ati ?_ | refine mst ?_ | refine rmd ?_ | refine ibo (fun _ => ?_) (fun _ => ?_) | exact oend) <;> conv => whnf))
       exact ⟨i + 1, _, _, ⟨hlt, hstep hyes⟩, .refl _ _, ⟨rfl, rfl, rfl, trivial⟩, ⟨rfl, trivial⟩, by omega⟩
      ·have hno : linkAt G l i y = false := by simp only [linkAt, hv, Bool.eq_false_iff.2 hb, decide_eq_false h0]; simp
       rw [linkedV_no hx hno]
       rw [Bool.eq_false_iff.2 hb] at h3
       (conv => whnf)
       (repeat' ((first | refine ord_ok ?_ ?_ | refine at_da hxd rfl ?_ | refine call_eq rfl h1 ?_ | refine hi_is rfl hi2 ?_ | refine call_eq rfl h2 ?_ | refine call_eq rfl h3 ?_ | refine ify ?_ | refine ifn ?_ | refine i6 ?_ | refine ati ?_ | refine mst ?_ | refine rmd ?_ | refine ibo (fun _ => ?_) (fun _ => ?_) | exact oend) <;> conv => whnf))
       exact rfl
 ·rw [linkedV_yes (fun j v h => hne j v (by have := (List.getElem?_eq_some_iff.1 h).1; omega) h)]
  ((conv => whnf); repeat' ((first | refine odw ?_ | refine ify ?_ | refine ifn ?_ | refine i6 ?_ | refine ati ?_ | refine mst ?_ | refine rmd ?_ | refine ibo (fun _ => ?_) (fun _ => ?_)) <;> conv => whnf))
  exact rfl
def pl_rls : List (Nat × Plan) := [(8, .leaf [1, 0, 0, 0, 1, 2, 0] [1, 2, 3, 0, 4, 5, 6] [0, 0, 0, 6, 14, 31, 63]),
 (10, .leaf [0, 0, 0, 0, 1, 2, 0, 0, 0, 0, 0, 0, 1, 0, 0, 0, 0, 1, 2, 0, 0] [0, 1, 2, 3, 4, 5, 6, 7, 8, 9, 10, 11, 13, 14, 15, 16, 12, 17, 18, 19, 20] [0, 0, 0, 6, 14, 31, 63, 127, 255, 511, 1023, 2047, 4095, 4095, 4095, 4095, 53247, 118783, 262143, 524287, 1048575])]
def G_rls : List FuncId := [29, 85, 86, 87]
theorem cok_rls : codeOk Tryz.prog G_rls pl_rls (Tryz.f94.body.getD .skip) = true := by kernel_rfl
theorem run_rls (vs : Array Value) (w : World) : (callFunc 94 vs).run C1.P w = .ok (.enter 94 vs) w := by kernel_rfl
set_option maxHeartbeats 4000000 in
theorem rlist_pure (G : Gr) (s : List Int) (hs : s.length ≤ 1000000) : Pure C1 94 [dM G.labels G.edges, dIs s] (fun y => y = listY (listV G s)) := by
 have hof := of06_pure s hs
 have hzl := setOf_len s
 have hzr := (setOf_spec s).1
 have hin := listV_of (G := G) (s := s)
 have hout := listV_out (G := G) (s := s)
 generalize setOf s = z at hof hzl hzr hin hout
 generalize listV G s = Y at hin hout
 have hzm : (z.map dI).length = z.length := List.length_map _
 refine pure_of c1_ok (pl := pl_rls) (G := G_rls) Tryz.func94 rfl Tryz.ntmps94 run_rls cok_rls (by simp) ?_
 (conv => whnf)
 (repeat' ((first | refine ord_ok ?_ ?_ | refine call_eq rfl hof ?_ | refine ify ?_ | refine ifn ?_ | refine i6 ?_ | refine ati ?_ | refine mst ?_ | refine rmd ?_ | refine ibo (fun _ => ?_) (fun _ => ?_) | exact oend) <;> conv => whnf))
 refine loop_lo (ι := List Int) (fun l => (l = [] ∨ z.any (fun v => !hasV G v) = false) ∧ l.length + (restV l z).length = z.length ∧ listR G.edges (restV l z).length l (restV l z) = listR G.edges z.length [] z)
  (fun l => [(6, .own 300), (1, .d (dIs z)), (2, .own 2)]) (fun l => [(2, .cells 59 [.d (dIs G.labels), .d (dEs G.edges)]), (300, .slice 3 1 (l.map dI))])
  (fun l => z.length - l.length) [] (fun _ => rfl) ⟨.inl rfl, by rw [rest_nil]; simp, by rw [rest_nil]⟩ (.own 6 300 3 1 rfl rfl (.refl _ _)) ⟨rfl, rfl, rfl, trivial⟩ ⟨rfl, rfl, trivial⟩ ?_
 rintro l ⟨hv, hlen, hR⟩
 have hll : (l.map dI).length = l.length := List.length_map _
 refine sxCode_sound c1_ok (G := G_rls) (pl := pl_rls) _ _ _ _ (by kernel_rfl) ?_
 by_cases hlt : l.length < z.length
 ·((conv => whnf); repeat' ((first | refine odw ?_ | refine ify ?_ | refine ifn ?_ | refine i6 ?_ | refine ati ?_ | refine mst ?_ | refine rmd ?_ | refine ibo (fun _ => ?_) (fun _ => ?_)) <;> conv => whnf))
  refine loop_lo (ι := Int × Int) (fun q => (-1 ≤ q.1 ∧ q.1 < z.length) ∧ q.2 = ((z.drop (q.1 + 1).toNat).find? (candV G.edges l)).getD (-1) ∧ ∀ x ∈ z.drop (q.1 + 1).toNat, hasV G x = true)
   (fun q => [(8, .d (.int .i64 q.1)), (7, .d (.int .i64 q.2)), (6, .own 300), (1, .d (dIs z)), (2, .own 2)]) (fun q => [(2, .cells 59 [.d (dIs G.labels), .d (dEs G.edges)]), (300, .slice 3 1 (l.map dI))]) (fun q => (q.1 + 1).toNat) (((z.map dI).length : Int) - 1, -1) (fun _ => rfl) ⟨⟨by dsimp only; omega, by dsimp only; omega⟩, ?_, ?_⟩ (.refl _ _) ⟨rfl, rfl, rfl, rfl, rfl, trivial⟩ ⟨rfl, rfl, trivial⟩ ?_
  ·dsimp only
   rw [hzm, show ((z.length : Int) - 1 + 1).toNat = z.length by omega, List.drop_length]; rfl
  ·dsimp only
   rw [hzm, show ((z.length : Int) - 1 + 1).toNat = z.length by omega, List.drop_length]; intro x hx; cases hx
  rintro ⟨i, nx⟩ ⟨⟨hi1, hi2⟩, hnx, hall⟩
  dsimp only at hi1 hi2 hnx hall
  refine sxCode_sound c1_ok (G := G_rls) (pl := pl_rls) _ _ _ _ (by kernel_rfl) ?_
  by_cases hi0 : 0 ≤ i
  ·obtain ⟨j, rfl⟩ := Int.eq_ofNat_of_zero_le hi0
   have hj : j < z.length := by omega
   have hx := List.getElem?_eq_getElem hj
   have hdr := List.drop_eq_getElem_cons hj
   generalize z[j] = x at hx hdr
   have hxd : (z.map dI)[j]? = some (.int .i64 x) := by rw [List.getElem?_map, hx]; rfl
   have e1 : ((j : Int) + 1).toNat = j + 1 := by omega
   rw [e1] at hnx hall
   have e2 : ((j : Int) - 1 + 1).toNat = j := by omega
   have hh := vrhas_pure G x
   cases hvx : hasV G x with
   | false =>
     rw [hvx] at hh
     have hno : z.any (fun v => !hasV G v) = true := List.any_eq_true.2 ⟨x, List.mem_of_getElem? hx, by simp [hvx]⟩
     rw [hout hno]
     (conv => whnf)
     (repeat' ((first | refine ord_ok ?_ ?_ | refine at_da hxd rfl ?_ | refine call_eq rfl hh ?_ | refine ify ?_ | refine ifn ?_ | refine i6 ?_ | refine ati ?_ | refine mst ?_ | refine rmd ?_ | refine ibo (fun _ => ?_) (fun _ => ?_) | exact oend) <;> conv => whnf))
     exact rfl
   | true =>
     rw [hvx] at hh
     have hm6 := has06_pure l x
     have hbs := rbes_pure G l x
     have hall' : ∀ y ∈ z.drop j, hasV G y = true := by
      intro y hy
      rw [hdr] at hy
      rcases List.mem_cons.1 hy with e | e
      ·rw [e]; exact hvx
      ·exact hall y e
     have hyes : candV G.edges l x = true → x = ((z.drop j).find? (candV G.edges l)).getD (-1) := fun hc => by rw [hdr, List.find?_cons_of_pos hc]; rfl
     have hno : candV G.edges l x = false → nx = ((z.drop j).find? (candV G.edges l)).getD (-1) := fun hc => by rw [hdr, List.find?_cons_of_neg (by rw [hc]; decide)]; exact hnx
     by_cases hxl : x ∈ l
     ·rw [decide_eq_true hxl] at hm6
      have hn := hno (by unfold candV; rw [decide_eq_true hxl]; rfl)
      (conv => whnf)
      (repeat' ((first | refine ord_ok ?_ ?_ | refine at_da hxd rfl ?_ | refine call_eq rfl hh ?_ | refine call_eqb tab rfl hm6 rfl ?_ | refine ify ?_ | refine ifn ?_ | refine i6 ?_ | refine ati ?_ | refine mst ?_ | refine rmd ?_ | refine ibo (fun _ => ?_) (fun _ => ?_) | exact oend) <;> conv => whnf))
      exact ⟨((j : Int) - 1, nx), _, _, ⟨⟨by dsimp only; omega, by dsimp only; omega⟩, by dsimp only; rw [e2]; exact hn, by dsimp only; rw [e2]; exact hall'⟩, .refl _ _, ⟨rfl, rfl, rfl, rfl, rfl, trivial⟩, ⟨rfl, rfl, trivial⟩, by dsimp only; omega⟩
     ·rw [decide_eq_false hxl] at hm6
      by_cases hl0 : l = []
      ·subst hl0
       have hn := hyes rfl
       (conv => whnf)
       (repeat' ((first | refine ord_ok ?_ ?_ | refine at_da hxd rfl ?_ | refine call_eq rfl hh ?_ | refine call_eqb tab rfl hm6 rfl ?_ | refine ify ?_ | refine ifn ?_ | refine i6 ?_ | refine ati ?_ | refine mst ?_ | refine rmd ?_ | refine ibo (fun _ => ?_) (fun _ => ?_) | exact oend) <;> conv => whnf))
       exact ⟨((j : Int) - 1, x), _, _, ⟨⟨by dsimp only; omega, by dsimp only; omega⟩, by dsimp only; rw [e2]; exact hn, by dsimp only; rw [e2]; exact hall'⟩, .refl _ _, ⟨rfl, rfl, rfl, rfl, rfl, trivial⟩, ⟨rfl, rfl, trivial⟩, by dsimp only; omega⟩
      ·have hl1 : ¬ ((l.map dI).length : Int) = 0 := by rw [hll]; have := List.length_pos_iff.2 hl0; omega
       have hnp : nextP G.edges l x = l.any (besP G.edges x) := by
        rw [Bool.eq_iff_iff, nextP_iff]; simp [hl0]
       have hcd : candV G.edges l x = l.any (besP G.edges x) := by unfold candV; rw [decide_eq_false hxl, hnp]; rfl
       rw [hcd] at hyes hno
       cases hb : l.any (besP G.edges x) with
       | true =>
         rw [hb] at hbs
         have hn := hyes hb
         (conv => whnf)
         (repeat' ((first | refine ord_ok ?_ ?_ | refine at_da hxd rfl ?_ | refine call_eq rfl hh ?_ | refine call_eqb tab rfl hm6 rfl ?_ | refine call_eqb tab rfl hbs rfl ?_ | refine ify ?_ | refine ifn ?_ | refine i6 ?_ | refine ati ?_ | refine mst ?_ | refine rmd ?_ | refine ibo (fun _ => ?_) (fun _ => ?_) | exact oend) <;> conv => whnf))
         exact ⟨((j : Int) - 1, x), _, _, ⟨⟨by dsimp only; omega, by dsimp only; omega⟩, by dsimp only; rw [e2]; exact hn, by dsimp only; rw [e2]; exact hall'⟩, .refl _ _, ⟨rfl, rfl, rfl, rfl, rfl, trivial⟩, ⟨rfl, rfl, trivial⟩, by dsimp only; omega⟩
       | false =>
         rw [hb] at hbs
         have hn := hno hb
         (conv => whnf)
         (repeat' ((first | refine ord_ok ?_ ?_ | refine at_da hxd rfl ?_ | refine call_eq rfl hh ?_ | refine call_eqb tab rfl hm6 rfl ?_ | refine call_eqb tab rfl hbs rfl ?_ | refine ify ?_ | refine ifn ?_ | refine i6 ?_ | refine ati ?_ | refine mst ?_ | refine rmd ?_ | refine ibo (fun _ => ?_) (fun _ => ?_) | exact oend) <;> conv => whnf))
         exact ⟨((j : Int) - 1, nx), _, _, ⟨⟨by dsimp only; omega, by dsimp only; omega⟩, by dsimp only; rw [e2]; exact hn, by dsimp only; rw [e2]; exact hall'⟩, .refl _ _, ⟨rfl, rfl, rfl, rfl, rfl, trivial⟩, ⟨rfl, rfl, trivial⟩, by dsimp only; omega⟩
  ·have hie : i = -1 := by omega
   subst hie
   rw [show ((-1 : Int) + 1).toNat = 0 from rfl, List.drop_zero] at hnx hall
   have hany : z.any (fun v => !hasV G v) = false := List.any_eq_false.2 fun x hx => by rw [hall x hx]; decide
   have hY := hin hany
   obtain ⟨n, hn⟩ : ∃ n, (restV l z).length = n + 1 := ⟨(restV l z).length - 1, by omega⟩
   cases hf : z.find? (candV G.edges l) with
   | none =>
     rw [hf] at hnx
     rw [hY, ← hR, rlist_none hf hn]
     simp only [Option.getD_none] at hnx
     subst hnx
     ((conv => whnf); repeat' ((first | refine odw ?_ | refine ify ?_ | refine ifn ?_ | refine i6 ?_ | refine ati ?_ | refine mst ?_ | refine rmd ?_ | refine ibo (fun _ => ?_) (fun _ => ?_)) <;> conv => whnf))
     exact rfl
   | some x =>
     rw [hf] at hnx
     simp only [Option.getD_some] at hnx
     subst hnx
     have hx0 : 0 ≤ nx := by
      have := hall nx (List.mem_of_find?_eq_some hf)
      unfold hasV at this
      simp at this; omega
     obtain ⟨g1, g2⟩ := rlist_some hzr hf hn
     have hfin : l.map dI ++ [.int .i64 nx] = (l ++ [nx]).map dI := by rw [List.map_append]; rfl
     ((conv => whnf); repeat' ((first | refine odw ?_ | refine ify ?_ | refine ifn ?_ | refine i6 ?_ | refine ati ?_ | refine mst ?_ | refine rmd ?_ | refine ibo (fun _ => ?_) (fun _ => ?_)) <;> conv => whnf))
     refine ⟨l ++ [nx], _, _, ⟨.inr hany, ?_, ?_⟩, .refl _ _, ⟨rfl, rfl, rfl, trivial⟩, ⟨rfl, slice_is hfin, trivial⟩, ?_⟩
     ·rw [g1, List.length_append, List.length_singleton]; omega
     ·rw [← g2]; exact hR
     ·rw [List.length_append, List.length_singleton]; omega
 ·have h0 : (restV l z).length = 0 := by omega
  have hany : z.any (fun v => !hasV G v) = false := by
   rcases hv with h | h
   ·have hl0 : l.length = 0 := by rw [h]; rfl
    have : z = [] := List.length_eq_zero_iff.1 (by omega)
    rw [this]; rfl
   ·exact h
  have hY := hin hany
  rw [← hR, h0] at hY
  rw [hY]
  ((conv => whnf); repeat' ((first | refine odw ?_ | refine ify ?_ | refine ifn ?_ | refine i6 ?_ | refine ati ?_ | refine mst ?_ | refine rmd ?_ | refine ibo (fun _ => ?_) (fun _ => ?_)) <;> conv => whnf))
  exact rfl
def pl_rcn : List (Nat × Plan) := [(7, .leaf [0, 0, 0, 1, 0, 0, 0, 1, 0] [0, 1, 2, 4, 5, 6, 3, 7, 8] [0, 0, 3, 7, 0, 0, 48, 112, 255])]
def G_rcn : List FuncId := [94]
theorem cok_rcn : codeOk Tryz.prog G_rcn pl_rcn (Tryz.f79.body.getD .skip) = true := by kernel_rfl
theorem run_rcn (vs : Array Value) (w : World) : (callFunc 79 vs).run C1.P w = .ok (.enter 79 vs) w := by kernel_rfl
theorem rcanon_pure (G : Gr) (hG : G.Ok) (l : List Int) (hs : l.length ≤ 1000000) : Pure C1 79 [dM G.labels G.edges, dIs l] (fun y => y = .bool (canonV G l)) := by
 have hl : (l.map dI).length = l.length := List.length_map _
 have hls := rlist_pure G l hs
 have hci := canon_iff hG (l := l)
 refine pure_of c1_ok (pl := pl_rcn) (G := G_rcn) Tryz.func79 rfl Tryz.ntmps79 run_rcn cok_rcn (by simp) ?_
 cases hr : listV G l with
 | none =>
   rw [hr] at hls hci
   unfold listY at hls
   have hc : canonV G l = false := Bool.eq_false_iff.2 fun h => by cases hci.1 h
   rw [hc]
   (conv => whnf)
   (repeat' ((first | refine ord_ok ?_ ?_ | refine call_eq rfl hls ?_ | refine ify ?_ | refine ifn ?_ | refine i6 ?_ | refine ati ?_ | refine mst ?_ | refine rmd ?_ | refine ibo (fun _ => ?_) (fun _ => ?_) | exact oend) <;> conv => whnf))
   exact rfl
 | some r =>
   rw [hr] at hls hci
   unfold listY at hls
   have hrl : (r.map dI).length = r.length := List.length_map _
   by_cases hlen : r.length = l.length
   ·(conv => whnf)
    (repeat' ((first | refine ord_ok ?_ ?_ | refine call_eq rfl hls ?_ | refine ify ?_ | refine ifn ?_ | refine i6 ?_ | refine ati ?_ | refine mst ?_ | refine rmd ?_ | refine ibo (fun _ => ?_) (fun _ => ?_) | exact oend) <;> conv => whnf))
    refine loop_lo (ι := Nat) (fun i => i ≤ l.length ∧ ∀ (j : Nat), j < i → r[j]? = l[j]?) (fun i => [(7, .d (.int .i64 i)), (5, .d (dIs r)), (1, .d (dIs l))]) (fun _ => []) (fun i => l.length - i) 0 (fun _ => rfl) ⟨Nat.zero_le _, by intro j h; omega⟩ (.refl _ _) ⟨rfl, rfl, rfl, trivial⟩ trivial ?_
    rintro i ⟨hi, he⟩
    refine sxCode_sound c1_ok (G := G_rcn) (pl := pl_rcn) _ _ _ _ (by kernel_rfl) ?_
    by_cases hlt : i < l.length
    ·have hx := List.getElem?_eq_getElem hlt
     have hy := List.getElem?_eq_getElem (l := r) (i := i) (by omega)
     generalize l[i] = x at hx
     generalize r[i]'(by omega) = y at hy
     have hxd : (l.map dI)[i]? = some (.int .i64 x) := by rw [List.getElem?_map, hx]; rfl
     have hyd : (r.map dI)[i]? = some (.int .i64 y) := by rw [List.getElem?_map, hy]; rfl
     by_cases hxy : y = x
     ·(conv => whnf)
      (repeat' ((first | refine ord_ok ?_ ?_ | refine at_da hyd rfl ?_ | refine at_da hxd rfl ?_ | refine ify ?_ | refine ifn ?_ | refine i6 ?_ | refine ati ?_ | refine mst ?_ | refine rmd ?_ | refine ibo (fun _ => ?_) (fun _ => ?_) | exact oend) <;> conv => whnf))
      refine ⟨i + 1, _, _, ⟨hlt, fun j hj => ?_⟩, .refl _ _, ⟨rfl, rfl, rfl, trivial⟩, trivial, by omega⟩
      by_cases hji : j = i
      ·subst hji; rw [hx, hy, hxy]
      ·exact he j (by omega)
     ·have hc : canonV G l = false := Bool.eq_false_iff.2 fun h => by
       have := Option.some.inj (hci.1 h)
       subst this
       rw [hx] at hy; cases hy; exact hxy rfl
      rw [hc]
      (conv => whnf)
      (repeat' ((first | refine ord_ok ?_ ?_ | refine at_da hyd rfl ?_ | refine at_da hxd rfl ?_ | refine ify ?_ | refine ifn ?_ | refine i6 ?_ | refine ati ?_ | refine mst ?_ | refine rmd ?_ | refine ibo (fun _ => ?_) (fun _ => ?_) | exact oend) <;> conv => whnf))
      exact rfl
    ·have hrl2 : r = l := List.ext_getElem? fun j => by
      by_cases hj : j < l.length
      ·exact he j (by omega)
      ·rw [List.getElem?_eq_none (by omega), List.getElem?_eq_none (by omega)]
     rw [hci.2 (by rw [hrl2])]
     ((conv => whnf); repeat' ((first | refine odw ?_ | refine ify ?_ | refine ifn ?_ | refine i6 ?_ | refine ati ?_ | refine mst ?_ | refine rmd ?_ | refine ibo (fun _ => ?_) (fun _ => ?_)) <;> conv => whnf))
     exact rfl
   ·have hc : canonV G l = false := Bool.eq_false_iff.2 fun h => by
     have := Option.some.inj (hci.1 h)
     exact hlen (by rw [this])
    rw [hc]
    (conv => whnf)
    (repeat' ((first | refine ord_ok ?_ ?_ | refine call_eq rfl hls ?_ | refine ify ?_ | refine ifn ?_ | refine i6 ?_ | refine ati ?_ | refine mst ?_ | refine rmd ?_ | refine ibo (fun _ => ?_) (fun _ => ?_) | exact oend) <;> conv => whnf))
    exact rfl
def pl_rnx : List (Nat × Plan) := []
def G_rnx : List FuncId := [86, 87]
theorem cok_rnx : codeOk Tryz.prog G_rnx pl_rnx (Tryz.f39.body.getD .skip) = true := by kernel_rfl
theorem run_rnx (vs : Array Value) (w : World) : (callFunc 39 vs).run C1.P w = .ok (.enter 39 vs) w := by kernel_rfl
theorem rnextV_step (G : Gr) (l : List Int) (k : Nat) : rnextV G l (k + 1) = rnextV G l k ++ (if (decide (l = []) || rnextV.candB G l k) = true then [(k : Int)] else []) := by
 unfold rnextV
 rw [upto_succ, List.filter_append]
 congr 1
 rw [List.filter_cons, List.filter_nil]
theorem rnextV_len (G : Gr) (l : List Int) (k : Nat) : (rnextV G l k).length ≤ k := by
 unfold rnextV
 have := List.length_filter_le (fun v => decide (l = []) || rnextV.candB G l v) (upto k)
 rw [upto_len] at this; exact this
theorem rnext_pure (G : Gr) (hG : G.Ok) (l : List Int) (hn : G.labels.length ≤ 4096) : Pure C1 39 [dM G.labels G.edges, dIs l] (fun y => y = dIs (nextV G l)) := by
 have hl : (l.map dI).length = l.length := List.length_map _
 have hll : (G.labels.map dI).length = G.labels.length := List.length_map _
 rw [← rnext_eq hG]
 refine pure_of c1_ok (pl := pl_rnx) (G := G_rnx) Tryz.func39 rfl Tryz.ntmps39 run_rnx cok_rnx (by simp) ?_
 ((conv => whnf); repeat' ((first | refine odw ?_ | refine ify ?_ | refine ifn ?_ | refine i6 ?_ | refine ati ?_ | refine mst ?_ | refine rmd ?_ | refine ibo (fun _ => ?_) (fun _ => ?_)) <;> conv => whnf))
 refine loop_lo (ι := Nat) (fun k => k ≤ G.labels.length) (fun k => [(6, .d (.int .i64 k)), (5, .own 300), (2, .own 2), (1, .d (dIs l))]) (fun k => [(2, .cells 59 [.d (dIs G.labels), .d (dEs G.edges)]), (300, .slice 3 1 ((rnextV G l k).map dI))]) (fun k => G.labels.length - k) 0 (fun _ => rfl) (Nat.zero_le _)
  (.own 5 300 3 1 rfl rfl (.refl _ _)) ⟨rfl, rfl, rfl, rfl, trivial⟩ ⟨rfl, rfl, trivial⟩ ?_
 intro k hk
 refine sxCode_sound c1_ok (G := G_rnx) (pl := pl_rnx) _ _ _ _ (by kernel_rfl) ?_
 by_cases hlt : k < G.labels.length
 ·have hst := rnextV_step G l k
  have hsl := rnextV_len G l k
  have hh := has06_pure l k
  have hbs := rbes_pure G l k
  by_cases hl0 : l = []
  ·rw [decide_eq_true hl0, Bool.true_or, if_pos rfl] at hst
   have hl1 : ((l.map dI).length : Int) = 0 := by rw [hl0]; rfl
   have hfin : (rnextV G l k).map dI ++ [.int .i64 (k : Int)] = (rnextV G l (k + 1)).map dI := by rw [hst, List.map_append]; rfl
   ((conv => whnf); repeat' ((first | refine odw ?_ | refine ify ?_ | refine ifn ?_ | refine i6 ?_ | refine ati ?_ | refine mst ?_ | refine rmd ?_ | refine ibo (fun _ => ?_) (fun _ => ?_)) <;> conv => whnf))
   exact ⟨k + 1, _, _, hlt, .refl _ _, ⟨rfl, rfl, rfl, rfl, trivial⟩, ⟨rfl, slice_is hfin, trivial⟩, by omega⟩
  ·have hl1 : ¬ ((l.map dI).length : Int) = 0 := by rw [hl]; have := List.length_pos_iff.2 hl0; omega
   rw [decide_eq_false hl0, Bool.false_or] at hst
   unfold rnextV.candB at hst
   by_cases hm : (k : Int) ∈ l
   ·rw [decide_eq_true hm] at hh hst
    rw [if_neg (by simp), List.append_nil] at hst
    (conv => whnf)
    (repeat' ((first | refine ord_ok ?_ ?_ | refine call_eq rfl hh ?_ | refine call_eq rfl hbs ?_ | refine ify ?_ | refine ifn ?_ | refine i6 ?_ | refine ati ?_ | refine mst ?_ | refine rmd ?_ | refine ibo (fun _ => ?_) (fun _ => ?_) | exact oend) <;> conv => whnf))
    exact ⟨k + 1, _, _, hlt, .refl _ _, ⟨rfl, rfl, rfl, rfl, trivial⟩, ⟨rfl, slice_is (by rw [hst]), trivial⟩, by omega⟩
   ·rw [decide_eq_false hm] at hh hst
    simp only [Bool.not_false, Bool.true_and] at hst
    cases hb : l.any (besP G.edges k) with
    | true =>
      rw [hb] at hbs hst
      rw [if_pos rfl] at hst
      have hfin : (rnextV G l k).map dI ++ [.int .i64 (k : Int)] = (rnextV G l (k + 1)).map dI := by rw [hst, List.map_append]; rfl
      (conv => whnf)
      (repeat' ((first | refine ord_ok ?_ ?_ | refine call_eq rfl hh ?_ | refine call_eq rfl hbs ?_ | refine ify ?_ | refine ifn ?_ | refine i6 ?_ | refine ati ?_ | refine mst ?_ | refine rmd ?_ | refine ibo (fun _ => ?_) (fun _ => ?_) | exact oend) <;> conv => whnf))
      exact ⟨k + 1, _, _, hlt, .refl _ _, ⟨rfl, rfl, rfl, rfl, trivial⟩, ⟨rfl, slice_is hfin, trivial⟩, by omega⟩
    | false =>
      rw [hb] at hbs hst
      rw [if_neg (by decide), List.append_nil] at hst
      (conv => whnf)
      (repeat' ((first | refine ord_ok ?_ ?_ | refine call_eq rfl hh ?_ | refine call_eq rfl hbs ?_ | refine ify ?_ | refine ifn ?_ | refine i6 ?_ | refine ati ?_ | refine mst ?_ | refine rmd ?_ | refine ibo (fun _ => ?_) (fun _ => ?_) | exact oend) <;> conv => whnf))
      exact ⟨k + 1, _, _, hlt, .refl _ _, ⟨rfl, rfl, rfl, rfl, trivial⟩, ⟨rfl, slice_is (by rw [hst]), trivial⟩, by omega⟩
 ·have hke : k = G.labels.length := by omega
  subst hke
  ((conv => whnf); repeat' ((first | refine odw ?_ | refine ify ?_ | refine ifn ?_ | refine i6 ?_ | refine ati ?_ | refine mst ?_ | refine rmd ?_ | refine ibo (fun _ => ?_) (fun _ => ?_)) <;> conv => whnf))
  exact rfl
end Go.Proofs.YtjejpdfldmempaaGreatDoor
end
