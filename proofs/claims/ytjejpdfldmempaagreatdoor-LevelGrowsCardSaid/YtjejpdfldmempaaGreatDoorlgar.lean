/- Merged: Vlg Lng Vli. -/
import Derived.Test.YtjejpdfldmempaaGreatDoorOen
import Derived.Test.YtjejpdfldmempaaGreatDoorlgaq
import Derived.Test.YtjejpdfldmempaaGreatDoorlgal
import Derived.Test.YtjejpdfldmempaaGreatDoorlgan
section
namespace Go.Proofs.YtjejpdfldmempaaGreatDoor
open Go.Gr
theorem findIdx_erase {p : Int → Bool} {l : List Int} {i : Nat} (h : l.findIdx? p = some i) : ∃ (h2 : i < l.length), p l[i] = true ∧ ∀ j (hj : j < i), p (l[j]'(by omega)) = false := by
 rw [List.findIdx?_eq_some_iff_getElem] at h
 obtain ⟨h1, h2, h3⟩ := h
 exact ⟨h1, h2, fun j hj => by have := h3 j hj; simpa using this⟩
theorem nod_inj {l : List Int} (h : l.Nodup) {i j : Nat} (hi : i < l.length) (hj : j < l.length) (e : l[i] = l[j]) : i = j := by
 rcases Nat.lt_trichotomy i j with h1 | h1 | h1
 ·exact absurd e (List.pairwise_iff_getElem.1 h i j hi hj h1)
 ·exact h1
 ·exact absurd e.symm (List.pairwise_iff_getElem.1 h j i hj hi h1)
theorem erase_perm {l : List Int} {i : Nat} (hi : i < l.length) : (l[i] :: l.eraseIdx i).Perm l := by
 rw [List.eraseIdx_eq_take_drop_succ]
 have h : l = l.take i ++ (l[i] :: l.drop (i + 1)) := by rw [List.getElem_cons_drop, List.take_append_drop]
 exact (List.perm_middle.symm).trans (List.Perm.of_eq h.symm)
theorem mem_erase_at {l : List Int} (hn : l.Nodup) {i : Nat} (hi : i < l.length) {x : Int} : x ∈ l.eraseIdx i ↔ x ∈ l ∧ x ≠ l[i] := by
 have e := List.eraseIdx_eq_take_drop_succ l i
 rw [e, List.mem_append, List.mem_take_iff_getElem, List.mem_drop_iff_getElem]
 constructor
 ·rintro (⟨j, hj, rfl⟩ | ⟨j, hj, rfl⟩)
  ·exact ⟨List.getElem_mem _, fun he => by have := nod_inj hn (by omega) (by omega) he; omega⟩
  ·exact ⟨List.getElem_mem _, fun he => by have := nod_inj hn (by omega) (by omega) he; omega⟩
 ·rintro ⟨hx, hne⟩
  obtain ⟨j, hj, rfl⟩ := List.mem_iff_getElem.1 hx
  rcases Nat.lt_trichotomy j i with h | h | h
  ·exact .inl ⟨j, by omega, rfl⟩
  ·subst h; exact absurd rfl hne
  ·exact .inr ⟨j - (i + 1), by omega, by congr 1; omega⟩
theorem listR_perm {E : List Edg} : ∀ (n : Nat) (l left r : List Int), left.length = n → left.Nodup → listR E n l left = some r → r.Perm (l ++ left)
 | 0, l, left, r, hn, _, h => by
   simp only [listR, Option.some.injEq] at h
   subst h
   have : left = [] := List.eq_nil_of_length_eq_zero hn
   subst this; simp
 | n + 1, l, left, r, hn, hd, h => by
   simp only [listR] at h
   cases hf : left.findIdx? (nextP E l) with
   | none => rw [hf] at h; cases h
   | some i =>
     rw [hf] at h
     obtain ⟨hi, _, _⟩ := findIdx_erase hf
     have hx := List.getElem?_eq_getElem hi
     simp only [hx, Option.getD_some] at h
     have := listR_perm n (l ++ [left[i]]) (left.eraseIdx i) r (by rw [List.length_eraseIdx, if_pos hi]; omega) (hd.sublist (List.eraseIdx_sublist left i)) h
     refine this.trans ?_
     rw [List.append_assoc]
     exact List.Perm.append_left l (erase_perm hi)
theorem nextP_iff {E : List Edg} {l : List Int} {v : Int} : nextP E l v = true ↔ l = [] ∨ l.any (besP E v) = true := by
 unfold nextP besV
 rw [Bool.or_eq_true, decide_eq_true_eq, decide_eq_true_eq, idxF_nn]
def Ahead (E : List Edg) (l left : List Int) : Prop := ∀ (j : Nat) (u : Int), l[j]? = some u → ∀ x ∈ left, nextP E (l.take j) x = true → u < x
theorem fits_next {G : Gr} {l left : List Int} {x : Int} (hA : Ahead G.edges l left) (hx : x ∈ left) (hn : x ∉ l) (hv : hasV G x = true) (hp : nextP G.edges l x = true) : fitsV G l x = true := by
 unfold fitsV
 cases h0 : l[0]? with
 | none => exact hv
 | some y =>
   have hl : l ≠ [] := fun e => by subst e; simp at h0
   have hany := (nextP_iff.1 hp).resolve_left hl
   have hy := hA 0 y h0 x hx (nextP_iff.2 (.inl (by simp)))
   simp only
   cases hf : l.findIdx? (besP G.edges x) with
   | none =>
     rw [List.findIdx?_eq_none_iff] at hf
     rw [List.any_eq_true] at hany
     obtain ⟨u, hu, hb⟩ := hany
     have := hf u hu
     simp [hb] at this
   | some i =>
     obtain ⟨hi, hb, _⟩ := findIdx_erase hf
     simp only [Bool.and_eq_true, Bool.not_eq_true', decide_eq_false_iff_not, List.any_eq_false, decide_eq_true_eq]
     refine ⟨hn, by omega, fun u hu => ?_⟩
     obtain ⟨k, hk, rfl⟩ := List.mem_drop_iff_getElem.1 hu
     have := hA (i + 1 + k) _ (List.getElem?_eq_getElem (by omega)) x hx (nextP_iff.2 (.inr (List.any_eq_true.2 ⟨l[i], List.mem_take_iff_getElem.2 ⟨i, by omega, rfl⟩, hb⟩)))
     omega
theorem ahead_step {E : List Edg} {l left : List Int} (hA : Ahead E l left) (hr : left.Pairwise (· < ·)) {i : Nat} (hf : left.findIdx? (nextP E l) = some i) {x : Int} (hx : left[i]? = some x) : Ahead E (l ++ [x]) (left.eraseIdx i) := by
 obtain ⟨hi, _, hfirst⟩ := findIdx_erase hf
 have hnod : left.Nodup := hr.imp fun h => by omega
 have hxe : x = left[i] := by rw [List.getElem?_eq_getElem hi] at hx; exact (Option.some.inj hx).symm
 intro j u hu z hz hp
 obtain ⟨hz1, hz2⟩ := (mem_erase_at hnod hi).1 hz
 by_cases hj : j < l.length
 ·rw [List.getElem?_append_left hj] at hu
  rw [List.take_append_of_le_length (by omega)] at hp
  exact hA j u hu z hz1 hp
 ·have hjl := (List.getElem?_eq_some_iff.1 hu).1
  rw [List.length_append, List.length_singleton] at hjl
  have hje : j = l.length := by omega
  subst hje
  rw [List.take_left] at hp
  have hux : u = x := by simpa using hu.symm
  subst hux
  obtain ⟨k, hk, rfl⟩ := List.mem_iff_getElem.1 hz1
  have hki : ¬ k < i := fun h => by have := hfirst k h; rw [hp] at this; cases this
  have hne : k ≠ i := fun e => by subst e; exact hz2 rfl
  rw [hxe]
  exact List.pairwise_iff_getElem.1 hr i k hi hk (by omega)
theorem listR_canon {G : Gr} : ∀ (n : Nat) (l left r : List Int), left.length = n → left.Pairwise (· < ·) → (l ++ left).Nodup → (∀ x ∈ left, hasV G x = true) → Ahead G.edges l left →
  (∀ (j : Nat) (v : Int), l[j]? = some v → fitsV G (l.take j) v = true) → listR G.edges n l left = some r → canonV G r = true
 | 0, l, left, r, _, _, _, _, _, hC, h => by
   simp only [listR, Option.some.injEq] at h
   subst h
   exact canonV_yes hC
 | n + 1, l, left, r, hn, hr, hd, hv, hA, hC, h => by
   simp only [listR] at h
   cases hf : left.findIdx? (nextP G.edges l) with
   | none => rw [hf] at h; cases h
   | some i =>
     rw [hf] at h
     obtain ⟨hi, hp, _⟩ := findIdx_erase hf
     have hx := List.getElem?_eq_getElem hi
     simp only [hx, Option.getD_some] at h
     have hmem := List.getElem_mem hi
     have hnl : left[i] ∉ l := fun hm => (List.nodup_append.1 hd).2.2 _ hm _ hmem rfl
     refine listR_canon n (l ++ [left[i]]) (left.eraseIdx i) r (by rw [List.length_eraseIdx, if_pos hi]; omega) (hr.sublist (List.eraseIdx_sublist left i)) ?_ (fun x hx => hv x ((List.eraseIdx_sublist left i).subset hx)) (ahead_step hA hr hf hx) ?_ h
     ·rw [List.append_assoc]
      exact (List.Perm.nodup_iff (List.Perm.append_left l (erase_perm hi))).2 hd
     ·intro j v hj
      by_cases hjl : j < l.length
      ·rw [List.getElem?_append_left hjl] at hj
       rw [List.take_append_of_le_length (by omega)]
       exact hC j v hj
      ·have h1 := (List.getElem?_eq_some_iff.1 hj).1
       rw [List.length_append, List.length_singleton] at h1
       have hje : j = l.length := by omega
       subst hje
       have hvx : v = left[i] := by simpa using hj.symm
       subst hvx
       rw [List.take_left]
       exact fits_next hA hmem hnl (hv _ hmem) hp
theorem listV_spec {G : Gr} {s r : List Int} (h : listV G s = some r) : r.Perm (setOf s) ∧ canonV G r = true := by
 unfold listV at h
 split at h
 ·cases h
 ·rename_i hv
  have hr := (setOf_spec s).1
  have hd : (setOf s).Nodup := hr.imp fun h => by omega
  refine ⟨by simpa using listR_perm _ _ _ _ rfl hd h, listR_canon _ _ _ _ rfl hr (by simpa using hd) (fun x hx => ?_) (fun j u hu => by simp at hu) (fun j u hu => by simp at hu) h⟩
  simp only [List.any_eq_true, not_exists, not_and, Bool.not_eq_true', Bool.not_eq_false] at hv
  exact hv x hx
end Go.Proofs.YtjejpdfldmempaaGreatDoor
namespace Go.Proofs.YtjejpdfldmempaaGreatDoor
open Go.Gr
theorem mem_nearI {G : Gr} (h : G.Ok) {v u : Int} : u ∈ nearI G v ↔ (0 ≤ v ∧ v < G.labels.length) ∧ 0 ≤ u ∧ u < G.labels.length ∧ turn ⟨u, v⟩ ∈ G.edges := by
 unfold nearI
 split
 ·rename_i hv
  obtain ⟨m, rfl⟩ := Int.eq_ofNat_of_zero_le hv.1
  rw [Int.toNat_natCast, mem_near h]
  exact ⟨fun hh => ⟨hv, hh⟩, fun hh => hh.2⟩
 ·rename_i hv
  exact ⟨fun hh => (by cases hh), fun hh => absurd hh.1 hv⟩
end Go.Proofs.YtjejpdfldmempaaGreatDoor
end
section
namespace Go.Proofs.YtjejpdfldmempaaGreatDoor
open Go.Sx Go.RowKit Go.Reg Go.Gr
set_option maxRecDepth 100000
def pl_rverts : List (Nat × Plan) := [(5, .leaf [0, 0, 0, 1, 0, 0, 0, 0, 0, 1, 0, 1, 0, 0, 0] [0, 1, 2, 3, 4, 5, 6, 7, 8, 10, 9, 11, 12, 13, 14] [0, 0, 3, 7, 15, 31, 63, 63, 255, 511, 63, 1087, 3135, 8191, 16383]),
 (6, .leaf [0, 1, 0, 0, 0, 1, 0, 1, 6, 3] [0, 2, 3, 4, 1, 5, 6, 7, 8, 9] [0, 1, 0, 0, 12, 28, 63, 127, 0, 511])]
def G_rverts : List FuncId := []
theorem cok_rverts : codeOk Tryz.prog G_rverts pl_rverts (Tryz.f89.body.getD .skip) = true := by kernel_rfl
theorem run_rverts (vs : Array Value) (w : World) : (callFunc 89 vs).run C1.P w = .ok (.enter 89 vs) w := by kernel_rfl
theorem rverts_pure (labels : List Int) (S : List Edg) (l : List Int) (hb : l.length ≤ 2147483000) : Pure C1 89 [dM labels S, dIs l] (fun y => y = dIs (vertsOf (endsOf S l))) := by
 have hl : (l.map dI).length = l.length := List.length_map _
 have hS : (S.map dE).length = S.length := List.length_map _
 refine pure_of c1_ok (pl := pl_rverts) (G := G_rverts) Tryz.func89 rfl Tryz.ntmps89 run_rverts cok_rverts (by simp) ?_
 ((conv => whnf); repeat' ((first | refine odw ?_ | refine ify ?_ | refine ifn ?_ | refine i6 ?_ | refine ati ?_ | refine mst ?_ | refine rmd ?_ | refine ibo (fun _ => ?_) (fun _ => ?_)) <;> conv => whnf))
 refine loop_lo (ι := Nat) (fun i => i ≤ l.length) (fun i => [(6, .d (.int .i64 i)), (5, .own 300), (2, .own 2), (1, .d (dIs l))]) (fun i => [(2, .cells 59 [.d (dIs labels), .d (dEs S)]), (300, .slice 3 1 ((vertsOf (endsOf S (l.take i))).map dI))]) (fun i => l.length - i) 0 (fun _ => rfl) (Nat.zero_le _)
  (.own 5 300 3 1 rfl rfl (.refl _ _)) ⟨rfl, rfl, rfl, rfl, trivial⟩ ⟨rfl, rfl, trivial⟩ ?_
 intro i hi
 refine sxCode_sound c1_ok (G := G_rverts) (pl := pl_rverts) _ _ _ _ (by kernel_rfl) ?_
 by_cases hlt : i < l.length
 ·have hx := List.getElem?_eq_getElem hlt
  generalize l[i] = x at hx
  have hxd : (l.map dI)[i]? = some (.int .i64 x) := by rw [List.getElem?_map, hx]; rfl
  have htk : l.take (i + 1) = l.take i ++ [x] := by rw [List.take_add_one, hx]; rfl
  have hel := endsOf_len S (l.take i)
  have hvl := vertsOf_len (endsOf S (l.take i))
  rw [List.length_take] at hel
  by_cases h : 0 ≤ x ∧ x < S.length
  ·obtain ⟨m, rfl⟩ := Int.eq_ofNat_of_zero_le h.1
   have hy := List.getElem?_eq_getElem (show m < S.length by omega)
   have hen := endsOf_in (l := l.take i) hy
   rw [← htk] at hen
   generalize S[m] = z at hy hen
   obtain ⟨za, zb⟩ := z
   have hyd : (S.map dE)[m]? = some (.agg [.int .i64 za, .int .i64 zb]) := by rw [List.getElem?_map, hy]; rfl
   have hst : vertsOf (endsOf S (l.take (i + 1))) = addN (addN (vertsOf (endsOf S (l.take i))) za) zb := by rw [hen, vertsOf_snoc]
   generalize vertsOf (endsOf S (l.take i)) = out at hst hvl ⊢
   have hl1 := addN_len out za
   (conv => whnf)
   (repeat' ((first | refine ord_ok ?_ ?_ | refine at_da hxd rfl ?_ | refine at_da hyd rfl ?_ | refine call_eqb tab rfl (has06_pure out za) rfl ?_ | refine ify ?_ | refine ifn ?_ | refine i6 ?_ | refine ati ?_ | refine mst ?_ | refine rmd ?_ | refine ibo (fun _ => ?_) (fun _ => ?_) | exact oend) <;> conv => whnf))
   have tail : ∀ o : List Int, addN out za = o → True := fun _ _ => trivial
   by_cases i1 : za ∈ out
   ·have e1 : addN out za = out := by unfold addN; rw [if_pos i1]
    rw [e1] at hst
    rw [decide_eq_true i1]
    (conv => whnf)
    (repeat' ((first | refine ord_ok ?_ ?_ | refine call_eqb tab rfl (has06_pure out zb) rfl ?_ | refine ify ?_ | refine ifn ?_ | refine i6 ?_ | refine ati ?_ | refine mst ?_ | refine rmd ?_ | refine ibo (fun _ => ?_) (fun _ => ?_) | exact oend) <;> conv => whnf))
    by_cases i2 : zb ∈ out
    ·have hr2 : out.map dI = (vertsOf (endsOf S (l.take (i + 1)))).map dI := by rw [hst]; unfold addN; rw [if_pos i2]
     rw [decide_eq_true i2]
     ((conv => whnf); repeat' ((first | refine odw ?_ | refine ify ?_ | refine ifn ?_ | refine i6 ?_ | refine ati ?_ | refine mst ?_ | refine rmd ?_ | refine ibo (fun _ => ?_) (fun _ => ?_)) <;> conv => whnf))
     exact ⟨i + 1, _, _, hlt, .refl _ _, ⟨rfl, rfl, rfl, rfl, trivial⟩, ⟨rfl, slice_is hr2, trivial⟩, by omega⟩
    ·have hr2 : out.map dI ++ [.int .i64 zb] = (vertsOf (endsOf S (l.take (i + 1)))).map dI := by rw [hst]; unfold addN; rw [if_neg i2, List.map_append]; rfl
     rw [decide_eq_false i2]
     ((conv => whnf); repeat' ((first | refine odw ?_ | refine ify ?_ | refine ifn ?_ | refine i6 ?_ | refine ati ?_ | refine mst ?_ | refine rmd ?_ | refine ibo (fun _ => ?_) (fun _ => ?_)) <;> conv => whnf))
     exact ⟨i + 1, _, _, hlt, .refl _ _, ⟨rfl, rfl, rfl, rfl, trivial⟩, ⟨rfl, slice_is hr2, trivial⟩, by omega⟩
   ·have e1 : addN out za = out ++ [za] := by unfold addN; rw [if_neg i1]
    have e1d : out.map dI ++ [.int .i64 za] = (out ++ [za]).map dI := by rw [List.map_append]; rfl
    rw [e1] at hst
    rw [decide_eq_false i1]
    ((conv => whnf); repeat' ((first | refine odw ?_ | refine ify ?_ | refine ifn ?_ | refine i6 ?_ | refine ati ?_ | refine mst ?_ | refine rmd ?_ | refine ibo (fun _ => ?_) (fun _ => ?_)) <;> conv => whnf))
    rw [e1d]
    have hol : (out ++ [za]).length = out.length + 1 := by simp
    generalize out ++ [za] = o at *
    refine call_eqb tab rfl (has06_pure o zb) rfl ?_
    by_cases i2 : zb ∈ o
    ·have hr2 : o.map dI = (vertsOf (endsOf S (l.take (i + 1)))).map dI := by rw [hst]; unfold addN; rw [if_pos i2]
     rw [decide_eq_true i2]
     ((conv => whnf); repeat' ((first | refine odw ?_ | refine ify ?_ | refine ifn ?_ | refine i6 ?_ | refine ati ?_ | refine mst ?_ | refine rmd ?_ | refine ibo (fun _ => ?_) (fun _ => ?_)) <;> conv => whnf))
     exact ⟨i + 1, _, _, hlt, .refl _ _, ⟨rfl, rfl, rfl, rfl, trivial⟩, ⟨rfl, slice_is hr2, trivial⟩, by omega⟩
    ·have hr2 : o.map dI ++ [.int .i64 zb] = (vertsOf (endsOf S (l.take (i + 1)))).map dI := by rw [hst]; unfold addN; rw [if_neg i2, List.map_append]; rfl
     rw [decide_eq_false i2]
     ((conv => whnf); repeat' ((first | refine odw ?_ | refine ify ?_ | refine ifn ?_ | refine i6 ?_ | refine ati ?_ | refine mst ?_ | refine rmd ?_ | refine ibo (fun _ => ?_) (fun _ => ?_)) <;> conv => whnf))
     exact ⟨i + 1, _, _, hlt, .refl _ _, ⟨rfl, rfl, rfl, rfl, trivial⟩, ⟨rfl, slice_is hr2, trivial⟩, by omega⟩
  ·have hr2 : (vertsOf (endsOf S (l.take i))).map dI = (vertsOf (endsOf S (l.take (i + 1)))).map dI := by rw [htk, endsOf_out h]
   by_cases hx0 : x < 0
   ·(conv => whnf)
    (repeat' ((first | refine ord_ok ?_ ?_ | refine at_da hxd rfl ?_ | refine ify ?_ | refine ifn ?_ | refine i6 ?_ | refine ati ?_ | refine mst ?_ | refine rmd ?_ | refine ibo (fun _ => ?_) (fun _ => ?_) | exact oend) <;> conv => whnf))
    exact ⟨i + 1, _, _, hlt, .refl _ _, ⟨rfl, rfl, rfl, rfl, trivial⟩, ⟨rfl, slice_is hr2, trivial⟩, by omega⟩
   ·(conv => whnf)
    (repeat' ((first | refine ord_ok ?_ ?_ | refine at_da hxd rfl ?_ | refine ify ?_ | refine ifn ?_ | refine i6 ?_ | refine ati ?_ | refine mst ?_ | refine rmd ?_ | refine ibo (fun _ => ?_) (fun _ => ?_) | exact oend) <;> conv => whnf))
    exact ⟨i + 1, _, _, hlt, .refl _ _, ⟨rfl, rfl, rfl, rfl, trivial⟩, ⟨rfl, slice_is hr2, trivial⟩, by omega⟩
 ·have hii : l.take i = l := List.take_of_length_le (by omega)
  rw [hii]
  ((conv => whnf); repeat' ((first | refine odw ?_ | refine ify ?_ | refine ifn ?_ | refine i6 ?_ | refine ati ?_ | refine mst ?_ | refine rmd ?_ | refine ibo (fun _ => ?_) (fun _ => ?_)) <;> conv => whnf))
  exact rfl
end Go.Proofs.YtjejpdfldmempaaGreatDoor
end
section
namespace Go.Proofs.YtjejpdfldmempaaGreatDoor
open Go.Sx Go.RowKit Go.Reg Go.Gr
set_option maxRecDepth 100000
theorem nextV_len {G : Gr} (hG : G.Ok) {a : List Int} (h : a.length ≤ 100000) : (nextV G a).length ≤ 4294967296 := by
 unfold nextV
 split
 ·rw [upto_len]; have := hG.size; omega
 ·have h1 := List.length_filter_le (fun x => !decide (x ∈ setOf a)) (setOf (a.flatMap (nearI G)))
  have h2 := setOf_len (a.flatMap (nearI G))
  have h3 := nears_len hG a
  omega
end Go.Proofs.YtjejpdfldmempaaGreatDoor
end
