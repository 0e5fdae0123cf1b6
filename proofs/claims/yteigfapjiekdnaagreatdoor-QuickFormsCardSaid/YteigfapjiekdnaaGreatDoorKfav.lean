/- Merged: Imd. -/
import Derived.Test.YteigfapjiekdnaaGreatDoorKfao
import Derived.Test.YteigfapjiekdnaaGreatDoorKfau
section
/- quick, plain: images of turned patterns; own orders divide them. -/
namespace Go.Gr
open Go.Proofs.YteigfapjiekdnaaGreatDoor
theorem turn_cases (a b : Int) : turn ⟨a, b⟩ = ⟨a, b⟩ ∨ turn ⟨a, b⟩ = ⟨b, a⟩ := by unfold turn; simp only [Edg.mk.injEq]; omega
theorem turn_inj {a b c d : Int} (h : turn ⟨a, b⟩ = turn ⟨c, d⟩) : (a = c ∧ b = d) ∨ (a = d ∧ b = c) := by
  unfold turn at h; simp only [Edg.mk.injEq] at h; omega
section
variable {n : Nat} {p : Pt} {b : List Int}
theorem phOf_turn (hb : IsOrd n b) (hp : PtOk n p) {i j : Nat} (hi : i < n) (hj : j < n) : phOf (turnP p b) (pl b i) (pl b j) = phOf p i j := by
  rw [Bool.eq_iff_iff]
  unfold phOf
  rw [decide_eq_true_eq, decide_eq_true_eq, (turnP_edges hb hp).2]
  constructor
  · rintro ⟨x, hx, e⟩
    obtain ⟨c, d, hcd, hdn, rfl⟩ := edge_nat (hp.edge x hx)
    rw [mv_is b hb (by omega) hdn] at e
    rcases turn_inj e with ⟨h1, h2⟩ | ⟨h1, h2⟩
    · have := pl_inj hb hi (show c < n by omega) (by omega)
      have := pl_inj hb hj hdn (by omega)
      subst_vars
      rw [turn_lt (by omega)]; exact hx
    · have := pl_inj hb hi hdn (by omega)
      have := pl_inj hb hj (show c < n by omega) (by omega)
      subst_vars
      rw [turn_gt (by omega)]; exact hx
  · intro h
    refine ⟨_, h, ?_⟩
    rcases turn_cases (i : Int) (j : Int) with e | e
    · rw [e, mv_is b hb hi hj]
    · rw [e, mv_is b hb hj hi, turn_comm]
def mvI (b L : List Int) : List Int := putL b L b.length
theorem mvI_len (b L : List Int) : (mvI b L).length = L.length := putL_len _ _ _
theorem mvI_at (hb : IsOrd n b) {L : List Int} (hL : L.length = n) {i : Nat} (hi : i < n) : (mvI b L)[pl b i]? = L[i]? := putL_at hb hL hi
theorem mvI_from (hb : IsOrd n b) {L : List Int} (hL : L.length = n) {k : Nat} {x : Int} (h : (mvI b L)[k]? = some x) : ∃ i, i < n ∧ pl b i = k ∧ L[i]? = some x := by
  have hk := (List.getElem?_eq_some_iff.1 h).1
  rw [mvI_len, hL] at hk
  obtain ⟨i, hi, e⟩ := pl_surj hb hk
  refine ⟨i, hi, e, ?_⟩
  rw [← mvI_at hb hL hi, e]; exact h
theorem list_ext {a c : List Int} {m : Nat} (ha : a.length = m) (hc : c.length = m) (h : ∀ k, k < m → a[k]? = c[k]?) : a = c := by
  refine List.ext_getElem? fun k => ?_
  by_cases hk : k < m
  · exact h k hk
  · rw [List.getElem?_eq_none (by omega), List.getElem?_eq_none (by omega)]
theorem mvI_inj (hb : IsOrd n b) {L M : List Int} (hL : L.length = n) (hM : M.length = n) (h : mvI b L = mvI b M) : L = M :=
  list_ext hL hM fun i hi => by rw [← mvI_at hb hL hi, ← mvI_at hb hM hi, h]
theorem nodup_of_at {L : List Int} (h : ∀ (i j : Nat) (x : Int), L[i]? = some x → L[j]? = some x → i = j) : L.Nodup := by
  rw [List.Nodup, List.pairwise_iff_getElem]
  intro i j hi hj hij e
  have := h i j L[i] (List.getElem?_eq_getElem hi) (by rw [List.getElem?_eq_getElem hj, e])
  omega
theorem img_turn {G : Gr} {w : Bool} (hb : IsOrd n b) (hp : PtOk n p) {L : List Int} (h : IsImg G p w L) : IsImg G (turnP p b) w (mvI b L) := by
  have hL : L.length = n := h.len.trans hp.len
  refine ⟨by rw [mvI_len, turnP_len, h.len], nodup_of_at fun i j x hx hy => ?_, fun x hx => ?_, fun k x hx => ?_, fun i j x y hij hx hy hh => ?_, fun hw i j x y hij hx hy hh => ?_⟩
  · obtain ⟨u, hu, rfl, hux⟩ := mvI_from hb hL hx
    obtain ⟨v, hv, rfl, hvx⟩ := mvI_from hb hL hy
    rw [nodup_at h.nodup hux hvx]
  · obtain ⟨k, hk⟩ := List.mem_iff_getElem?.1 hx
    obtain ⟨u, hu, rfl, hux⟩ := mvI_from hb hL hk
    exact h.lt x (List.mem_of_getElem? hux)
  · obtain ⟨u, hu, rfl, hux⟩ := mvI_from hb hL hx
    rw [h.label u x hux]
    unfold plOf
    rw [turnP_at hb hp hu]
  · obtain ⟨u, hu, rfl, hux⟩ := mvI_from hb hL hx
    obtain ⟨v, hv, rfl, hvx⟩ := mvI_from hb hL hy
    rw [phOf_turn hb hp hu hv] at hh
    exact h.has u v x y (fun e => hij (by rw [e])) hux hvx hh
  · obtain ⟨u, hu, rfl, hux⟩ := mvI_from hb hL hx
    obtain ⟨v, hv, rfl, hvx⟩ := mvI_from hb hL hy
    rw [phOf_turn hb hp hu hv]
    exact h.only hw u v x y (fun e => hij (by rw [e])) hux hvx hh
theorem map_nodup {α β : Type} {f : α → β} {l : List α} (hl : l.Nodup) (h : ∀ x ∈ l, ∀ y ∈ l, f x = f y → x = y) : (l.map f).Nodup := by
  rw [List.Nodup, List.pairwise_map]
  exact List.Pairwise.imp_of_mem (fun hx hy hne e => hne (h _ hx _ hy e)) hl
theorem imgP_turn_le {G : Gr} {w : Bool} (hb : IsOrd n b) (hp : PtOk n p) : (imgP G p w).length ≤ (imgP G (turnP p b) w).length := by
  have h1 : ((imgP G p w).map (mvI b)).Nodup := map_nodup (imgP_nodup G p w) fun x hx y hy e => mvI_inj hb ((mem_imgP.1 hx).len.trans hp.len) ((mem_imgP.1 hy).len.trans hp.len) e
  have := nodup_len (m := imgP G (turnP p b) w) h1 fun x hx => by
    obtain ⟨L, hL, rfl⟩ := List.mem_map.1 hx
    exact mem_imgP.2 (img_turn hb hp (mem_imgP.1 hL))
  rwa [List.length_map] at this
theorem imgP_turn {G : Gr} {w : Bool} (hb : IsOrd n b) (hp : PtOk n p) : (imgP G (turnP p b) w).length = (imgP G p w).length := by
  have h1 := imgP_turn_le (G := G) (w := w) hb hp
  have h2 := imgP_turn_le (G := G) (w := w) (back_ord hb) (turnP_ok hb hp)
  rw [turn_back hb hp] at h2
  omega
end
end Go.Gr
end
