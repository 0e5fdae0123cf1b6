/- Edges, plain: each put where it belongs. -/
import Derived.Test.YteigfapjiekdnaaGreatDoorGra
namespace Go.Gr
def ltsB (E : List Edg) (e : Edg) : Nat := E.countP (fun x => decide (cmpE x e < 0))
/-- an edge put where it belongs -/
def insE (E : List Edg) (x : Edg) : List Edg := E.take (ltsB E x) ++ x :: E.drop (ltsB E x)
def accE (E : List Edg) (i : Nat) : List Edg := ((E.take i).map turn).foldl insE []
theorem lts_split {E : List Edg} (h : Strict E) (x : Edg) : (∀ y ∈ E.take (ltsB E x), cmpE y x < 0) ∧ ∀ y ∈ E.drop (ltsB E x), ¬ cmpE y x < 0 := by
  induction E with
  | nil => simp
  | cons z E ih =>
    obtain ⟨h1, h2⟩ := List.pairwise_cons.1 h
    by_cases hz : cmpE z x < 0
    · have e : ltsB (z :: E) x = ltsB E x + 1 := by unfold ltsB; rw [List.countP_cons_of_pos (by simp [hz])]
      rw [e, List.take_succ_cons, List.drop_succ_cons]
      obtain ⟨i1, i2⟩ := ih h2
      refine ⟨fun y hy => ?_, i2⟩
      rcases List.mem_cons.1 hy with rfl | hy
      · exact hz
      · exact i1 y hy
    · have hall : ∀ y ∈ z :: E, ¬ cmpE y x < 0 := by
        intro y hy
        rcases List.mem_cons.1 hy with rfl | hy
        · exact hz
        · exact fun hc => hz (cmpE_trans (h1 y hy) hc)
      have e : ltsB (z :: E) x = 0 := by
        unfold ltsB
        exact List.countP_eq_zero.2 fun y hy => by have := hall y hy; simpa using this
      rw [e]
      exact ⟨by simp, hall⟩
theorem insE_perm (E : List Edg) (x : Edg) : (insE E x).Perm (x :: E) := by
  unfold insE
  refine List.perm_middle.trans ?_
  rw [List.take_append_drop]
theorem insE_strict {E : List Edg} (h : Strict E) {x : Edg} (hx : x ∉ E) : Strict (insE E x) := by
  obtain ⟨h1, h2⟩ := lts_split h x
  unfold insE
  have hg : ∀ y ∈ E.drop (ltsB E x), cmpE x y < 0 := fun y hy => by
    rcases cmpE_tri x y with h3 | h3 | h3
    · exact h3
    · subst h3; exact absurd (List.mem_of_mem_drop hy) hx
    · exact absurd h3 (h2 y hy)
  refine List.pairwise_append.2 ⟨List.Pairwise.sublist (List.take_sublist _ _) h, List.pairwise_cons.2 ⟨hg, List.Pairwise.sublist (List.drop_sublist _ _) h⟩, fun a ha b hb => ?_⟩
  rcases List.mem_cons.1 hb with rfl | hb
  · exact h1 a ha
  · exact cmpE_trans (h1 a ha) (hg b hb)
theorem fold_ins (L : List Edg) (hn : L.Nodup) : ∀ E, Strict E → (∀ x ∈ L, x ∉ E) → Strict (L.foldl insE E) ∧ (L.foldl insE E).Perm (L ++ E) := by
  induction L with
  | nil => intro E h _; exact ⟨h, List.Perm.refl _⟩
  | cons x L ih =>
    intro E h hx
    obtain ⟨n1, n2⟩ := List.nodup_cons.1 hn
    have hs := insE_strict h (hx x (by simp))
    obtain ⟨i1, i2⟩ := ih n2 (insE E x) hs (fun y hy hm => by
      have := (insE_perm E x).mem_iff.1 hm
      rcases List.mem_cons.1 this with rfl | h3
      · exact n1 hy
      · exact hx y (by simp [hy]) h3)
    refine ⟨i1, i2.trans ?_⟩
    refine (List.Perm.append_left L (insE_perm E x)).trans ?_
    exact List.perm_middle
theorem accE_ok {E : List Edg} (hn : (E.map turn).Nodup) (i : Nat) : Strict (accE E i) ∧ (accE E i).Perm ((E.take i).map turn) := by
  have hn' : ((E.take i).map turn).Nodup := by rw [List.map_take]; exact hn.sublist (List.take_sublist _ _)
  have := fold_ins _ hn' [] List.Pairwise.nil (by simp)
  rwa [List.append_nil] at this
theorem accE_step {E : List Edg} {i : Nat} {x : Edg} (h : E[i]? = some x) : accE E (i + 1) = insE (accE E i) (turn x) := by
  unfold accE
  rw [List.take_add_one, h]
  simp
end Go.Gr
