/- NetPlays: plain laws: the document's net beside the program's. -/
import Derived.Test.YtlpjdngjmknniaaDoorNxf
namespace Go.Proofs.YtlpjdngjmknniaaDoor
open Go.Sx Go.RowKit Go.Reg

structure RN where
  k : Int
  sent : List Letter
  fly : List Letter
  came : List Letter
def rdo (R : RN) (x : ActM) : RN × Int :=
  if x.kind = 0 then
    if x.a < 0 ∨ x.b < 0 ∨ R.k ≤ x.a ∨ R.k ≤ x.b then (R, 3)
    else (⟨R.k, R.sent ++ [⟨x.a, x.b, nth R.sent x.a x.b, x.text⟩], R.fly ++ [⟨x.a, x.b, nth R.sent x.a x.b, x.text⟩], R.came⟩, 0)
  else if x.a < 0 then (R, 3) else match R.fly[x.a.toNat]? with
    | none => (R, 3)
    | some l => if x.kind = 1 then (⟨R.k, R.sent, R.fly ++ [l], R.came⟩, 0)
      else (⟨R.k, R.sent, R.fly.take x.a.toNat ++ R.fly.drop (x.a.toNat + 1), if l ∈ R.came then R.came else R.came ++ [l]⟩, 0)

theorem told_rdo {N : NetM} {S C : List Letter} (h : Told N S C) (x : ActM) : rdo ⟨N.workers, S, N.flying, C⟩ x = (⟨(N.act x).1.workers, (toldAct N S C x).1, (N.act x).1.flying, (toldAct N S C x).2⟩, (N.act x).2) := by
  unfold rdo NetM.act toldAct
  by_cases hk : x.kind = 0
  · simp only [if_pos hk]
    by_cases hr : 0 ≤ x.a ∧ x.a < N.workers ∧ 0 ≤ x.b ∧ x.b < N.workers
    · rw [if_neg (by omega), if_pos hr, if_pos hr]
      simp only [NetM.send, h.next]
    · rw [if_pos (by omega), if_neg hr, if_neg hr]
  · simp only [if_neg hk]
    by_cases ha : x.a < 0
    · rw [if_pos ha]
      have : N.pos x.a = none := by unfold NetM.pos; rw [if_neg (by omega)]
      rw [this]
    · rw [if_neg ha]
      have : N.pos x.a = N.flying[x.a.toNat]? := by unfold NetM.pos; rw [if_pos (by omega)]
      rw [this]
      cases hl : N.flying[x.a.toNat]? with
      | none => rfl
      | some l =>
        simp only
        by_cases h1 : x.kind = 1
        · simp only [if_pos h1, NetM.double]
        · simp only [if_neg h1, NetM.deliver]
          have hlt := (List.getElem?_eq_some_iff.1 hl).1
          rw [List.eraseIdx_eq_take_drop_succ]

/-- letters of one way, the former one the lesser -/
theorem Numbered.before {S : List Letter} (h : Numbered S) : ∀ {i j : Nat} {x y : Letter}, i < j → S[i]? = some x → S[j]? = some y → x.src = y.src → x.dst = y.dst → x.seq < y.seq := by
  induction h with
  | nil => intro i j x y _ hx; simp at hx
  | snoc h a b s ih =>
    rename_i S
    intro i j x y hij hx hy e1 e2
    have hj := (List.getElem?_eq_some_iff.1 hy).1
    simp at hj
    rw [List.getElem?_append_left (by omega)] at hx
    by_cases hjl : j < S.length
    · rw [List.getElem?_append_left hjl] at hy
      exact ih hij hx hy e1 e2
    · have : j = S.length := by omega
      subst this
      simp at hy
      subst hy
      simp only at e1 e2 ⊢
      have := (h.lt x (List.mem_of_getElem? hx)).2
      rw [e1, e2] at this
      exact this

/-- put behind the last one that isn't greater -/
theorem ins_perm (out : List Letter) (k : Nat) (l : Letter) : (out.take k ++ [l] ++ out.drop k).Perm (out ++ [l]) := by
  have h := List.take_append_drop k out
  calc (out.take k ++ [l] ++ out.drop k).Perm (out.take k ++ ([l] ++ out.drop k)) := by rw [List.append_assoc]
    _ |>.Perm (out.take k ++ (out.drop k ++ [l])) := (List.Perm.append_left _ List.perm_append_comm)
    _ |>.Perm (out ++ [l]) := by rw [← List.append_assoc, h]
theorem cmpL_srt {x y : Letter} (h : x.src < y.src ∨ x.src = y.src ∧ x.seq ≤ y.seq) : ¬ cmpL y x < 0 := by
  rw [cmpL_lt]; omega
theorem srt_src {x y : Letter} (h : ¬ cmpL y x < 0) : x.src ≤ y.src := by
  rw [cmpL_lt] at h; omega
theorem ins_sorted {out : List Letter} {k : Nat} {l : Letter} (hs : out.Pairwise (fun a b => ¬ cmpL b a < 0)) (hb : ∀ a ∈ out.take k, a.src ≤ l.src) (he : ∀ a ∈ out, a.src = l.src → a.seq ≤ l.seq) (ha : ∀ a ∈ out.drop k, l.src < a.src) :
    (out.take k ++ [l] ++ out.drop k).Pairwise (fun a b => ¬ cmpL b a < 0) := by
  have hs' := hs
  rw [← List.take_append_drop k out, List.pairwise_append] at hs'
  rw [List.append_assoc, List.pairwise_append]
  refine ⟨hs'.1, ?_, ?_⟩
  · rw [List.singleton_append, List.pairwise_cons]
    exact ⟨fun a h => cmpL_srt (.inl (ha a h)), hs'.2.1⟩
  · intro a h b hm
    rw [List.singleton_append] at hm
    rcases List.mem_cons.1 hm with rfl | hm
    · refine cmpL_srt ?_
      have h1 := hb a h
      by_cases e : a.src = b.src
      · exact .inr ⟨e, he a (List.mem_of_mem_take h) e⟩
      · left; omega
    · exact hs'.2.2 a h b hm

/-- what an inbox tells -/
def inR (C : List Letter) (v : Int) (l : Letter) : Bool := decide (l ∈ C) && decide (l.dst = v)
theorem inbox_same {N : NetM} {S C o1 o2 : List Letter} {v : Int} (h : Told N S C) (hp1 : o1.Perm (pick v N.came)) (hs1 : o1.Pairwise (fun a b => ¬ cmpL b a < 0)) (hp2 : o2.Perm (S.filter (inR C v))) (hs2 : o2.Pairwise (fun a b => ¬ cmpL b a < 0)) : o1 = o2 := by
  rw [h.pick] at hp1
  have n1 : o1.Nodup := hp1.nodup_iff.2 (h.nodup.filter _)
  have n2 : o2.Nodup := hp2.nodup_iff.2 (h.num.nodup.filter _)
  have m1 : ∀ l, l ∈ o1 ↔ l ∈ C ∧ l.dst = v := fun l => by rw [hp1.mem_iff, List.mem_filter]; simp
  have m2 : ∀ l, l ∈ o2 ↔ l ∈ C ∧ l.dst = v := fun l => by
    rw [hp2.mem_iff, List.mem_filter]
    simp only [inR, Bool.and_eq_true, decide_eq_true_eq]
    exact ⟨fun h => h.2, fun g => ⟨h.cameIn l g.1, g⟩⟩
  refine sorted_eq ((List.perm_ext_iff_of_nodup n1 n2).2 fun l => by rw [m1, m2]) hs1 hs2 ?_
  intro a ha b hb g1 g2
  obtain ⟨e1, e2⟩ := cmpL_anti g1 g2
  have a1 := (m1 a).1 ha
  have b1 := (m1 b).1 hb
  exact stamp_inj h.num (h.cameIn a a1.1) (h.cameIn b b1.1) (by simp [stampL, e1, e2, a1.2, b1.2])
end Go.Proofs.YtlpjdngjmknniaaDoor
