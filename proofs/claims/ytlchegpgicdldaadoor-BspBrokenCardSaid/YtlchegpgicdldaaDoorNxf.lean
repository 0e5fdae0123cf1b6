/- NetAll: plain laws: what comes is what was sent, in order. -/
import Derived.Test.YtlchegpgicdldaaDoorNxb
namespace Go.Proofs.YtlchegpgicdldaaDoor
open Go.Sx Go.RowKit Go.Reg

def NetM.dbl (N : NetM) (i : Int) : NetM := match N.pos i with
  | some l => N.double l
  | none => N
theorem Told.dbl {N : NetM} {S C : List Letter} (h : Told N S C) (i : Int) : Told (N.dbl i) S C := by
  unfold NetM.dbl
  split
  · rename_i l hp
    refine ⟨h.num, h.all, h.next, ?_, h.came, h.cameIn, h.nodup, ?_⟩
    · intro y hy
      rcases List.mem_append.1 hy with hy | hy
      · exact h.fly y hy
      · simp at hy; rw [hy]; exact h.fly l (pos_mem hp)
    · intro y hy
      rcases h.none y hy with h1 | h1
      · left; exact List.mem_append_left _ h1
      · right; exact h1
  · exact h
theorem dbl_len (N : NetM) (i : Int) : (N.dbl i).flying.length ≤ N.flying.length + 1 ∧ (N.dbl i).came = N.came ∧ (N.dbl i).all = N.all ∧ (N.dbl i).sent = N.sent ∧ (N.dbl i).workers = N.workers := by
  unfold NetM.dbl
  split
  · simp [NetM.double]
  · simp

theorem Told.pick {N : NetM} {S C : List Letter} (h : Told N S C) (v : Int) : pick v N.came = C.filter (fun l => l.dst == v) := by
  rw [h.came]
  unfold Go.Proofs.YtlchegpgicdldaaDoor.pick
  induction C with
  | nil => rfl
  | cons c C ih =>
    clear h
    simp only [List.map_cons, List.filter_cons]
    have ih' : ((C.map (fun l => (stampL l, l))).filter (fun p => p.2.dst == v)).map (·.2) = C.filter (fun l => l.dst == v) := by
      clear ih
      induction C with
      | nil => rfl
      | cons d C ih => simp only [List.map_cons, List.filter_cons]; split <;> simp_all
    split <;> simp [ih']

theorem Numbered.each {S : List Letter} (h : Numbered S) : ∀ (a b : Int) (q : Nat), q < nth S a b → ∃ l ∈ S, l.src = a ∧ l.dst = b ∧ l.seq = q := by
  induction h with
  | nil => intro a b q hq; simp [nth] at hq
  | snoc h a' b' s ih =>
    rename_i S
    intro a b q hq
    by_cases hq' : q < nth S a b
    · obtain ⟨l, hl, h1⟩ := ih a b q hq'
      exact ⟨l, List.mem_append_left _ hl, h1⟩
    · have hw : a' = a ∧ b' = b := by
        by_cases hw : a' = a ∧ b' = b
        · exact hw
        · exfalso
          have hno : onWay a b ⟨a', b', nth S a' b', s⟩ = false := by
            cases h0 : onWay a b ⟨a', b', nth S a' b', s⟩ with
            | false => rfl
            | true => simp [onWay] at h0; exact absurd h0 hw
          have e : nth (S ++ [⟨a', b', nth S a' b', s⟩]) a b = nth S a b := by
            unfold nth
            rw [List.countP_append, List.countP_singleton]
            unfold nth at hno
            rw [hno]; rfl
          rw [e] at hq
          exact hq' hq
      obtain ⟨rfl, rfl⟩ := hw
      have : q = nth S a' b' := by
        simp only [nth, List.countP_append, List.countP_singleton] at hq hq' ⊢
        split at hq <;> omega
      exact ⟨⟨a', b', nth S a' b', s⟩, List.mem_append_right _ (List.mem_singleton_self _), rfl, rfl, by rw [this]⟩

theorem cmpL_same {x y : Letter} (h : x.src = y.src) : cmpL x y = cmpI x.seq y.seq := by
  unfold cmpL
  rw [h]
  simp [cmpI, orI]
theorem cmpL_anti {x y : Letter} (h1 : ¬ cmpL y x < 0) (h2 : ¬ cmpL x y < 0) : x.src = y.src ∧ x.seq = y.seq := by
  have hs : x.src = y.src := by
    unfold cmpL cmpI orI at h1 h2
    by_cases e1 : x.src < y.src
    · simp [e1] at h2
    · by_cases e2 : y.src < x.src
      · simp [e2] at h1
      · omega
  rw [cmpL_same hs] at h2
  rw [cmpL_same hs.symm] at h1
  unfold cmpI at h1 h2
  refine ⟨hs, ?_⟩
  split at h1
  · simp at h1
  · split at h2
    · simp at h2
    · omega

/-- what an inbox tells when all came -/
structure Box (S : List Letter) (v : Int) (out : List Letter) : Prop where
  mem : ∀ l, l ∈ out ↔ l ∈ S ∧ l.dst = v
  nodup : out.Nodup
  sorted : out.Pairwise (fun a b => ¬ cmpL b a < 0)
theorem Told.box {N : NetM} {S C out : List Letter} {v : Int} (h : Told N S C) (h0 : N.flying = []) (hp : out.Perm (Go.Proofs.YtlchegpgicdldaaDoor.pick v N.came)) (hs : out.Pairwise (fun a b => ¬ cmpL b a < 0)) : Box S v out := by
  rw [h.pick] at hp
  refine ⟨fun l => ?_, hp.nodup_iff.2 (h.nodup.filter _), hs⟩
  rw [hp.mem_iff, List.mem_filter]
  constructor
  · rintro ⟨h1, h2⟩; exact ⟨h.cameIn l h1, by simpa using h2⟩
  · rintro ⟨h1, h2⟩
    refine ⟨?_, by simpa using h2⟩
    rcases h.none l h1 with h3 | h3
    · rw [h0] at h3; cases h3
    · exact h3
theorem Box.inj {S : List Letter} {v : Int} {out : List Letter} (hn : Numbered S) (h : Box S v out) {x y : Letter} (hx : x ∈ out) (hy : y ∈ out) (h1 : x.src = y.src) (h2 : x.seq = y.seq) : x = y := by
  have a := (h.mem x).1 hx
  have b := (h.mem y).1 hy
  exact stamp_inj hn a.1 b.1 (by simp [stampL, h1, h2, a.2, b.2])
theorem Box.eq {S : List Letter} {v : Int} {o1 o2 : List Letter} (hn : Numbered S) (h1 : Box S v o1) (h2 : Box S v o2) : o1 = o2 := by
  refine sorted_eq ((List.perm_ext_iff_of_nodup h1.nodup h2.nodup).2 fun l => by rw [h1.mem, h2.mem]) h1.sorted h2.sorted ?_
  intro a ha b hb g1 g2
  obtain ⟨e1, e2⟩ := cmpL_anti g1 g2
  exact h1.inj hn ha hb e1 e2
theorem Box.next {S : List Letter} {v : Int} {out : List Letter} (hn : Numbered S) (h : Box S v out) {i : Nat} {x y : Letter} (hx : out[i]? = some x) (hy : out[i + 1]? = some y) (e : y.src = x.src) : y.seq = x.seq + 1 := by
  have hxm := List.mem_of_getElem? hx
  have hym := List.mem_of_getElem? hy
  have srt : ∀ {j k : Nat} {a b : Letter}, j < k → out[j]? = some a → out[k]? = some b → a.src = b.src → a.seq ≤ b.seq := by
    intro j k a b hjk ha hb hab
    obtain ⟨hj, rfl⟩ := List.getElem?_eq_some_iff.1 ha
    obtain ⟨hk, rfl⟩ := List.getElem?_eq_some_iff.1 hb
    have := List.pairwise_iff_getElem.1 h.sorted j k hj hk hjk
    rw [cmpL_same hab.symm] at this
    unfold cmpI at this
    split at this
    · simp at this
    · omega
  have hle := srt (Nat.lt_succ_self i) hx hy e.symm
  have hne : x.seq ≠ y.seq := fun e2 => by
    have exy := h.inj hn hxm hym e.symm e2
    subst exy
    obtain ⟨hi, h3⟩ := List.getElem?_eq_some_iff.1 hx
    obtain ⟨hi', h4⟩ := List.getElem?_eq_some_iff.1 hy
    exact List.pairwise_iff_getElem.1 h.nodup i (i + 1) hi hi' (Nat.lt_succ_self i) (h3.trans h4.symm)
  by_cases hgap : y.seq = x.seq + 1
  · exact hgap
  exfalso
  have ax := (h.mem x).1 hxm
  have ay := (h.mem y).1 hym
  have lx := hn.lt x ax.1
  have ly := hn.lt y ay.1
  obtain ⟨q, hq⟩ := Int.eq_ofNat_of_zero_le (show 0 ≤ x.seq + 1 by omega)
  obtain ⟨z, hz, z1, z2, z3⟩ := hn.each y.src y.dst q (by have := ly.2; omega)
  have hzm := (h.mem z).2 ⟨hz, by rw [z2]; exact ay.2⟩
  obtain ⟨j, hj⟩ := List.getElem?_of_mem hzm
  rcases Nat.lt_trichotomy j (i + 1) with hlt | heq | hgt
  · rcases Nat.lt_or_ge j i with h1 | h1
    · have := srt h1 hj hx (by rw [z1, e]); omega
    · have : j = i := by omega
      subst this
      rw [hx] at hj
      have := Option.some.inj hj
      subst this
      omega
  · subst heq
    rw [hy] at hj
    have := Option.some.inj hj
    subst this
    omega
  · have := srt hgt hy hj z1.symm; omega
end Go.Proofs.YtlchegpgicdldaaDoor
