/- A net told by three plain lists: all that was sent, what flies, what came. -/
import Derived.Test.YtlpjdngjmknniaaDoorNtk
namespace Go.Proofs.YtlpjdngjmknniaaDoor
open Go.RowKit Go.Reg

def onWay (a b : Int) (l : Letter) : Bool := l.src == a && l.dst == b
def nth (S : List Letter) (a b : Int) : Nat := S.countP (onWay a b)
/-- letters numbered by their way, from 0 on -/
inductive Numbered : List Letter → Prop
  | nil : Numbered []
  | snoc {S : List Letter} (h : Numbered S) (a b : Int) (s : ByteArray) : Numbered (S ++ [⟨a, b, nth S a b, s⟩])

/-- the net N has sent S; C came, in this order -/
structure Told (N : NetM) (S C : List Letter) : Prop where
  num : Numbered S
  all : N.all = S.length
  next : ∀ a b, N.next a b = nth S a b
  fly : ∀ l ∈ N.flying, l ∈ S
  came : N.came = C.map (fun l => (stampL l, l))
  cameIn : ∀ l ∈ C, l ∈ S
  nodup : C.Nodup
  none : ∀ l ∈ S, l ∈ N.flying ∨ l ∈ C

theorem Numbered.lt {S : List Letter} (h : Numbered S) : ∀ l ∈ S, 0 ≤ l.seq ∧ l.seq < nth S l.src l.dst := by
  induction h with
  | nil => simp
  | snoc h a b s ih =>
    intro l hl
    rcases List.mem_append.1 hl with hl | hl
    · have := ih l hl
      simp only [nth, List.countP_append]
      exact ⟨this.1, by have := this.2; simp only [nth] at this; omega⟩
    · simp at hl
      subst hl
      simp [nth, onWay, List.countP_append]
      omega
theorem Numbered.stamps {S : List Letter} (h : Numbered S) : (S.map stampL).Nodup := by
  induction h with
  | nil => simp
  | snoc h a b s ih =>
    rename_i S
    rw [List.map_append, List.nodup_append]
    refine ⟨ih, by simp, ?_⟩
    intro x hx y hy e
    simp at hy
    subst hy
    obtain ⟨l, hl, rfl⟩ := List.mem_map.1 hx
    have := h.lt l hl
    simp [stampL] at e
    obtain ⟨rfl, rfl, e3⟩ := e
    omega
theorem stamp_inj {S : List Letter} (h : Numbered S) {x y : Letter} (hx : x ∈ S) (hy : y ∈ S) (e : stampL x = stampL y) : x = y := by
  have hn := h.stamps
  clear h
  induction S with
  | nil => simp at hx
  | cons z S ih =>
    simp only [List.map_cons, List.nodup_cons] at hn
    rcases List.mem_cons.1 hx with hx | hx <;> rcases List.mem_cons.1 hy with hy | hy
    · rw [hx, hy]
    · exact absurd (List.mem_map.2 ⟨y, hy, by rw [← e, hx]⟩) hn.1
    · exact absurd (List.mem_map.2 ⟨x, hx, by rw [e, hy]⟩) hn.1
    · exact ih hx hy hn.2

theorem stampL_inj_map {S : List Letter} (C : List Letter) (hn : Numbered S) (l : Letter) (hl : l ∈ S) (hC : ∀ l ∈ C, l ∈ S) : Reg.get (C.map (fun l => (stampL l, l))) (stampL l) = if l ∈ C then some l else none := by
  induction C with
  | nil => simp [get_nil]
  | cons c C ih =>
    have ih := ih (fun x hx => hC x (List.mem_cons_of_mem _ hx))
    rw [List.map_cons, get_cons]
    by_cases h : stampL c = stampL l
    · have : c = l := stamp_inj hn (hC c (by simp)) hl h
      subst this
      simp
    · have hne : c ≠ l := fun e => h (by rw [e])
      rw [if_neg h, ih]
      simp [Ne.symm hne]

def toldAct (N : NetM) (S C : List Letter) (x : ActM) : List Letter × List Letter :=
  if x.kind = 0 then
    if 0 ≤ x.a ∧ x.a < N.workers ∧ 0 ≤ x.b ∧ x.b < N.workers then (S ++ [⟨x.a, x.b, nth S x.a x.b, x.text⟩], C) else (S, C)
  else match N.pos x.a with
    | none => (S, C)
    | some l => if x.kind = 1 then (S, C) else (S, if l ∈ C then C else C ++ [l])

theorem pos_mem {N : NetM} {i : Int} {l : Letter} (h : N.pos i = some l) : l ∈ N.flying := by
  unfold NetM.pos at h
  split at h
  · exact List.mem_of_getElem? h
  · cases h
theorem pos_at {N : NetM} {i : Int} {l : Letter} (h : N.pos i = some l) : N.flying[i.toNat]? = some l := by
  unfold NetM.pos at h
  split at h
  · exact h
  · cases h

theorem Told.deliver {N : NetM} {S C : List Letter} (h : Told N S C) {i : Nat} {l : Letter} (hl : N.flying[i]? = some l) : Told (N.deliver i l) S (if l ∈ C then C else C ++ [l]) := by
  have hlS := h.fly l (List.mem_of_getElem? hl)
  have hg := stampL_inj_map C h.num l hlS h.cameIn
  refine ⟨h.num, h.all, h.next, fun y hy => h.fly y (List.mem_of_mem_eraseIdx hy), ?_, ?_, ?_, ?_⟩
  · show put N.came (stampL l) l = _
    rw [h.came]
    by_cases hc : l ∈ C
    · rw [if_pos hc] at hg ⊢
      exact put_same _ _ _ hg
    · rw [if_neg hc] at hg ⊢
      rw [put_new _ _ _ hg]
      simp
  · intro y hy
    split at hy
    · exact h.cameIn y hy
    · rcases List.mem_append.1 hy with hy | hy
      · exact h.cameIn y hy
      · simp at hy; rw [hy]; exact hlS
  · split
    · exact h.nodup
    · rename_i hc
      rw [List.nodup_append]
      exact ⟨h.nodup, by simp, fun a ha b hb e => by simp at hb; exact hc (by rw [← hb, ← e]; exact ha)⟩
  · intro y hy
    have hcl : l ∈ (if l ∈ C then C else C ++ [l]) := by split <;> simp [*]
    rcases h.none y hy with hf | hc
    · by_cases hyl : y = l
      · right; rw [hyl]; exact hcl
      · left
        obtain ⟨j, hj⟩ := List.getElem?_of_mem hf
        have hne : j ≠ i := fun e => hyl (by rw [e, hl] at hj; exact (Option.some.inj hj).symm)
        show y ∈ N.flying.eraseIdx i
        rw [List.mem_eraseIdx_iff_getElem?]
        exact ⟨j, hne, hj⟩
    · right
      split
      · exact hc
      · exact List.mem_append_left _ hc

theorem Told.act {N : NetM} {S C : List Letter} (h : Told N S C) (x : ActM) : Told (N.act x).1 (toldAct N S C x).1 (toldAct N S C x).2 := by
  unfold NetM.act toldAct
  split
  · split
    · have hn : N.next x.a x.b = (nth S x.a x.b : Int) := h.next _ _
      refine ⟨Numbered.snoc h.num _ _ _, ?_, ?_, ?_, h.came, fun l hl => List.mem_append_left _ (h.cameIn l hl), h.nodup, ?_⟩
      · show N.all + 1 = _
        rw [h.all]; simp
      · intro a b
        rw [NetM.next_send]
        simp only [nth, List.countP_append, List.countP_singleton, onWay]
        by_cases hab : x.a = a ∧ x.b = b
        · obtain ⟨rfl, rfl⟩ := hab
          simp [hn, nth]
        · rw [if_neg hab, h.next]
          have : ¬ ((x.a == a && x.b == b) = true) := by simpa using hab
          simp [nth, this]
      · intro l hl
        simp only [NetM.send] at hl
        rcases List.mem_append.1 hl with hl | hl
        · exact List.mem_append_left _ (h.fly l hl)
        · refine List.mem_append_right _ ?_
          rw [hn] at hl
          exact hl
      · intro l hl
        rcases List.mem_append.1 hl with hl | hl
        · rcases h.none l hl with h1 | h1
          · left; exact List.mem_append_left _ h1
          · right; exact h1
        · left
          simp only [NetM.send]
          refine List.mem_append_right _ ?_
          rw [hn]
          exact hl
    · exact h
  · cases hp : N.pos x.a with
    | none => exact h
    | some l =>
      simp only
      split
      · refine ⟨h.num, h.all, h.next, ?_, h.came, h.cameIn, h.nodup, ?_⟩
        · intro y hy
          rcases List.mem_append.1 hy with hy | hy
          · exact h.fly y hy
          · simp at hy; rw [hy]; exact h.fly l (pos_mem hp)
        · intro y hy
          rcases h.none y hy with h1 | h1
          · left; exact List.mem_append_left _ h1
          · right; exact h1
      · exact h.deliver (pos_at hp)

theorem Told.new (k : Int) : Told ⟨k, [], 0, [], []⟩ [] [] := ⟨.nil, rfl, fun a b => rfl, by simp, rfl, by simp, by simp, by simp⟩
/-- no more came than was sent; if nothing flies, all came -/
theorem nodup_le {α : Type} [DecidableEq α] : ∀ {l m : List α}, l.Nodup → (∀ x ∈ l, x ∈ m) → l.length ≤ m.length
  | [], _, _, _ => by simp
  | x :: l, m, hn, hs => by
    rw [List.nodup_cons] at hn
    have hx : x ∈ m := hs x (by simp)
    have := nodup_le (l := l) (m := m.erase x) hn.2 (fun y hy => (List.mem_erase_of_ne (fun e => hn.1 (by rw [← e]; exact hy))).2 (hs y (by simp [hy])))
    rw [List.length_erase_of_mem hx] at this
    have hpos : 0 < m.length := List.length_pos_of_mem hx
    simp; omega
theorem Told.le {N : NetM} {S C : List Letter} (h : Told N S C) : C.length ≤ S.length := nodup_le h.nodup h.cameIn
theorem Numbered.nodup {S : List Letter} (h : Numbered S) : S.Nodup := by
  have := h.stamps
  clear h
  induction S with
  | nil => simp
  | cons x l ih =>
    simp only [List.map_cons, List.nodup_cons] at this
    rw [List.nodup_cons]
    exact ⟨fun hx => this.1 (List.mem_map.2 ⟨x, hx, rfl⟩), ih this.2⟩
theorem Told.quiet {N : NetM} {S C : List Letter} (h : Told N S C) (h0 : N.flying = []) : C.length = S.length := by
  have h1 := nodup_le h.num.nodup (m := C) (fun x hx => by
    rcases h.none x hx with h2 | h2
    · rw [h0] at h2; cases h2
    · exact h2)
  have := h.le
  omega
theorem Told.M {N : NetM} {S C : List Letter} (h : Told N S C) : M N = S.length - C.length := by
  unfold Go.Proofs.YtlpjdngjmknniaaDoor.M
  rw [h.all, h.came]; simp
end Go.Proofs.YtlpjdngjmknniaaDoor
