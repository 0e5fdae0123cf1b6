/- far: are calls more than are looked at? alive: the chapter's example. Plain laws of nets; letters compared. A net told by three plain lists: all that was sent, what flies, what came. -/
import Derived.Test.YtlchegpgicdldaaDoorNth
import Derived.Test.YtlchegpgicdldaaDoorArg
namespace Go.Proofs.YtlchegpgicdldaaDoor
open Go.RowKit Go.Reg

theorem w64 {n : Int} (h : -9223372036854775808 ≤ n ∧ n ≤ 9223372036854775807) : wrap64 n = n := by unfold wrap64; omega

def bad (x : ActM) : Bool := decide (x.kind < 0) || decide (2 < x.kind) || decide (100 < x.text.size)
def farM (l : List ActM) : Bool := l.any bad || decide (60 < l.length)

theorem far_true {l : List ActM} {i : Nat} {x : ActM} (h : l[i]? = some x) (hb : bad x = true) : farM l = true := by
  simp only [farM, Bool.or_eq_true, List.any_eq_true]
  exact .inl ⟨x, List.mem_of_getElem? h, hb⟩

end Go.Proofs.YtlchegpgicdldaaDoor

namespace Go.Proofs.YtlchegpgicdldaaDoor
open Go.RowKit Go.Reg

theorem sorted_eq {α : Type} {R : α → α → Prop} : ∀ {l1 l2 : List α}, l1.Perm l2 → l1.Pairwise R → l2.Pairwise R → (∀ a ∈ l1, ∀ b ∈ l1, R a b → R b a → a = b) → l1 = l2
  | [], l2, hp, _, _, _ => by simpa using hp.symm.eq_nil.symm
  | a :: l1, [], hp, _, _, _ => by simpa using hp.eq_nil
  | a :: l1, b :: l2, hp, h1, h2, hR => by
    have hab : a = b := by
      by_cases e : a = b
      · exact e
      have ha : a ∈ l2 := by
        have : a ∈ b :: l2 := hp.subset (by simp)
        simpa [e] using this
      have hb : b ∈ l1 := by
        have : b ∈ a :: l1 := hp.symm.subset (by simp)
        simpa [Ne.symm e] using this
      exact hR a (by simp) b (by simp [hb]) ((List.pairwise_cons.1 h1).1 b hb) ((List.pairwise_cons.1 h2).1 a ha)
    subst hab
    rw [sorted_eq (hp.cons_inv) (List.pairwise_cons.1 h1).2 (List.pairwise_cons.1 h2).2 (fun x hx y hy => hR x (by simp [hx]) y (by simp [hy]))]

def la : Letter := ⟨0, 1, 0, ⟨#[97]⟩⟩
def lb : Letter := ⟨0, 1, 1, ⟨#[98]⟩⟩

theorem out_ab {out : List Letter} (hp : out.Perm [lb, la]) (hs : out.Pairwise (fun a b => ¬ cmpL b a < 0)) : out = [la, lb] := by
  refine sorted_eq (hp.trans (List.Perm.swap la lb [])) hs (by decide) ?_
  intro a ha b hb h1 h2
  have ha' := hp.subset ha
  have hb' := hp.subset hb
  simp at ha' hb'
  rcases ha' with rfl | rfl <;> rcases hb' with rfl | rfl <;> first | rfl | (revert h1 h2; decide)

theorem chain {w w1 w2 : World} {F F' : List Nat} (g : ∀ x ∈ F, w.heap.size ≤ x) (t : Tch [] w w1) (f : ∀ x ∈ F', x ∈ F ∨ w1.heap.size ≤ x) (t2 : Tch F w1 w2) : (∀ x ∈ F', w.heap.size ≤ x) ∧ Tch [] w w2 :=
  ⟨fun x hx => (f x hx).elim (g x) (fun h => Nat.le_trans t.size h), t.trans t2 (fun _ h => h) (fun x hx => .inr (g x hx))⟩

end Go.Proofs.YtlchegpgicdldaaDoor

namespace Go.Proofs.YtlchegpgicdldaaDoor
open Go.RowKit Go.Reg

def M (N : NetM) : Int := N.all - N.came.length
def stampL (l : Letter) : Int × Int × Int := (l.src, l.dst, l.seq)
/-- what came lies under its own stamp -/
structure Keyed (N : NetM) : Prop where
  key : ∀ q ∈ N.came, q.1 = stampL q.2
  nodup : (N.came.map (·.1)).Nodup

theorem mem_put {K V : Type} [DecidableEq K] {l : List (K × V)} {k : K} {v : V} {q : K × V} (h : q ∈ put l k v) : q = (k, v) ∨ q ∈ l := by
  induction l with
  | nil => simpa [put_nil] using h
  | cons p l ih =>
    rw [put_cons] at h
    split at h
    · rcases List.mem_cons.1 h with h | h
      · exact .inl h
      · exact .inr (List.mem_cons_of_mem _ h)
    · rcases List.mem_cons.1 h with h | h
      · exact .inr (by simp [h])
      · rcases ih h with h | h
        · exact .inl h
        · exact .inr (List.mem_cons_of_mem _ h)
theorem put_keys {K V : Type} [DecidableEq K] (l : List (K × V)) (k : K) (v : V) : (put l k v).map (·.1) = if k ∈ l.map (·.1) then l.map (·.1) else l.map (·.1) ++ [k] := by
  induction l with
  | nil => simp [put_nil]
  | cons p l ih =>
    rw [put_cons]
    by_cases h : p.1 = k
    · simp [h]
    · rw [if_neg h, List.map_cons, ih]
      by_cases hk : k ∈ l.map (·.1)
      · rw [if_pos hk, if_pos (by simp only [List.map_cons]; exact List.mem_cons_of_mem _ hk)]; rfl
      · rw [if_neg hk, if_neg (by simp only [List.map_cons, List.mem_cons, not_or]; exact ⟨Ne.symm h, hk⟩)]; rfl
theorem put_nodup {K V : Type} [DecidableEq K] {l : List (K × V)} {k : K} {v : V} (h : (l.map (·.1)).Nodup) : ((put l k v).map (·.1)).Nodup := by
  rw [put_keys]
  split
  · exact h
  · rename_i hk
    rw [List.nodup_append]
    exact ⟨h, by simp, fun a ha b hb => by simp at hb; subst hb; exact fun e => hk (e ▸ ha)⟩

theorem Keyed.deliver {N : NetM} (h : Keyed N) (i : Nat) (l : Letter) : Keyed (N.deliver i l) := by
  refine ⟨fun q hq => ?_, put_nodup h.nodup⟩
  rcases mem_put hq with rfl | hq
  · rfl
  · exact h.key q hq
theorem Keyed.act {N : NetM} (h : Keyed N) (x : ActM) : Keyed (N.act x).1 := by
  unfold NetM.act
  split
  · split
    · exact ⟨h.key, h.nodup⟩
    · exact h
  · split
    · exact h
    · split
      · exact ⟨h.key, h.nodup⟩
      · exact h.deliver _ _
theorem Keyed.new (k : Int) : Keyed ⟨k, [], 0, [], []⟩ := ⟨by simp, by simp⟩

theorem act_cases {N : NetM} {x : ActM} (hb : bad x = false) : ∃ N' c, N.act x = (N', c) ∧
    ((c = 3 ∧ N' = N) ∨ (c = 0 ∧ x.kind = 0 ∧ M N' = M N + 1) ∨ (c = 0 ∧ x.kind = 1 ∧ M N' = M N) ∨ (c = 0 ∧ x.kind = 2 ∧ (M N' = M N ∨ M N' = M N - 1))) := by
  refine ⟨(N.act x).1, (N.act x).2, rfl, ?_⟩
  simp [bad] at hb
  unfold NetM.act
  split
  · rename_i hk
    split
    · right; left
      refine ⟨rfl, hk, ?_⟩
      simp only [M, NetM.send]; omega
    · left; exact ⟨rfl, rfl⟩
  · rename_i hk
    split
    · left; exact ⟨rfl, rfl⟩
    · split
      · rename_i h1
        right; right; left
        exact ⟨rfl, h1, rfl⟩
      · rename_i h1
        right; right; right
        refine ⟨rfl, by omega, ?_⟩
        simp only [M, NetM.deliver, put_length]
        split
        · left; rfl
        · right; simp only [Int.natCast_add]; omega

theorem pick_nodup {N : NetM} (h : Keyed N) (v : Int) : ((pick v N.came).map stampL).Nodup := by
  have h1 : ((N.came.filter (fun p => p.2.dst == v)).map (·.1)).Nodup := (List.filter_sublist.map _).nodup h.nodup
  have : (pick v N.came).map stampL = (N.came.filter (fun p => p.2.dst == v)).map (·.1) := by
    unfold pick
    rw [List.map_map]
    exact List.map_congr_left fun q hq => (h.key q (List.mem_filter.1 hq).1).symm
  rw [this]
  exact h1

theorem part_str (cs : Array Value) (i : Nat) (v : Value) (h : cs[i]? = some v) (w : World) : (part 9 cs i).run Tryd.prog w = .ok v w := by
  have e : (isAgg 9).run Tryd.prog w = .ok false w := by kernel_rfl
  simp [part, e, h]
theorem ba_beq (s s' : ByteArray) : (s == s') = decide (s = s') := by
  obtain ⟨a⟩ := s
  obtain ⟨b⟩ := s'
  rw [Bool.eq_iff_iff, decide_eq_true_iff, ByteArray.mk.injEq]
  show (a == b) = true ↔ a = b
  exact beq_iff_eq
theorem str_equal (n : Nat) (s s' : ByteArray) (w : World) : (Op.equalIn (n + 1) 9 (.string s) (.string s')).run Tryd.prog w = .ok (s == s') w := by
  simp [Op.equalIn, run_underlying Tryd.underlying9]
theorem letter_equal (x y : Letter) (w : World) : (Op.equal 84 (valL x) (valL y)).run Tryd.prog w = .ok (decide (x = y)) w := by
  obtain ⟨a, b, c, s⟩ := x
  obtain ⟨a', b', c', s'⟩ := y
  unfold Op.equal
  rw [show Op.maxDepth = 9999 + 1 from rfl]
  unfold Op.equalIn
  simp [run_underlying Tryd.underlying84, valL, program, Sem.run, part_int, part_str]
  rw [show (9999 : Nat) = 9998 + 1 from rfl]
  simp only [int_equal, str_equal, ba_beq, Result.andThen_ok]
  by_cases h1 : a = a' <;> by_cases h2 : b = b' <;> by_cases h3 : c = c' <;> by_cases h4 : s = s' <;> simp [h1, h2, h3, h4]

theorem wp_eql_letter {o : Oper} {a : Go.Act} {w : World} {K : Go.Act → World → Prop} {Q : Exit → Go.Act → World → Prop} {x y : Operand} {t : TypeId} {l m : Letter} (ho : o.op = .binOp .eql 84 x y t) (hx : a.eval x = valL l) (hy : a.eval y = valL m)
    (hK : K (a.put o.dst (.bool (decide (l = m)))) w) : o.wp Tryd.prog a w K Q := by
  refine wp_val (v := .bool (decide (l = m))) ?_ hK
  have hg : Tryd.prog.eqGuardType Tryd.prog.depth 84 = false := by kernel_rfl
  have e1 : (eqGuard .eql 84 x y (valL l) (valL m)).run Tryd.prog w = .ok () w := by
    simp [eqGuard, valL, program, Sem.run, hg]
  have e0 := letter_equal l m w
  have e2 : (binOp .eql 84 (valL l) (valL m)).run Tryd.prog w = .ok (.bool (decide (l = m))) w := by
    unfold valL at e0 ⊢
    simp only [binOp, Sem.run_bind, e0, Result.andThen_ok, Sem.run_pure]
  simp only [execOp, ho, hx, hy, Sem.run_bind, e1, e2, Result.andThen_ok, Sem.run_pure]
end Go.Proofs.YtlchegpgicdldaaDoor

namespace Go.Proofs.YtlchegpgicdldaaDoor
open Go.RowKit Go.Reg

def onWay (a b : Int) (l : Letter) : Bool := l.src == a && l.dst == b
def nth (S : List Letter) (a b : Int) : Nat := S.countP (onWay a b)
/-- letters numbered by their way, from 0 on -/
inductive Numbered : List Letter → Prop
  | nil : Numbered []
  | snoc {S : List Letter} (h : Numbered S) (a b : Int) (s : ByteArray) : Numbered (S ++ [⟨a, b, nth S a b, s⟩])

/-- the net N has sent S; C came, in this order -/
structure Told (N : NetM) (S C : List Letter) : Prop where
  num : Numbered S
  all : N.all = S.length
  next : ∀ a b, N.next a b = nth S a b
  fly : ∀ l ∈ N.flying, l ∈ S
  came : N.came = C.map (fun l => (stampL l, l))
  cameIn : ∀ l ∈ C, l ∈ S
  nodup : C.Nodup
  none : ∀ l ∈ S, l ∈ N.flying ∨ l ∈ C

theorem Numbered.lt {S : List Letter} (h : Numbered S) : ∀ l ∈ S, 0 ≤ l.seq ∧ l.seq < nth S l.src l.dst := by
  induction h with
  | nil => simp
  | snoc h a b s ih =>
    intro l hl
    rcases List.mem_append.1 hl with hl | hl
    · have := ih l hl
      simp only [nth, List.countP_append]
      exact ⟨this.1, by have := this.2; simp only [nth] at this; omega⟩
    · simp at hl
      subst hl
      simp [nth, onWay, List.countP_append]
      omega
theorem Numbered.stamps {S : List Letter} (h : Numbered S) : (S.map stampL).Nodup := by
  induction h with
  | nil => simp
  | snoc h a b s ih =>
    rename_i S
    rw [List.map_append, List.nodup_append]
    refine ⟨ih, by simp, ?_⟩
    intro x hx y hy e
    simp at hy
    subst hy
    obtain ⟨l, hl, rfl⟩ := List.mem_map.1 hx
    have := h.lt l hl
    simp [stampL] at e
    obtain ⟨rfl, rfl, e3⟩ := e
    omega
theorem stamp_inj {S : List Letter} (h : Numbered S) {x y : Letter} (hx : x ∈ S) (hy : y ∈ S) (e : stampL x = stampL y) : x = y := by
  have hn := h.stamps
  clear h
  induction S with
  | nil => simp at hx
  | cons z S ih =>
    simp only [List.map_cons, List.nodup_cons] at hn
    rcases List.mem_cons.1 hx with hx | hx <;> rcases List.mem_cons.1 hy with hy | hy
    · rw [hx, hy]
    · exact absurd (List.mem_map.2 ⟨y, hy, by rw [← e, hx]⟩) hn.1
    · exact absurd (List.mem_map.2 ⟨x, hx, by rw [e, hy]⟩) hn.1
    · exact ih hx hy hn.2

theorem stampL_inj_map {S : List Letter} (C : List Letter) (hn : Numbered S) (l : Letter) (hl : l ∈ S) (hC : ∀ l ∈ C, l ∈ S) : Reg.get (C.map (fun l => (stampL l, l))) (stampL l) = if l ∈ C then some l else none := by
  induction C with
  | nil => simp [get_nil]
  | cons c C ih =>
    have ih := ih (fun x hx => hC x (List.mem_cons_of_mem _ hx))
    rw [List.map_cons, get_cons]
    by_cases h : stampL c = stampL l
    · have : c = l := stamp_inj hn (hC c (by simp)) hl h
      subst this
      simp
    · have hne : c ≠ l := fun e => h (by rw [e])
      rw [if_neg h, ih]
      simp [Ne.symm hne]

def toldAct (N : NetM) (S C : List Letter) (x : ActM) : List Letter × List Letter :=
  if x.kind = 0 then
    if 0 ≤ x.a ∧ x.a < N.workers ∧ 0 ≤ x.b ∧ x.b < N.workers then (S ++ [⟨x.a, x.b, nth S x.a x.b, x.text⟩], C) else (S, C)
  else match N.pos x.a with
    | none => (S, C)
    | some l => if x.kind = 1 then (S, C) else (S, if l ∈ C then C else C ++ [l])

theorem pos_mem {N : NetM} {i : Int} {l : Letter} (h : N.pos i = some l) : l ∈ N.flying := by
  unfold NetM.pos at h
  split at h
  · exact List.mem_of_getElem? h
  · cases h
theorem pos_at {N : NetM} {i : Int} {l : Letter} (h : N.pos i = some l) : N.flying[i.toNat]? = some l := by
  unfold NetM.pos at h
  split at h
  · exact h
  · cases h

theorem Told.deliver {N : NetM} {S C : List Letter} (h : Told N S C) {i : Nat} {l : Letter} (hl : N.flying[i]? = some l) : Told (N.deliver i l) S (if l ∈ C then C else C ++ [l]) := by
  have hlS := h.fly l (List.mem_of_getElem? hl)
  have hg := stampL_inj_map C h.num l hlS h.cameIn
  refine ⟨h.num, h.all, h.next, fun y hy => h.fly y (List.mem_of_mem_eraseIdx hy), ?_, ?_, ?_, ?_⟩
  · show put N.came (stampL l) l = _
    rw [h.came]
    by_cases hc : l ∈ C
    · rw [if_pos hc] at hg ⊢
      exact put_same _ _ _ hg
    · rw [if_neg hc] at hg ⊢
      rw [put_new _ _ _ hg]
      simp
  · intro y hy
    split at hy
    · exact h.cameIn y hy
    · rcases List.mem_append.1 hy with hy | hy
      · exact h.cameIn y hy
      · simp at hy; rw [hy]; exact hlS
  · split
    · exact h.nodup
    · rename_i hc
      rw [List.nodup_append]
      exact ⟨h.nodup, by simp, fun a ha b hb e => by simp at hb; exact hc (by rw [← hb, ← e]; exact ha)⟩
  · intro y hy
    have hcl : l ∈ (if l ∈ C then C else C ++ [l]) := by split <;> simp [*]
    rcases h.none y hy with hf | hc
    · by_cases hyl : y = l
      · right; rw [hyl]; exact hcl
      · left
        obtain ⟨j, hj⟩ := List.getElem?_of_mem hf
        have hne : j ≠ i := fun e => hyl (by rw [e, hl] at hj; exact (Option.some.inj hj).symm)
        show y ∈ N.flying.eraseIdx i
        rw [List.mem_eraseIdx_iff_getElem?]
        exact ⟨j, hne, hj⟩
    · right
      split
      · exact hc
      · exact List.mem_append_left _ hc

theorem Told.act {N : NetM} {S C : List Letter} (h : Told N S C) (x : ActM) : Told (N.act x).1 (toldAct N S C x).1 (toldAct N S C x).2 := by
  unfold NetM.act toldAct
  split
  · split
    · have hn : N.next x.a x.b = (nth S x.a x.b : Int) := h.next _ _
      refine ⟨Numbered.snoc h.num _ _ _, ?_, ?_, ?_, h.came, fun l hl => List.mem_append_left _ (h.cameIn l hl), h.nodup, ?_⟩
      · show N.all + 1 = _
        rw [h.all]; simp
      · intro a b
        rw [NetM.next_send]
        simp only [nth, List.countP_append, List.countP_singleton, onWay]
        by_cases hab : x.a = a ∧ x.b = b
        · obtain ⟨rfl, rfl⟩ := hab
          simp [hn, nth]
        · rw [if_neg hab, h.next]
          have : ¬ ((x.a == a && x.b == b) = true) := by simpa using hab
          simp [nth, this]
      · intro l hl
        simp only [NetM.send] at hl
        rcases List.mem_append.1 hl with hl | hl
        · exact List.mem_append_left _ (h.fly l hl)
        · refine List.mem_append_right _ ?_
          rw [hn] at hl
          exact hl
      · intro l hl
        rcases List.mem_append.1 hl with hl | hl
        · rcases h.none l hl with h1 | h1
          · left; exact List.mem_append_left _ h1
          · right; exact h1
        · left
          simp only [NetM.send]
          refine List.mem_append_right _ ?_
          rw [hn]
          exact hl
    · exact h
  · cases hp : N.pos x.a with
    | none => exact h
    | some l =>
      simp only
      split
      · refine ⟨h.num, h.all, h.next, ?_, h.came, h.cameIn, h.nodup, ?_⟩
        · intro y hy
          rcases List.mem_append.1 hy with hy | hy
          · exact h.fly y hy
          · simp at hy; rw [hy]; exact h.fly l (pos_mem hp)
        · intro y hy
          rcases h.none y hy with h1 | h1
          · left; exact List.mem_append_left _ h1
          · right; exact h1
      · exact h.deliver (pos_at hp)

theorem Told.new (k : Int) : Told ⟨k, [], 0, [], []⟩ [] [] := ⟨.nil, rfl, fun a b => rfl, by simp, rfl, by simp, by simp, by simp⟩
/-- no more came than was sent; if nothing flies, all came -/
theorem nodup_le {α : Type} [DecidableEq α] : ∀ {l m : List α}, l.Nodup → (∀ x ∈ l, x ∈ m) → l.length ≤ m.length
  | [], _, _, _ => by simp
  | x :: l, m, hn, hs => by
    rw [List.nodup_cons] at hn
    have hx : x ∈ m := hs x (by simp)
    have := nodup_le (l := l) (m := m.erase x) hn.2 (fun y hy => (List.mem_erase_of_ne (fun e => hn.1 (by rw [← e]; exact hy))).2 (hs y (by simp [hy])))
    rw [List.length_erase_of_mem hx] at this
    have hpos : 0 < m.length := List.length_pos_of_mem hx
    simp; omega
theorem Told.le {N : NetM} {S C : List Letter} (h : Told N S C) : C.length ≤ S.length := nodup_le h.nodup h.cameIn
theorem Numbered.nodup {S : List Letter} (h : Numbered S) : S.Nodup := by
  have := h.stamps
  clear h
  induction S with
  | nil => simp
  | cons x l ih =>
    simp only [List.map_cons, List.nodup_cons] at this
    rw [List.nodup_cons]
    exact ⟨fun hx => this.1 (List.mem_map.2 ⟨x, hx, rfl⟩), ih this.2⟩
theorem Told.quiet {N : NetM} {S C : List Letter} (h : Told N S C) (h0 : N.flying = []) : C.length = S.length := by
  have h1 := nodup_le h.num.nodup (m := C) (fun x hx => by
    rcases h.none x hx with h2 | h2
    · rw [h0] at h2; cases h2
    · exact h2)
  have := h.le
  omega
theorem Told.M {N : NetM} {S C : List Letter} (h : Told N S C) : M N = S.length - C.length := by
  unfold Go.Proofs.YtlchegpgicdldaaDoor.M
  rw [h.all, h.came]; simp
end Go.Proofs.YtlchegpgicdldaaDoor
