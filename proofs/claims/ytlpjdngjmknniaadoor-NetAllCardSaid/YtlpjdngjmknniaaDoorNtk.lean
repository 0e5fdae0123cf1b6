/- Plain laws of nets; letters compared. -/
import Derived.Test.YtlpjdngjmknniaaDoorNtj
namespace Go.Proofs.YtlpjdngjmknniaaDoor
open Go.RowKit Go.Reg

def M (N : NetM) : Int := N.all - N.came.length
def stampL (l : Letter) : Int × Int × Int := (l.src, l.dst, l.seq)
/-- what came lies under its own stamp -/
structure Keyed (N : NetM) : Prop where
  key : ∀ q ∈ N.came, q.1 = stampL q.2
  nodup : (N.came.map (·.1)).Nodup

theorem mem_put {K V : Type} [DecidableEq K] {l : List (K × V)} {k : K} {v : V} {q : K × V} (h : q ∈ put l k v) : q = (k, v) ∨ q ∈ l := by
  induction l with
  | nil => simpa [put_nil] using h
  | cons p l ih =>
    rw [put_cons] at h
    split at h
    · rcases List.mem_cons.1 h with h | h
      · exact .inl h
      · exact .inr (List.mem_cons_of_mem _ h)
    · rcases List.mem_cons.1 h with h | h
      · exact .inr (by simp [h])
      · rcases ih h with h | h
        · exact .inl h
        · exact .inr (List.mem_cons_of_mem _ h)
theorem put_keys {K V : Type} [DecidableEq K] (l : List (K × V)) (k : K) (v : V) : (put l k v).map (·.1) = if k ∈ l.map (·.1) then l.map (·.1) else l.map (·.1) ++ [k] := by
  induction l with
  | nil => simp [put_nil]
  | cons p l ih =>
    rw [put_cons]
    by_cases h : p.1 = k
    · simp [h]
    · rw [if_neg h, List.map_cons, ih]
      by_cases hk : k ∈ l.map (·.1)
      · rw [if_pos hk, if_pos (by simp only [List.map_cons]; exact List.mem_cons_of_mem _ hk)]; rfl
      · rw [if_neg hk, if_neg (by simp only [List.map_cons, List.mem_cons, not_or]; exact ⟨Ne.symm h, hk⟩)]; rfl
theorem put_nodup {K V : Type} [DecidableEq K] {l : List (K × V)} {k : K} {v : V} (h : (l.map (·.1)).Nodup) : ((put l k v).map (·.1)).Nodup := by
  rw [put_keys]
  split
  · exact h
  · rename_i hk
    rw [List.nodup_append]
    exact ⟨h, by simp, fun a ha b hb => by simp at hb; subst hb; exact fun e => hk (e ▸ ha)⟩

theorem Keyed.deliver {N : NetM} (h : Keyed N) (i : Nat) (l : Letter) : Keyed (N.deliver i l) := by
  refine ⟨fun q hq => ?_, put_nodup h.nodup⟩
  rcases mem_put hq with rfl | hq
  · rfl
  · exact h.key q hq
theorem Keyed.act {N : NetM} (h : Keyed N) (x : ActM) : Keyed (N.act x).1 := by
  unfold NetM.act
  split
  · split
    · exact ⟨h.key, h.nodup⟩
    · exact h
  · split
    · exact h
    · split
      · exact ⟨h.key, h.nodup⟩
      · exact h.deliver _ _
theorem Keyed.new (k : Int) : Keyed ⟨k, [], 0, [], []⟩ := ⟨by simp, by simp⟩

theorem act_cases {N : NetM} {x : ActM} (hb : bad x = false) : ∃ N' c, N.act x = (N', c) ∧
    ((c = 3 ∧ N' = N) ∨ (c = 0 ∧ x.kind = 0 ∧ M N' = M N + 1) ∨ (c = 0 ∧ x.kind = 1 ∧ M N' = M N) ∨ (c = 0 ∧ x.kind = 2 ∧ (M N' = M N ∨ M N' = M N - 1))) := by
  refine ⟨(N.act x).1, (N.act x).2, rfl, ?_⟩
  simp [bad] at hb
  unfold NetM.act
  split
  · rename_i hk
    split
    · right; left
      refine ⟨rfl, hk, ?_⟩
      simp only [M, NetM.send]; omega
    · left; exact ⟨rfl, rfl⟩
  · rename_i hk
    split
    · left; exact ⟨rfl, rfl⟩
    · split
      · rename_i h1
        right; right; left
        exact ⟨rfl, h1, rfl⟩
      · rename_i h1
        right; right; right
        refine ⟨rfl, by omega, ?_⟩
        simp only [M, NetM.deliver, put_length]
        split
        · left; rfl
        · right; simp only [Int.natCast_add]; omega

theorem pick_nodup {N : NetM} (h : Keyed N) (v : Int) : ((pick v N.came).map stampL).Nodup := by
  have h1 : ((N.came.filter (fun p => p.2.dst == v)).map (·.1)).Nodup := (List.filter_sublist.map _).nodup h.nodup
  have : (pick v N.came).map stampL = (N.came.filter (fun p => p.2.dst == v)).map (·.1) := by
    unfold pick
    rw [List.map_map]
    exact List.map_congr_left fun q hq => (h.key q (List.mem_filter.1 hq).1).symm
  rw [this]
  exact h1

theorem part_str (cs : Array Value) (i : Nat) (v : Value) (h : cs[i]? = some v) (w : World) : (part 9 cs i).run Tryd.prog w = .ok v w := by
  have e : (isAgg 9).run Tryd.prog w = .ok false w := by kernel_rfl
  simp [part, e, h]
theorem ba_beq (s s' : ByteArray) : (s == s') = decide (s = s') := by
  obtain ⟨a⟩ := s
  obtain ⟨b⟩ := s'
  rw [Bool.eq_iff_iff, decide_eq_true_iff, ByteArray.mk.injEq]
  show (a == b) = true ↔ a = b
  exact beq_iff_eq
theorem str_equal (n : Nat) (s s' : ByteArray) (w : World) : (Op.equalIn (n + 1) 9 (.string s) (.string s')).run Tryd.prog w = .ok (s == s') w := by
  simp [Op.equalIn, run_underlying Tryd.underlying9]
theorem letter_equal (x y : Letter) (w : World) : (Op.equal 50 (valL x) (valL y)).run Tryd.prog w = .ok (decide (x = y)) w := by
  obtain ⟨a, b, c, s⟩ := x
  obtain ⟨a', b', c', s'⟩ := y
  unfold Op.equal
  rw [show Op.maxDepth = 9999 + 1 from rfl]
  unfold Op.equalIn
  simp [run_underlying Tryd.underlying50, valL, program, Sem.run, part_int, part_str]
  rw [show (9999 : Nat) = 9998 + 1 from rfl]
  simp only [int_equal, str_equal, ba_beq, Result.andThen_ok]
  by_cases h1 : a = a' <;> by_cases h2 : b = b' <;> by_cases h3 : c = c' <;> by_cases h4 : s = s' <;> simp [h1, h2, h3, h4]

theorem wp_eql_letter {o : Oper} {a : Go.Act} {w : World} {K : Go.Act → World → Prop} {Q : Exit → Go.Act → World → Prop} {x y : Operand} {t : TypeId} {l m : Letter} (ho : o.op = .binOp .eql 50 x y t) (hx : a.eval x = valL l) (hy : a.eval y = valL m)
    (hK : K (a.put o.dst (.bool (decide (l = m)))) w) : o.wp Tryd.prog a w K Q := by
  refine wp_val (v := .bool (decide (l = m))) ?_ hK
  have hg : Tryd.prog.eqGuardType Tryd.prog.depth 50 = false := by kernel_rfl
  have e1 : (eqGuard .eql 50 x y (valL l) (valL m)).run Tryd.prog w = .ok () w := by
    simp [eqGuard, valL, program, Sem.run, hg]
  have e0 := letter_equal l m w
  have e2 : (binOp .eql 50 (valL l) (valL m)).run Tryd.prog w = .ok (.bool (decide (l = m))) w := by
    unfold valL at e0 ⊢
    simp only [binOp, Sem.run_bind, e0, Result.andThen_ok, Sem.run_pure]
  simp only [execOp, ho, hx, hy, Sem.run_bind, e1, e2, Result.andThen_ok, Sem.run_pure]
end Go.Proofs.YtlpjdngjmknniaaDoor
