/- NetNumbers: the walk. -/
import Derived.Test.YtlpjdngjmknniaaDoorNtn
import Derived.Test.YtlpjdngjmknniaaDoorSxa
namespace Go.Proofs.YtlpjdngjmknniaaDoor
open Go.RowKit Go.Reg

/-- the law's own table: how many went each way -/
def wayTab (S : List Letter) : List Sx.Da := (List.range 16).map fun k => .int .i64 ((nth S ((k / 4 : Nat) : Int) ((k % 4 : Nat) : Int) : Nat) : Int)
theorem tab_at (S : List Letter) {k : Nat} (hk : k < 16) : (wayTab S)[k]? = some (.int .i64 ((nth S ((k / 4 : Nat) : Int) ((k % 4 : Nat) : Int) : Nat) : Int)) := by
  simp [wayTab, hk]
theorem tab_set (S : List Letter) {a b : Nat} (ha : a < 4) (hb : b < 4) (s : ByteArray) (q : Int) : (wayTab S).set (4 * a + b) (.int .i64 ((nth S (a : Int) (b : Int) : Nat) + 1)) = wayTab (S ++ [⟨a, b, q, s⟩]) := by
  apply List.ext_getElem?
  intro k
  rw [List.getElem?_set]
  by_cases hk : k < 16
  · rw [tab_at _ hk, tab_at _ hk]
    by_cases e : 4 * a + b = k
    · subst e
      have e1 : (4 * a + b) / 4 = a := by omega
      have e2 : (4 * a + b) % 4 = b := by omega
      rw [if_pos rfl, if_pos (by simp [wayTab]; omega), e1, e2]
      simp [nth, List.countP_append, onWay]
    · rw [if_neg e]
      have : ¬ (((a : Nat) : Int) = ((k / 4 : Nat) : Int) ∧ ((b : Nat) : Int) = ((k % 4 : Nat) : Int)) := by omega
      have h2 : onWay ((k / 4 : Nat) : Int) ((k % 4 : Nat) : Int) ⟨a, b, q, s⟩ = false := by
        simp only [onWay, Bool.and_eq_false_iff, beq_eq_false_iff_ne]
        omega
      simp only [nth, List.countP_append, List.countP_singleton, h2]
      simp
  · have h1 : (wayTab S)[k]? = none := List.getElem?_eq_none (by simp [wayTab]; omega)
    have h2 : (wayTab (S ++ [⟨a, b, q, s⟩]))[k]? = none := List.getElem?_eq_none (by simp [wayTab]; omega)
    rw [h1, h2, if_neg (by omega)]
theorem tab_nil : wayTab [] = List.replicate 16 (.int .i64 0) := rfl

/-- what a call did, by its kind -/
theorem num_cases {N : NetM} {x : ActM} (hb : bad x = false) :
    (N.act x = (N, 3)) ∨
    (x.kind = 0 ∧ ∃ a b : Nat, x.a = a ∧ x.b = b ∧ (a : Int) < N.workers ∧ (b : Int) < N.workers ∧ N.act x = (N.send a b x.text, 0)) ∨
    (x.kind = 1 ∧ ∃ (k : Nat) (L : Letter), x.a = k ∧ N.flying[k]? = some L ∧ N.act x = (N.double L, 0)) ∨
    (x.kind = 2 ∧ ∃ (k : Nat) (L : Letter), x.a = k ∧ N.flying[k]? = some L ∧ N.act x = (N.deliver k L, 0)) := by
  simp [bad] at hb
  by_cases k0 : x.kind = 0
  · by_cases hr : 0 ≤ x.a ∧ x.a < N.workers ∧ 0 ≤ x.b ∧ x.b < N.workers
    · right; left
      obtain ⟨a, ha⟩ := Int.eq_ofNat_of_zero_le hr.1
      obtain ⟨b, hb⟩ := Int.eq_ofNat_of_zero_le hr.2.2.1
      refine ⟨k0, a, b, ha, hb, by omega, by omega, ?_⟩
      unfold NetM.act; rw [if_pos k0, if_pos hr, ha, hb]
    · left; unfold NetM.act; rw [if_pos k0, if_neg hr]
  · cases hp : N.pos x.a with
    | none => left; unfold NetM.act; rw [if_neg k0, hp]
    | some L =>
      have h0 : 0 ≤ x.a := by
        unfold NetM.pos at hp
        split at hp
        · assumption
        · cases hp
      obtain ⟨k, hk⟩ := Int.eq_ofNat_of_zero_le h0
      have hL := pos_at hp
      rw [hk, Int.toNat_natCast] at hL
      by_cases k1 : x.kind = 1
      · right; right; left
        refine ⟨k1, k, L, hk, hL, ?_⟩
        unfold NetM.act; rw [if_neg k0, hp]; simp [k1]
      · right; right; right
        refine ⟨by omega, k, L, hk, hL, ?_⟩
        unfold NetM.act; rw [if_neg k0, hp]; simp [k1, hk]
end Go.Proofs.YtlpjdngjmknniaaDoor
