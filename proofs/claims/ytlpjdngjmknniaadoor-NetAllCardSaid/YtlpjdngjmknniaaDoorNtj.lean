/- alive: the chapter's example. -/
import Derived.Test.YtlpjdngjmknniaaDoorNti
namespace Go.Proofs.YtlpjdngjmknniaaDoor
open Go.RowKit Go.Reg

theorem sorted_eq {α : Type} {R : α → α → Prop} : ∀ {l1 l2 : List α}, l1.Perm l2 → l1.Pairwise R → l2.Pairwise R → (∀ a ∈ l1, ∀ b ∈ l1, R a b → R b a → a = b) → l1 = l2
  | [], l2, hp, _, _, _ => by simpa using hp.symm.eq_nil.symm
  | a :: l1, [], hp, _, _, _ => by simpa using hp.eq_nil
  | a :: l1, b :: l2, hp, h1, h2, hR => by
    have hab : a = b := by
      by_cases e : a = b
      · exact e
      have ha : a ∈ l2 := by
        have : a ∈ b :: l2 := hp.subset (by simp)
        simpa [e] using this
      have hb : b ∈ l1 := by
        have : b ∈ a :: l1 := hp.symm.subset (by simp)
        simpa [Ne.symm e] using this
      exact hR a (by simp) b (by simp [hb]) ((List.pairwise_cons.1 h1).1 b hb) ((List.pairwise_cons.1 h2).1 a ha)
    subst hab
    rw [sorted_eq (hp.cons_inv) (List.pairwise_cons.1 h1).2 (List.pairwise_cons.1 h2).2 (fun x hx y hy => hR x (by simp [hx]) y (by simp [hy]))]

def la : Letter := ⟨0, 1, 0, ⟨#[97]⟩⟩
def lb : Letter := ⟨0, 1, 1, ⟨#[98]⟩⟩

theorem out_ab {out : List Letter} (hp : out.Perm [lb, la]) (hs : out.Pairwise (fun a b => ¬ cmpL b a < 0)) : out = [la, lb] := by
  refine sorted_eq (hp.trans (List.Perm.swap la lb [])) hs (by decide) ?_
  intro a ha b hb h1 h2
  have ha' := hp.subset ha
  have hb' := hp.subset hb
  simp at ha' hb'
  rcases ha' with rfl | rfl <;> rcases hb' with rfl | rfl <;> first | rfl | (revert h1 h2; decide)

theorem chain {w w1 w2 : World} {F F' : List Nat} (g : ∀ x ∈ F, w.heap.size ≤ x) (t : Tch [] w w1) (f : ∀ x ∈ F', x ∈ F ∨ w1.heap.size ≤ x) (t2 : Tch F w1 w2) : (∀ x ∈ F', w.heap.size ≤ x) ∧ Tch [] w w2 :=
  ⟨fun x hx => (f x hx).elim (g x) (fun h => Nat.le_trans t.size h), t.trans t2 (fun _ h => h) (fun x hx => .inr (g x hx))⟩

set_option maxRecDepth 100000 in
set_option maxHeartbeats 1000000 in
theorem alive_ok (w : World) (h : ErrT w) : Calls Tryd.prog 13 #[] w fun e w' => e = .returned (.bool true) ∧ Tch [] w w' := by
  have H := hid h
  clear h
  go_enter Tryd.func13, Tryd.ntmps13
  go_wp2_with fail
  refine (new_yes 2 w (by decide) (by decide)).mono ?_
  rintro e w1 ⟨p, F1, rfl, n1, f1, t1⟩
  replace n1 := hid n1; replace f1 := hid f1; replace t1 := hid t1
  go_wp2_with fail
  refine (send_ok p _ F1 0 1 ⟨#[97]⟩ w1 n1.out (by decide) (by decide) (by decide) (by decide) (by decide) (by decide) (by decide)).mono ?_
  rintro e w2 ⟨rfl, F2, n2, f2, t2⟩
  have q2 := chain f1.out t1.out f2 t2
  replace n2 := hid n2; replace f2 := hid q2.1; replace t2 := hid q2.2; clear q2
  go_wp2_with fail
  refine (send_ok p _ F2 0 1 ⟨#[98]⟩ w2 n2.out (by decide) (by decide) (by decide) (by decide) (by decide) (by decide) (by decide)).mono ?_
  rintro e w3 ⟨rfl, F3, n3, f3, t3⟩
  have q3 := chain f2.out t2.out f3 t3
  replace n3 := hid n3; replace f3 := hid q3.1; replace t3 := hid q3.2; clear q3
  go_wp2_with fail
  refine (double_ok p _ F3 1 lb w3 n3.out rfl (by decide)).mono ?_
  rintro e w4 ⟨rfl, F4, n4, f4, t4⟩
  have q4 := chain f3.out t3.out f4 t4
  replace n4 := hid n4; replace f4 := hid q4.1; replace t4 := hid q4.2; clear q4
  go_wp2_with fail
  refine (deliver_ok p _ F4 1 lb w4 n4.out rfl (by decide)).mono ?_
  rintro e w5 ⟨rfl, n5, t5⟩
  have q5 := chain f4.out t4.out (fun x hx => .inl hx) t5
  replace n5 := hid n5; replace t5 := hid q5.2; clear q5
  go_wp2_with fail
  refine (deliver_ok p _ F4 0 la w5 n5.out rfl (by decide)).mono ?_
  rintro e w6 ⟨rfl, n6, t6⟩
  have q6 := chain f4.out t5.out (fun x hx => .inl hx) t6
  replace n6 := hid n6; replace t6 := hid q6.2; clear q6
  go_wp2_with fail
  refine (deliver_ok p _ F4 0 lb w6 n6.out rfl (by decide)).mono ?_
  rintro e w7 ⟨rfl, n7, t7⟩
  have q7 := chain f4.out t6.out (fun x hx => .inl hx) t7
  replace n7 := hid n7; replace t7 := hid q7.2; clear q7
  go_wp2_with fail
  refine (inbox_ok p _ F4 1 w7 n7.out (by decide)).mono ?_
  rintro e w8 ⟨v8, out, rfl, s8, g8, t8, hp8, hs8⟩
  obtain rfl := out_ab hp8 hs8
  have n8 := hid (n7.out.keep t8 (by simp))
  obtain ⟨g, cap, rfl, hcap⟩ : ∃ g cap, v8 = .slice (some ⟨g, 0, none⟩) 2 cap ∧ 2 ≤ cap := by
    rcases s8.shape with ⟨_, h⟩ | ⟨g, cap, h, hc⟩
    · cases h
    · exact ⟨g, cap, h, hc⟩
  have c3 : w8.cell? ⟨g, 3, none⟩ = some (.string ⟨#[97]⟩) := s8.cells (n := 2) encL_len rfl (i := 0) (x := la) rfl (j := 3) rfl
  have c7 : w8.cell? ⟨g, 7, none⟩ = some (.string ⟨#[98]⟩) := s8.cells (n := 2) encL_len rfl (i := 1) (x := lb) rfl (j := 3) rfl
  replace t8 := t7.out.then0 t8
  replace t8 := hid t8
  clear s8 g8 hp8 hs8 hcap
  go_wp2_with fail
  have hq : Calls Tryd.prog 22 #[.pointer (some ⟨p, 0, none⟩)] w8 fun e w' => e = .returned (.bool true) ∧ Tch [] w8 w' := quiet_ok p _ F4 w8 n8.out (by decide) (by decide) (by decide)
  refine hq.mono ?_
  rintro e w9 ⟨rfl, t9⟩
  replace n8 := hid (n8.out.keep t9 (by simp))
  replace c3 := t9.cell c3 (by simp)
  replace c7 := t9.cell c7 (by simp)
  replace t8 := hid (t8.out.then0 t9)
  clear t9 hq
  go_wp2_with fail
  refine (deliver_no p _ F4 0 w9 n8.out (.inr (by decide))).mono ?_
  rintro e w10 ⟨ev, rfl, he, t10⟩
  have hc := err_code _ _ he (H.out.keep (t8.out.then0 t10) (by simp)) t10
  replace c3 := t10.cell c3 (by simp)
  replace c7 := t10.cell c7 (by simp)
  replace t10 := hid (t8.out.then0 t10)
  replace hc := hid hc
  clear he
  go_wp2_with fail
  refine hc.out.mono ?_
  rintro e w11 ⟨rfl, t11⟩
  have T := hid (t8.out.then0 t11)
  clear t11
  go_wp2_with fail
  go_ret
  exact ⟨rfl, T.out⟩
end Go.Proofs.YtlpjdngjmknniaaDoor
