/- fretworklaw12.QuickEdges returns true and leaves its input as it was, whatever the input. Provided that the listed variables hold what the text lays in them (the row lists them). The walk: qedges_pure. -/
import Derived.Test.YteigfapjiekdnaaGreatDoorKebf
import Derived.Test.YteigfapjiekdnaaGreatDoorKebg
import Derived.Test.YteigfapjiekdnaaGreatDoorKear
import Derived.Test.YteigfapjiekdnaaGreatDoorKeav
import Derived.Test.YteigfapjiekdnaaGreatDoorKeay
import Derived.Test.YteigfapjiekdnaaGreatDoorKeax
import Derived.Test.YteigfapjiekdnaaGreatDoorKeai
import Derived.Test.YteigfapjiekdnaaGreatDoorKean
import Derived.Test.YteigfapjiekdnaaGreatDoorKebb
import Derived.Test.YteigfapjiekdnaaGreatDoorKeba
import Derived.Test.YteigfapjiekdnaaGreatDoorArg
import Derived.Test.YteigfapjiekdnaaGreatDoorCards
import Derived.Test.YteigfapjiekdnaaGreatDoorTie
import Derived.WalkKit
import Derived.ProofKit
import Derived.OpenShut
import Derived.ChangeMaps5
import Derived.ChangeSame
import Derived.SizedLaws
import Derived.Deep.DeepHandedRow
import Derived.Lib.LaidTab
import Derived.LaidHandle
import Derived.Carry
import Derived.Stop.LaidErr
section
/- quick, plain: the pattern of a list of edges: an image, its edges, connected; turned about. -/
namespace Go.Gr
open Go.Proofs.YteigfapjiekdnaaGreatDoor
def eP (G : Gr) (E : List Edg) (V : List Int) : Pt := ⟨V.map (labelV G), madeE E V⟩
theorem eP_same {E F : List Edg} (h : ∀ e, e ∈ E ↔ e ∈ F) (G : Gr) (V : List Int) : eP G E V = eP G F V := by
  have hr : ∀ x y, hasR E x y = hasR F x y := fun x y => by
    rw [Bool.eq_iff_iff]
    unfold hasR
    rw [List.any_eq_true, List.any_eq_true]
    exact ⟨fun ⟨e, he, hc⟩ => ⟨e, (h e).1 he, hc⟩, fun ⟨e, he, hc⟩ => ⟨e, (h e).2 he, hc⟩⟩
  have hp : pairF E V = pairF F V := by funext a b; unfold pairF; rw [hr]
  unfold eP madeE
  rw [hp]
section
variable {G : Gr} {E : List Edg} {V : List Int} {n : Nat}
theorem eP_ok (G : Gr) (E : List Edg) (hl : V.length = n) : PtOk n (eP G E V) := by
  refine ⟨by unfold eP; rw [List.length_map]; exact hl, fun e he => ?_, rowsF_strict _ _ _⟩
  obtain ⟨j, x, hj, hx, hjx, _, rfl⟩ := mem_rowsF.1 he
  simp only; omega
theorem eP_ph (hE : ∀ e ∈ E, e.a < e.b) {i j : Nat} {x y : Int} (hij : i ≠ j) (hx : V[i]? = some x) (hy : V[j]? = some y) : phOf (eP G E V) i j = decide (turn ⟨x, y⟩ ∈ E) := by
  have key : ∀ {i j : Nat} {x y : Int}, i < j → V[i]? = some x → V[j]? = some y → phOf (eP G E V) i j = decide (turn ⟨x, y⟩ ∈ E) := by
    intro i j x y hij hx hy
    have hjl := (List.getElem?_eq_some_iff.1 hy).1
    have hil := (List.getElem?_eq_some_iff.1 hx).1
    rw [Bool.eq_iff_iff]
    unfold phOf
    rw [turn_lt (by omega), decide_eq_true_eq]
    show _ ∈ rowsF _ _ _ ↔ _
    rw [mem_rowsF]
    have hp : pairF E V i j = decide (turn ⟨x, y⟩ ∈ E) := by
      unfold pairF
      rw [hx, hy, Option.getD_some, Option.getD_some, hasR_turn hE]
    constructor
    · rintro ⟨a, b, _, _, _, h, e⟩
      simp only [Edg.mk.injEq] at e
      have e1 : a = i := by omega
      have e2 : b = j := by omega
      rw [e1, e2, hp] at h; exact h
    · intro h
      exact ⟨i, j, hil, hjl, hij, by rw [hp]; exact h, rfl⟩
  rcases Nat.lt_or_gt_of_ne hij with h | h
  · exact key h hx hy
  · rw [phOf_comm, turn_comm]; exact key h hy hx
theorem eP_label {i : Nat} {x : Int} (hx : V[i]? = some x) : (eP G E V).labels[i]? = some (labelV G x) := by
  show (V.map _)[i]? = _
  rw [List.getElem?_map, hx]; rfl
theorem eP_img (hE : ∀ e ∈ E, e.a < e.b) (hEG : ∀ e ∈ E, e ∈ G.edges) (hn : V.Nodup) (hr : ∀ x ∈ V, 0 ≤ x ∧ x < (G.labels.length : Int)) : IsImg G (eP G E V) false V := by
  refine ⟨by unfold eP; rw [List.length_map], hn, hr, fun i x hx => ?_, fun i j x y hij hx hy h => ?_, fun e => by cases e⟩
  · unfold plOf
    rw [eP_label hx]; rfl
  · rw [eP_ph hE hij hx hy] at h
    exact decide_eq_true (hEG _ (of_decide_eq_true h))
theorem eP_err (hG : G.Ok) (h8 : V.length ≤ 8) (hr : ∀ x ∈ V, 0 ≤ x ∧ x < (G.labels.length : Int)) : pErr (eP G E V) = none := by
  refine pErr_of (eP_ok G E rfl) h8 fun x hx => ?_
  obtain ⟨y, hy, rfl⟩ := List.mem_map.1 hx
  exact labelV_ok hG (hr y hy)
theorem eP_turn (hE : ∀ e ∈ E, e.a < e.b) {o : List Int} (ho : IsOrd n o) (hl : V.length = n) : eP G E (mvI o V) = turnP (eP G E V) o := by
  have hml : (mvI o V).length = n := by rw [mvI_len, hl]
  have hv := eP_ok G E hl
  refine pt_ph (eP_ok G E hml) (turnP_ok ho hv) (fun k hk => ?_) (fun a b hab hb => ?_)
  · obtain ⟨i, hi, rfl⟩ := pl_surj ho hk
    have hx := List.getElem?_eq_getElem (l := V) (i := i) (by omega)
    rw [turnP_at ho hv hi, eP_label hx, eP_label (x := V[i]'(by omega)) (by rw [mvI_at ho hl hi]; exact hx)]
  · obtain ⟨i, hi, rfl⟩ := pl_surj ho (show a < n by omega)
    obtain ⟨j, hj, rfl⟩ := pl_surj ho hb
    have hij : i ≠ j := fun e => by subst e; omega
    have hx := List.getElem?_eq_getElem (l := V) (i := i) (by omega)
    have hy := List.getElem?_eq_getElem (l := V) (i := j) (by omega)
    rw [phOf_turn ho hv hi hj, eP_ph hE hij hx hy, eP_ph hE (by omega) (x := V[i]'(by omega)) (y := V[j]'(by omega)) (by rw [mvI_at ho hl hi]; exact hx) (by rw [mvI_at ho hl hj]; exact hy)]
theorem eP_len (hE : ∀ e ∈ E, e.a < e.b) (hEn : E.Nodup) (hn : V.Nodup) (hin : ∀ e ∈ E, e.a ∈ V ∧ e.b ∈ V) : (madeE E V).length = E.length := by
  obtain ⟨h1, h2⟩ := made_ats hE hEn V hn hin
  rw [← h2]
  have := (fold_ins _ h1 [] List.Pairwise.nil (fun x _ => by simp)).2.length_eq
  rw [this]; simp
end
/-- each but the first has one ahead of it that an edge joins to it -/
def Disc (E : List Edg) (W : List Int) : Prop := ∀ (k : Nat) (y : Int), 1 ≤ k → W[k]? = some y → ∃ (j : Nat) (x : Int), j < k ∧ W[j]? = some x ∧ turn ⟨x, y⟩ ∈ E
theorem disc_snoc {E : List Edg} {W : List Int} {y : Int} (h : Disc E W) (hy : W = [] ∨ ∃ x ∈ W, turn ⟨x, y⟩ ∈ E) : Disc E (W ++ [y]) := by
  intro k z hk hz
  have hkl := (List.getElem?_eq_some_iff.1 hz).1
  rw [List.length_append, List.length_singleton] at hkl
  by_cases hlt : k < W.length
  · rw [List.getElem?_append_left hlt] at hz
    obtain ⟨j, x, hj, hx, he⟩ := h k z hk hz
    exact ⟨j, x, hj, by rw [List.getElem?_append_left (by omega)]; exact hx, he⟩
  · have hkW : k = W.length := by omega
    rw [hkW, List.getElem?_append_right (Nat.le_refl _), Nat.sub_self] at hz
    cases hz
    rcases hy with hy | ⟨x, hx, he⟩
    · rw [hy] at hkW; simp at hkW; omega
    · obtain ⟨j, hj⟩ := List.mem_iff_getElem?.1 hx
      have := (List.getElem?_eq_some_iff.1 hj).1
      exact ⟨j, x, by omega, by rw [List.getElem?_append_left this]; exact hj, he⟩
theorem disc_add {E : List Edg} {W : List Int} {y : Int} (h : Disc E W) (hy : y ∈ W ∨ W = [] ∨ ∃ x ∈ W, turn ⟨x, y⟩ ∈ E) : Disc E (addN W y) := by
  unfold addN
  split
  · exact h
  · rename_i hn
    exact disc_snoc h (hy.resolve_left hn)
theorem disc_link {G : Gr} (hG : G.Ok) {l : List Int} (h : linkedV (lnGr G) l = true) : ∀ k : Nat, k ≤ l.length → Disc (endsOf G.edges l) (vertsOf (endsOf G.edges (l.take k))) := by
  intro k
  induction k with
  | zero => intro _ k y hk hy; simp [endsOf, vertsOf] at hy
  | succ k ih =>
    intro hk
    have ih := ih (by omega)
    have hx := List.getElem?_eq_getElem (l := l) (i := k) (by omega)
    generalize l[k]'(by omega) = v at hx
    obtain ⟨⟨h1, h2⟩, h3⟩ := good_link h (k + 1) k v (by omega) hx
    obtain ⟨m, rfl⟩ := Int.eq_ofNat_of_zero_le h1
    have hml : m < G.edges.length := by omega
    have he := List.getElem?_eq_getElem hml
    generalize G.edges[m] = x at he
    have hl := linkN_pre h hx
    rw [linkAt_good he h3 (good_link h k)] at hl
    rw [List.take_add_one, hx, Option.toList_some, endsOf_in he, vertsOf_snoc]
    have hxE : x ∈ endsOf G.edges l := mem_endsOf.2 ⟨m, List.mem_of_getElem? hx, he⟩
    have hab := (hG.edge x (List.mem_of_getElem? he)).2.1
    have t1 : turn ⟨x.a, x.b⟩ ∈ endsOf G.edges l := by rw [turn_lt (by omega)]; exact hxE
    have t2 : turn ⟨x.b, x.a⟩ ∈ endsOf G.edges l := by rw [turn_comm]; exact t1
    simp only [Bool.or_eq_true, decide_eq_true_eq] at hl
    refine disc_add (disc_add ih ?_) (.inr (.inr ⟨x.a, mem_addN.2 (.inr rfl), t1⟩))
    rcases hl with hl | hl | hl
    · subst hl
      exact .inr (.inl (by simp [endsOf, vertsOf]))
    · exact .inl hl
    · exact .inr (.inr ⟨x.b, hl, t2⟩)
theorem stepM_mono {m k : Nat} (e : Edg) (h : m.testBit k = true) : (stepM m e).testBit k = true := by
  unfold stepM
  split
  · rw [Nat.testBit_or, h, Bool.true_or]
  · exact h
theorem foldM_mono {k : Nat} : ∀ {E : List Edg} {m : Nat}, m.testBit k = true → (E.foldl stepM m).testBit k = true
  | [], _, h => h
  | e :: E, _, h => foldM_mono (E := E) (stepM_mono e h)
theorem foldM_edge {E : List Edg} {m : Nat} {e : Edg} (he : e ∈ E) (h : m.testBit e.a.toNat = true) : (E.foldl stepM m).testBit e.b.toNat = true := by
  obtain ⟨A, B, rfl⟩ := List.append_of_mem he
  rw [List.foldl_append, List.foldl_cons]
  refine foldM_mono ?_
  have h1 : (A.foldl stepM m).testBit e.a.toNat = true := foldM_mono h
  unfold stepM
  rw [if_pos (.inl h1), Nat.testBit_or, Nat.testBit_or, Nat.testBit_two_pow_self]; simp
theorem seen_full {n : Nat} {p : Pt} (hp : PtOk n p) (hn : 0 < n) (hd : ∀ k, 1 ≤ k → k < n → ∃ j, j < k ∧ phOf p j k = true) : seenM p.edges n = 2 ^ n - 1 := by
  have key : ∀ r k, k ≤ r → k < n → (seenM p.edges r).testBit k = true := by
    intro r
    induction r with
    | zero =>
      intro k hk _
      rw [show k = 0 by omega]
      show (1 : Nat).testBit 0 = true
      decide
    | succ r ih =>
      intro k hk hkn
      show (p.edges.foldl stepM (seenM p.edges r)).testBit k = true
      by_cases hkr : k ≤ r
      · exact foldM_mono (ih k hkr hkn)
      · obtain ⟨j, hj, hph⟩ := hd k (by omega) hkn
        unfold phOf at hph
        rw [turn_lt (by omega)] at hph
        have := foldM_edge (m := seenM p.edges r) (of_decide_eq_true hph) (by show (seenM p.edges r).testBit (j : Int).toNat = true; rw [Int.toNat_natCast]; exact ih j (by omega) (by omega))
        simpa using this
  have hlt := seenM_lt (n := n) (E := p.edges) hn (fun e he => by have := hp.edge e he; omega) n
  refine Nat.eq_of_testBit_eq fun i => ?_
  rw [Nat.testBit_two_pow_sub_one]
  by_cases hi : i < n
  · rw [key n i (by omega) hi, decide_eq_true hi]
  · rw [decide_eq_false hi]
    exact Nat.testBit_lt_two_pow (Nat.lt_of_lt_of_le hlt (Nat.pow_le_pow_right (by decide) (by omega)))
theorem ends_full {E : List Edg} : ∀ {l : List Int}, (∀ u ∈ l, 0 ≤ u ∧ u < E.length) → (endsOf E l).length = l.length
  | [], _ => rfl
  | u :: l, h => by
    have h1 := h u (by simp)
    obtain ⟨m, rfl⟩ := Int.eq_ofNat_of_zero_le h1.1
    have hx := List.getElem?_eq_getElem (l := E) (i := m) (by omega)
    have ih := ends_full (l := l) fun v hv => h v (by simp [hv])
    unfold endsOf at ih ⊢
    rw [List.filterMap_cons_some (b := E[m]'(by omega)) (by rw [if_pos h1, Int.toNat_natCast]; exact hx), List.length_cons, List.length_cons, ih]
theorem ends_rev {E : List Edg} {l : List Int} (e : Edg) : e ∈ endsOf E l.reverse ↔ e ∈ endsOf E l := by
  rw [mem_endsOf, mem_endsOf]
  simp only [List.mem_reverse]
theorem link_rev2 {G : Gr} {a b : Int} (h : linkedV G [a, b] = true) : linkedV G [b, a] = true := by
  have h1 := linkAt_iff.1 (linkedV_at h (i := 0) (v := a) rfl)
  have h2 := linkAt_iff.1 (linkedV_at h (i := 1) (v := b) rfl)
  refine linkedV_yes fun i v hi => ?_
  match i with
  | 0 =>
    simp at hi; subst hi
    exact linkAt_iff.2 ⟨h2.1, by simp, .inl rfl⟩
  | 1 =>
    simp at hi; subst hi
    have hne : a ≠ b := fun e => by subst e; exact h2.2.1 (by simp)
    refine linkAt_iff.2 ⟨h1.1, by simp [hne], .inr ?_⟩
    have := h2.2.2
    simp at this ⊢
    unfold besP at this ⊢
    rw [turn_comm]; exact this
  | i + 2 => simp at hi
theorem link_rev {G : Gr} {l : List Int} (h : linkedV G l = true) (h2 : l.length ≤ 2) : linkedV G l.reverse = true := by
  match l with
  | [] => exact h
  | [a] => exact h
  | [a, b] => exact link_rev2 h
  | a :: b :: c :: l => simp at h2
end Go.Gr
end

section
/- ref06: Add, Of. · vert: what no graph tells. -/
namespace Go.Proofs.YteigfapjiekdnaaGreatDoor
open Go.Sx Go.RowKit Go.Reg Go.Gr

set_option maxRecDepth 100000
theorem add_spec {s : List Int} {n : Int} {k : Nat} (hs : s.Pairwise (· < ·)) (h1 : ∀ y ∈ s.take k, y < n) (h2 : ∀ y ∈ s.drop k, n < y) :
    ((s.take k ++ [n]) ++ s.drop k).Pairwise (· < ·) ∧ (∀ x, x ∈ (s.take k ++ [n]) ++ s.drop k ↔ x = n ∨ x ∈ s) ∧ ((s.take k ++ [n]) ++ s.drop k).length ≤ s.length + 1 := by
  refine ⟨?_, fun x => ?_, ?_⟩
  · rw [List.pairwise_append, List.pairwise_append]
    refine ⟨⟨hs.sublist (List.take_sublist _ _), by simp, fun a ha b hb => ?_⟩, hs.sublist (List.drop_sublist _ _), fun a ha b hb => ?_⟩
    · rw [List.mem_singleton] at hb; subst hb; exact h1 a ha
    · have := h2 b hb
      rcases List.mem_append.1 ha with ha | ha
      · have := h1 a ha; omega
      · rw [List.mem_singleton] at ha; omega
  · have : x ∈ s ↔ x ∈ s.take k ∨ x ∈ s.drop k := by rw [← List.mem_append, List.take_append_drop]
    rw [this]
    simp only [List.mem_append, List.mem_singleton]
    constructor
    · rintro ((h | h) | h)
      · exact .inr (.inl h)
      · exact .inl h
      · exact .inr (.inr h)
    · rintro (h | h | h)
      · exact .inl (.inr h)
      · exact .inl (.inl h)
      · exact .inr h
  · simp only [List.length_append, List.length_take, List.length_drop, List.length_singleton]; omega
def pl_r6a : List (Nat × Plan) := []
def G_r6a : List FuncId := [17]
theorem cok_r6a : codeOk Tryz.prog G_r6a pl_r6a (Tryz.f98.body.getD .skip) = true := by kernel_rfl
theorem run_r6a (vs : Array Value) (w : World) : (callFunc 98 vs).run C1.P w = .ok (.enter 98 vs) w := by kernel_rfl
theorem add06_pure (s : List Int) (n : Int) (hs : s.Pairwise (· < ·)) (hl : s.length ≤ 4294967295) : Pure C1 98 [dIs s, .int .i64 n] (fun y => ∃ t : List Int, y = dIs t ∧ t.Pairwise (· < ·) ∧ (∀ x, x ∈ t ↔ x = n ∨ x ∈ s) ∧ t.length ≤ s.length + 1) := by
  have hsl : (s.map dI).length = s.length := List.length_map _
  have hh := has06_pure s n
  refine pure_of c1_ok (pl := pl_r6a) (G := G_r6a) Tryz.func98 rfl Tryz.ntmps98 run_r6a cok_r6a (by simp) ?_
  by_cases hn : n ∈ s
  · rw [decide_eq_true hn] at hh
    (conv => whnf)
    (repeat' ((first | refine ord_ok (by (conv => whnf); (repeat' ((first | refine call_eq rfl hh ?_ | refine ify ?_ | refine ifn ?_ | refine i6 ?_ | refine ati ?_ | refine mst ?_ | refine rmd ?_ | refine ibo (fun _ => ?_) (fun _ => ?_)) <;> conv => whnf)); (all_goals (repeat' (first | exact trivial | exact rfl | refine And.intro ?_ ?_)))) ?_ | refine call_eq rfl hh ?_ | refine ify ?_ | refine ifn ?_ | refine i6 ?_ | refine ati ?_ | refine mst ?_ | refine rmd ?_ | refine ibo (fun _ => ?_) (fun _ => ?_)) <;> conv => whnf))
    exact ⟨s, rfl, hs, fun x => ⟨.inr, fun h => h.elim (fun e => e ▸ hn) id⟩, by omega⟩
  · rw [decide_eq_false hn] at hh
    (conv => whnf)
    (repeat' ((first | refine ord_ok (by (conv => whnf); (repeat' ((first | refine call_eq rfl hh ?_ | refine ify ?_ | refine ifn ?_ | refine i6 ?_ | refine ati ?_ | refine mst ?_ | refine rmd ?_ | refine ibo (fun _ => ?_) (fun _ => ?_)) <;> conv => whnf)); (all_goals (repeat' (first | exact trivial | exact rfl | refine And.intro ?_ ?_)))) ?_ | refine call_eq rfl hh ?_ | refine ify ?_ | refine ifn ?_ | refine i6 ?_ | refine ati ?_ | refine mst ?_ | refine rmd ?_ | refine ibo (fun _ => ?_) (fun _ => ?_)) <;> conv => whnf))
    refine loop_lo (ι := Nat) (fun k => k ≤ s.length ∧ ∀ y ∈ s.take k, y < n) (fun k => [(5, .d (.int .i64 k)), (1, .d (.int .i64 n)), (0, .d (dIs s))]) (fun _ => []) (fun k => s.length - k) 0 (fun _ => rfl) ⟨Nat.zero_le _, by simp⟩ (.refl _ _) ⟨rfl, rfl, rfl, trivial⟩ trivial ?_
    rintro k ⟨hk, hlo⟩
    refine sxCode_sound c1_ok (G := G_r6a) (pl := pl_r6a) _ _ _ _ (by kernel_rfl) ?_
    have hfin : ((s.map dI).take k ++ [.int .i64 n]) ++ (s.map dI).drop k = ((s.take k ++ [n]) ++ s.drop k).map dI := by
      rw [List.map_append, List.map_append, List.map_take, List.map_drop]; rfl
    by_cases hlt : k < s.length
    · have hx := List.getElem?_eq_getElem hlt
      have hxm := List.getElem_mem hlt
      have hge : ∀ y ∈ s.drop k, s[k] ≤ y := by
        intro y hy
        obtain ⟨j, hj, rfl⟩ := List.mem_drop_iff_getElem.1 hy
        rcases Nat.eq_zero_or_pos j with e | e
        · subst e; simp
        · have := List.pairwise_iff_getElem.1 hs k (k + j) hlt (by omega) (by omega); omega
      generalize s[k] = x at hx hxm hge
      have hxd : (s.map dI)[k]? = some (.int .i64 x) := by rw [List.getElem?_map, hx]; rfl
      by_cases hxn : x < n
      · (conv => whnf)
        (repeat' ((first | refine ord_ok (by (conv => whnf); (repeat' ((first | refine at_da hxd rfl ?_ | refine ify ?_ | refine ifn ?_ | refine i6 ?_ | refine ati ?_ | refine mst ?_ | refine rmd ?_ | refine ibo (fun _ => ?_) (fun _ => ?_)) <;> conv => whnf)); (all_goals (repeat' (first | exact trivial | exact rfl | refine And.intro ?_ ?_)))) ?_ | refine at_da hxd rfl ?_ | refine ify ?_ | refine ifn ?_ | refine i6 ?_ | refine ati ?_ | refine mst ?_ | refine rmd ?_ | refine ibo (fun _ => ?_) (fun _ => ?_)) <;> conv => whnf))
        refine ⟨k + 1, _, _, ⟨hlt, ?_⟩, .refl _ _, ⟨rfl, rfl, rfl, trivial⟩, trivial, by omega⟩
        intro y hy
        rw [List.take_add_one, hx] at hy
        rcases List.mem_append.1 hy with hy | hy
        · exact hlo y hy
        · simp at hy; subst hy; exact hxn
      · have hne : x ≠ n := fun e => hn (e ▸ hxm)
        obtain ⟨g1, g2, g3⟩ := add_spec hs hlo (fun y hy => by have := hge y hy; omega)
        (conv => whnf)
        (repeat' ((first | refine ord_ok (by (conv => whnf); (repeat' ((first | refine at_da hxd rfl ?_ | refine sl_is k rfl (by omega) ?_ | refine hi_is rfl (show k ≤ (s.map dI).length by omega) ?_ | refine ify ?_ | refine ifn ?_ | refine i6 ?_ | refine ati ?_ | refine mst ?_ | refine rmd ?_ | refine ibo (fun _ => ?_) (fun _ => ?_)) <;> conv => whnf)); (all_goals (repeat' (first | exact trivial | exact rfl | refine And.intro ?_ ?_)))) ?_ | refine at_da hxd rfl ?_ | refine sl_is k rfl (by omega) ?_ | refine hi_is rfl (show k ≤ (s.map dI).length by omega) ?_ | refine ify ?_ | refine ifn ?_ | refine i6 ?_ | refine ati ?_ | refine mst ?_ | refine rmd ?_ | refine ibo (fun _ => ?_) (fun _ => ?_)) <;> conv => whnf))
        exact ⟨_, congrArg (Da.list 1) hfin, g1, g2, g3⟩
    · have hke : k = s.length := by omega
      obtain ⟨g1, g2, g3⟩ := add_spec hs hlo (fun y hy => by rw [hke, List.drop_length] at hy; cases hy)
      (conv => whnf)
      (repeat' ((first | refine ord_ok (by (conv => whnf); (repeat' ((first | refine sl_is k rfl (by omega) ?_ | refine hi_is rfl (show k ≤ (s.map dI).length by omega) ?_ | refine ify ?_ | refine ifn ?_ | refine i6 ?_ | refine ati ?_ | refine mst ?_ | refine rmd ?_ | refine ibo (fun _ => ?_) (fun _ => ?_)) <;> conv => whnf)); (all_goals (repeat' (first | exact trivial | exact rfl | refine And.intro ?_ ?_)))) ?_ | refine sl_is k rfl (by omega) ?_ | refine hi_is rfl (show k ≤ (s.map dI).length by omega) ?_ | refine ify ?_ | refine ifn ?_ | refine i6 ?_ | refine ati ?_ | refine mst ?_ | refine rmd ?_ | refine ibo (fun _ => ?_) (fun _ => ?_)) <;> conv => whnf))
      exact ⟨_, congrArg (Da.list 1) hfin, g1, g2, g3⟩
def pl_r6o : List (Nat × Plan) := []
def G_r6o : List FuncId := [98]
theorem cok_r6o : codeOk Tryz.prog G_r6o pl_r6o (Tryz.f44.body.getD .skip) = true := by kernel_rfl
theorem run_r6o (vs : Array Value) (w : World) : (callFunc 44 vs).run C1.P w = .ok (.enter 44 vs) w := by kernel_rfl
theorem of06_pure (l : List Int) (hl : l.length ≤ 1000000) : Pure C1 44 [dIs l] (fun y => y = dIs (setOf l)) := by
  have hll : (l.map dI).length = l.length := List.length_map _
  refine pure_of c1_ok (pl := pl_r6o) (G := G_r6o) Tryz.func44 rfl Tryz.ntmps44 run_r6o cok_r6o (by simp) ?_
  ((conv => whnf); repeat' ((first | refine odw ?_ | refine ify ?_ | refine ifn ?_ | refine i6 ?_ | refine ati ?_ | refine mst ?_ | refine rmd ?_ | refine ibo (fun _ => ?_) (fun _ => ?_)) <;> conv => whnf))
  refine loop_lo (ι := Nat × List Int) (fun x => (x.1 ≤ l.length ∧ x.2.length ≤ x.1) ∧ x.2.Pairwise (· < ·) ∧ ∀ y, y ∈ x.2 ↔ y ∈ l.take x.1) (fun x => [(4, .d (.int .i64 (x.1 : Nat))), (3, .d (dIs x.2)), (0, .d (dIs l))]) (fun _ => []) (fun x => l.length - x.1) (0, []) (fun _ => rfl)
    ⟨⟨Nat.zero_le _, Nat.le_refl _⟩, List.Pairwise.nil, by simp⟩ (.lax 3 rfl (.nils 1) (.refl _ _)) ⟨rfl, rfl, rfl, trivial⟩ trivial ?_
  rintro ⟨i, s⟩ ⟨⟨hi, hsl⟩, hr, hm⟩
  dsimp only at hi hsl hr hm
  refine sxCode_sound c1_ok (G := G_r6o) (pl := pl_r6o) _ _ _ _ (by kernel_rfl) ?_
  by_cases hlt : i < l.length
  · have hx := List.getElem?_eq_getElem hlt
    generalize l[i] = x at hx
    have hxd : (l.map dI)[i]? = some (.int .i64 x) := by rw [List.getElem?_map, hx]; rfl
    (conv => whnf)
    (repeat' ((first | refine ord_ok (by (conv => whnf); (repeat' ((first | refine at_da hxd rfl ?_ | refine ify ?_ | refine ifn ?_ | refine i6 ?_ | refine ati ?_ | refine mst ?_ | refine rmd ?_ | refine ibo (fun _ => ?_) (fun _ => ?_)) <;> conv => whnf)); (all_goals (repeat' (first | exact trivial | exact rfl | refine And.intro ?_ ?_)))) ?_ | refine at_da hxd rfl ?_ | refine ify ?_ | refine ifn ?_ | refine i6 ?_ | refine ati ?_ | refine mst ?_ | refine rmd ?_ | refine ibo (fun _ => ?_) (fun _ => ?_)) <;> conv => whnf))
    refine call_pure rfl (add06_pure s x hr (by omega)) ?_
    rintro y ⟨t, rfl, h1, h2, h3⟩
    ((conv => whnf); repeat' ((first | refine odw ?_ | refine ify ?_ | refine ifn ?_ | refine i6 ?_ | refine ati ?_ | refine mst ?_ | refine rmd ?_ | refine ibo (fun _ => ?_) (fun _ => ?_)) <;> conv => whnf))
    refine ⟨(i + 1, t), _, _, ⟨⟨hlt, by dsimp only; omega⟩, h1, fun y => ?_⟩, .refl _ _, ⟨rfl, rfl, rfl, trivial⟩, trivial, by dsimp only; omega⟩
    dsimp only
    rw [h2, hm, List.take_add_one, hx, Option.toList_some, List.mem_append, List.mem_singleton]
    exact or_comm
  · have hii : l.take i = l := List.take_of_length_le (by omega)
    rw [hii] at hm
    have he : s = setOf l := rise_eq hr (setOf_spec l).1 fun x => by rw [hm, (setOf_spec l).2]
    ((conv => whnf); repeat' ((first | refine odw ?_ | refine ify ?_ | refine ifn ?_ | refine i6 ?_ | refine ati ?_ | refine mst ?_ | refine rmd ?_ | refine ibo (fun _ => ?_) (fun _ => ?_)) <;> conv => whnf))
    rw [he]
    exact rfl
end Go.Proofs.YteigfapjiekdnaaGreatDoor
end

section
/- law12: QuickForms: the walk. -/
namespace Go.Proofs.YteigfapjiekdnaaGreatDoor
open Go.Sx Go.RowKit Go.Reg Go.Gr

set_option maxRecDepth 100000
theorem any_snoc {A : List (List Int)} {l : List Int} {i : Nat} {x : List Int} (h : A[i]? = some x) : ((A.take (i + 1)).any fun y => decide (y = l)) = (((A.take i).any fun y => decide (y = l)) || decide (x = l)) := by
  rw [List.take_add_one, h, List.any_append]; simp
theorem any_mem {A : List (List Int)} {l : List Int} (h : l ∈ A) : (A.any fun y => decide (y = l)) = true := List.any_eq_true.2 ⟨l, h, decide_eq_true rfl⟩
end Go.Proofs.YteigfapjiekdnaaGreatDoor
end

section
/- law12: QuickEdges: the walk. -/
namespace Go.Proofs.YteigfapjiekdnaaGreatDoor
open Go.Sx Go.RowKit Go.Reg Go.Gr

set_option maxRecDepth 100000
theorem rev_at {l : List Int} {i : Nat} (h : i < l.length) : ∃ x, l[l.length - 1 - i]? = some x ∧ l.reverse.take (i + 1) = l.reverse.take i ++ [x] := by
  have hx := List.getElem?_eq_getElem (l := l) (i := l.length - 1 - i) (by omega)
  refine ⟨_, hx, ?_⟩
  rw [List.take_add_one, List.getElem?_reverse (by omega), hx]; rfl
def pl_qet : List (Nat × Plan) := []
def G_qet : List FuncId := [30, 10, 46, 28, 36, 47, 42, 44]
theorem cok_qet : codeOk Tryz.prog G_qet pl_qet (Tryz.f8.body.getD .skip) = true := by kernel_rfl
theorem run_qet (vs : Array Value) (w : World) : (callFunc 8 vs).run C1.P w = .ok (.enter 8 vs) w := by kernel_rfl
set_option maxHeartbeats 16000000 in
theorem qedges_pure (labels : List Int) (edges : List Edg) (l : List Int) : Sx.Pure C3 8 [dIs labels, dEs edges, dIs l] (fun y => y = .bool true) := by
  have hdl : (labels.map dI).length = labels.length := List.length_map _
  have hdL : (l.map dI).length = l.length := List.length_map _
  have hal := qalive_pure
  have hmd := Pure.up3 (made_pure labels edges)
  refine pure_of c3_ok (pl := pl_qet) (G := G_qet) Tryz.func8 rfl Tryz.ntmps8 run_qet cok_qet (by simp) ?_
  rcases made_case labels edges with e | ⟨G, e, hG, hn, hm, hGe, _, hlen⟩
  · rw [e] at hmd
    (conv => whnf)
    (repeat' ((first | refine ord_ok (by (conv => whnf); (repeat' ((first | refine call_eq rfl hal ?_ | refine call_eq rfl hmd ?_ | refine ify ?_ | refine ifn ?_ | refine i6 ?_ | refine ati ?_ | refine mst ?_ | refine rmd ?_ | refine ibo (fun _ => ?_) (fun _ => ?_)) <;> conv => whnf)); (all_goals (repeat' (first | exact trivial | exact rfl | refine And.intro ?_ ?_)))) ?_ | refine call_eq rfl hal ?_ | refine call_eq rfl hmd ?_ | refine ify ?_ | refine ifn ?_ | refine i6 ?_ | refine ati ?_ | refine mst ?_ | refine rmd ?_ | refine ibo (fun _ => ?_) (fun _ => ?_)) <;> conv => whnf))
    exact rfl
  rw [e] at hmd
  by_cases h7 : 7 < labels.length
  · (conv => whnf)
    (repeat' ((first | refine ord_ok (by (conv => whnf); (repeat' ((first | refine call_eq rfl hal ?_ | refine call_eq rfl hmd ?_ | refine ify ?_ | refine ifn ?_ | refine i6 ?_ | refine ati ?_ | refine mst ?_ | refine rmd ?_ | refine ibo (fun _ => ?_) (fun _ => ?_)) <;> conv => whnf)); (all_goals (repeat' (first | exact trivial | exact rfl | refine And.intro ?_ ?_)))) ?_ | refine call_eq rfl hal ?_ | refine call_eq rfl hmd ?_ | refine ify ?_ | refine ifn ?_ | refine i6 ?_ | refine ati ?_ | refine mst ?_ | refine rmd ?_ | refine ibo (fun _ => ?_) (fun _ => ?_)) <;> conv => whnf))
    exact rfl
  by_cases h0 : l.length = 0
  · (conv => whnf)
    (repeat' ((first | refine ord_ok (by (conv => whnf); (repeat' ((first | refine call_eq rfl hal ?_ | refine call_eq rfl hmd ?_ | refine ify ?_ | refine ifn ?_ | refine i6 ?_ | refine ati ?_ | refine mst ?_ | refine rmd ?_ | refine ibo (fun _ => ?_) (fun _ => ?_)) <;> conv => whnf)); (all_goals (repeat' (first | exact trivial | exact rfl | refine And.intro ?_ ?_)))) ?_ | refine call_eq rfl hal ?_ | refine call_eq rfl hmd ?_ | refine ify ?_ | refine ifn ?_ | refine i6 ?_ | refine ati ?_ | refine mst ?_ | refine rmd ?_ | refine ibo (fun _ => ?_) (fun _ => ?_)) <;> conv => whnf))
    exact rfl
  by_cases h3 : 3 < l.length
  · (conv => whnf)
    (repeat' ((first | refine ord_ok (by (conv => whnf); (repeat' ((first | refine call_eq rfl hal ?_ | refine call_eq rfl hmd ?_ | refine ify ?_ | refine ifn ?_ | refine i6 ?_ | refine ati ?_ | refine mst ?_ | refine rmd ?_ | refine ibo (fun _ => ?_) (fun _ => ?_)) <;> conv => whnf)); (all_goals (repeat' (first | exact trivial | exact rfl | refine And.intro ?_ ?_)))) ?_ | refine call_eq rfl hal ?_ | refine call_eq rfl hmd ?_ | refine ify ?_ | refine ifn ?_ | refine i6 ?_ | refine ati ?_ | refine mst ?_ | refine rmd ?_ | refine ibo (fun _ => ?_) (fun _ => ?_)) <;> conv => whnf))
    exact rfl
  have edge_of : ∀ {t : List Int}, t.length = l.length → linkedV (lnGr G) t = true → (vertsOf (endsOf G.edges t)).length ≤ 6 ∧ Sx.Pure C3 46 [dG G, dIs t] (fun y => y = .tuple [dPt (eP G (endsOf G.edges t) (vertsOf (endsOf G.edges t))), dIs (vertsOf (endsOf G.edges t)), .nili]) := by
    intro t ht hl
    have h1 := vertsOf_len (endsOf G.edges t)
    have h2 := endsOf_len G.edges t
    refine ⟨by omega, ?_⟩
    have hq := Pure.up3 (qedge_pure G hG t (by omega))
    rw [show edgeQ G t = .tuple [dPt (eP G (endsOf G.edges t) (vertsOf (endsOf G.edges t))), dIs (vertsOf (endsOf G.edges t)), .nili] by
      unfold edgeQ
      rw [if_neg (by rw [hl]; decide), if_neg (by omega)]; rfl] at hq
    exact hq
  have edge_no : ∀ {t : List Int}, t.length = l.length → linkedV (lnGr G) t = false → Sx.Pure C3 46 [dG G, dIs t] (fun y => y = .tuple [dP0, .nils, dF 2 0 listS]) := by
    intro t ht hl
    have hq := Pure.up3 (qedge_pure G hG t (by omega))
    rw [show edgeQ G t = .tuple [dP0, .nils, dF 2 0 listS] by unfold edgeQ; rw [if_pos hl]] at hq
    exact hq
  cases hl : linkedV (lnGr G) l with
  | false =>
    have hq := edge_no rfl hl
    (conv => whnf)
    (repeat' ((first | refine ord_ok (by (conv => whnf); (repeat' ((first | refine call_eq rfl hal ?_ | refine call_eq rfl hmd ?_ | refine call_eq rfl hq ?_ | refine ify ?_ | refine ifn ?_ | refine i6 ?_ | refine ati ?_ | refine mst ?_ | refine rmd ?_ | refine ibo (fun _ => ?_) (fun _ => ?_)) <;> conv => whnf)); (all_goals (repeat' (first | exact trivial | exact rfl | refine And.intro ?_ ?_)))) ?_ | refine call_eq rfl hal ?_ | refine call_eq rfl hmd ?_ | refine call_eq rfl hq ?_ | refine ify ?_ | refine ifn ?_ | refine i6 ?_ | refine ati ?_ | refine mst ?_ | refine rmd ?_ | refine ibo (fun _ => ?_) (fun _ => ?_)) <;> conv => whnf))
    exact rfl
  | true =>
  obtain ⟨hV6, hq⟩ := edge_of rfl hl
  have hE : ∀ e ∈ endsOf G.edges l, e.a < e.b := fun e he => (hG.edge e (ends_mem e he)).2.1
  have hEn := ends_nodup hG.sorted.nodup (l := l) (link_nodup hl)
  obtain ⟨hVn, hVm⟩ := vertsOf_spec (endsOf G.edges l)
  have hin : ∀ e ∈ endsOf G.edges l, e.a ∈ vertsOf (endsOf G.edges l) ∧ e.b ∈ vertsOf (endsOf G.edges l) := fun e he => ⟨(hVm _).2 ⟨e, he, .inl rfl⟩, (hVm _).2 ⟨e, he, .inr rfl⟩⟩
  have hVr : ∀ x ∈ vertsOf (endsOf G.edges l), 0 ≤ x ∧ x < (G.labels.length : Int) := fun x hx => by
    obtain ⟨e, he, h⟩ := (hVm x).1 hx
    obtain ⟨g1, g2, g3⟩ := hG.edge e (ends_mem e he)
    rcases h with rfl | rfl <;> omega
  have hgr := good_range (good_link hl l.length)
  rw [List.take_length] at hgr
  have hEl := ends_full hgr
  have hml := eP_len hE hEn hVn hin
  have hdc := disc_link hG hl l.length (Nat.le_refl _)
  rw [List.take_length] at hdc
  have hVpos : 0 < (vertsOf (endsOf G.edges l)).length := by
    have hx := List.getElem_mem (l := endsOf G.edges l) (n := 0) (by omega)
    exact List.length_pos_of_mem (hin _ hx).1
  have hI := mem_imgP.2 (eP_img (G := G) hE ends_mem hVn hVr)
  have hp := eP_err hG (E := endsOf G.edges l) (show (vertsOf (endsOf G.edges l)).length ≤ 8 by omega) hVr
  have hpo := eP_ok G (endsOf G.edges l) (n := (vertsOf (endsOf G.edges l)).length) rfl
  have hpl : (eP G (endsOf G.edges l) (vertsOf (endsOf G.edges l))).labels.length = (vertsOf (endsOf G.edges l)).length := hpo.len
  have hpe : (eP G (endsOf G.edges l) (vertsOf (endsOf G.edges l))).edges.length = l.length := by show (madeE _ _).length = _; rw [hml, hEl]
  have hsn := seen_full hpo hVpos (fun k hk hkn => by
    have hy := List.getElem?_eq_getElem hkn
    obtain ⟨j, x, hj, hx, he⟩ := hdc k _ hk hy
    exact ⟨j, hj, by rw [eP_ph hE (by omega) hx hy]; exact decide_eq_true he⟩)
  have hpne : (eP G (endsOf G.edges l) (vertsOf (endsOf G.edges l))).labels ≠ [] := fun e => by rw [e] at hpl; simp at hpl; omega
  have hcn := Pure.up3 (conn_pure hp hpne (by rw [hpl]; exact hsn))
  have hEp := pt_edges hp
  have him : Sx.Pure C3 28 [dG G, dPt (eP G (endsOf G.edges l) (vertsOf (endsOf G.edges l))), .bool false] (fun y => y = dLL (imgP G (eP G (endsOf G.edges l) (vertsOf (endsOf G.edges l))) false)) := by
    have := Pure.up3 (qimages_pure G hG (eP G (endsOf G.edges l) (vertsOf (endsOf G.edges l))) false hn (by omega) (by omega))
    rw [show imagesY G (eP G (endsOf G.edges l) (vertsOf (endsOf G.edges l))) false = dLL (imgP G (eP G (endsOf G.edges l) (vertsOf (endsOf G.edges l))) false) by
      unfold imagesY; rw [if_pos ⟨hp, hpne⟩]; rfl] at this
    exact this
  have hAl : (imgP G (eP G (endsOf G.edges l) (vertsOf (endsOf G.edges l))) false).length ≤ 100000000 := Nat.le_trans (imgs_len _ _) (pow_le8 hn (by omega))
  have hback : (linkedV (lnGr G) l.reverse = false ∧ 2 < l.length ∧ Sx.Pure C3 46 [dG G, dIs l.reverse] (fun y => y = .tuple [dP0, .nils, dF 2 0 listS])) ∨
      ∃ (q : Pt) (u : List Int), Sx.Pure C3 46 [dG G, dIs l.reverse] (fun y => y = .tuple [dPt q, dIs u, .nili]) ∧ Sx.Pure C3 42 [dPt (eP G (endsOf G.edges l) (vertsOf (endsOf G.edges l))), dPt q] (fun y => y = .bool true) ∧ u.length ≤ 6 ∧ setOf u = setOf (vertsOf (endsOf G.edges l)) := by
    cases hr : linkedV (lnGr G) l.reverse with
    | false =>
      refine .inl ⟨rfl, ?_, edge_no (by simp) hr⟩
      rcases Nat.lt_or_ge 2 l.length with h | h
      · exact h
      · rw [link_rev hl h] at hr; cases hr
    | true =>
      obtain ⟨h1, h2⟩ := edge_of (t := l.reverse) (by simp) hr
      obtain ⟨hUn, hUm⟩ := vertsOf_spec (endsOf G.edges l.reverse)
      have hmem : ∀ x, x ∈ vertsOf (endsOf G.edges l.reverse) ↔ x ∈ vertsOf (endsOf G.edges l) := fun x => by
        rw [hUm, hVm]
        exact ⟨fun ⟨e, he, h⟩ => ⟨e, (ends_rev e).1 he, h⟩, fun ⟨e, he, h⟩ => ⟨e, (ends_rev e).2 he, h⟩⟩
      have hle1 := nodup_le hUn fun x hx => (hmem x).1 hx
      have hle2 := nodup_le hVn fun x hx => (hmem x).2 hx
      obtain ⟨o, ho, hoe⟩ := perm_order hVn (perm_of_sub hUn (fun x hx => (hmem x).1 hx) hle2) rfl
      have hqe : eP G (endsOf G.edges l.reverse) (vertsOf (endsOf G.edges l.reverse)) = turnP (eP G (endsOf G.edges l) (vertsOf (endsOf G.edges l))) o := by
        rw [eP_same ends_rev, ← hoe]
        exact eP_turn hE ho rfl
      have hqr := eP_err hG (E := endsOf G.edges l.reverse) (show (vertsOf (endsOf G.edges l.reverse)).length ≤ 8 by omega) fun x hx => hVr x ((hmem x).1 hx)
      have hEq := pt_edges hqr
      have hak := Pure.up3 (alike_pure hp hqr (by omega) (by omega))
      rw [decide_eq_true (by rw [hqe, form_turn hpo ho])] at hak
      exact .inr ⟨_, _, h2, hak, h1, rise_eq (setOf_spec _).1 (setOf_spec _).1 fun x => by rw [(setOf_spec _).2, (setOf_spec _).2]; exact hmem x⟩
  have o1 := Pure.up3 (of06_pure (vertsOf (endsOf G.edges l)) (by omega))
  generalize vertsOf (endsOf G.edges l) = V at *
  generalize eP G (endsOf G.edges l) V = P at *
  generalize imgP G P false = A at him hAl hI
  have lA : (A.map dIs).length = A.length := List.length_map _
  have lV : (V.map dI).length = V.length := List.length_map _
  have lPl : (P.labels.map dI).length = P.labels.length := List.length_map _
  have lPe : (P.edges.map dE).length = P.edges.length := List.length_map _
  (conv => whnf)
  (repeat' ((first | refine ord_ok (by (conv => whnf); (repeat' ((first | refine call_eq rfl hal ?_ | refine call_eq rfl hmd ?_ | refine call_eq rfl hq ?_ | refine call_eq rfl him ?_ | refine ify ?_ | refine ifn ?_ | refine i6 ?_ | refine ati ?_ | refine mst ?_ | refine rmd ?_ | refine ibo (fun _ => ?_) (fun _ => ?_)) <;> conv => whnf)); (all_goals (repeat' (first | exact trivial | exact rfl | refine And.intro ?_ ?_)))) ?_ | refine call_eq rfl hal ?_ | refine call_eq rfl hmd ?_ | refine call_eq rfl hq ?_ | refine call_eq rfl him ?_ | refine ify ?_ | refine ifn ?_ | refine i6 ?_ | refine ati ?_ | refine mst ?_ | refine rmd ?_ | refine ibo (fun _ => ?_) (fun _ => ?_)) <;> conv => whnf))
  refine loop_lo (ι := Nat) (fun i => i ≤ A.length) (fun i => [(15, .d (.int .i64 i)), (14, .d (dLL A)), (13, .d (.bool ((A.take i).any fun y => decide (y = V)))), (11, .d (dIs V)), (10, .own 10), (7, .d (dG G)), (2, .d (dIs l))]) (fun _ => [(10, .cells 38 [.d (dIs P.labels), .d (dEs P.edges)])]) (fun i => A.length - i) 0 (fun _ => rfl) (Nat.zero_le _) (.refl _ _) ⟨rfl, rfl, rfl, rfl, rfl, rfl, rfl, trivial⟩ ⟨rfl, trivial⟩ ?_
  intro i hi
  refine sxCode_sound c3_ok (G := G_qet) (pl := pl_qet) _ _ _ _ (by kernel_rfl) ?_
  by_cases hil : i < A.length
  · have hx := List.getElem?_eq_getElem hil
    generalize A[i] = x at hx
    have hxd : (A.map dIs)[i]? = some (dIs x) := by rw [List.getElem?_map, hx]; rfl
    have hsx := Pure.up3 (same_pure x V)
    have hst := any_snoc (l := V) hx
    cases hw : (A.take i).any fun y => decide (y = V) with
    | true =>
      rw [hw, Bool.true_or] at hst
      (conv => whnf)
      (repeat' ((first | refine ord_ok (by (conv => whnf); (repeat' ((first | refine at_da hxd rfl ?_ | refine call_eq rfl hsx ?_ | refine ify ?_ | refine ifn ?_ | refine i6 ?_ | refine ati ?_ | refine mst ?_ | refine rmd ?_ | refine ibo (fun _ => ?_) (fun _ => ?_)) <;> conv => whnf)); (all_goals (repeat' (first | exact trivial | exact rfl | refine And.intro ?_ ?_)))) ?_ | refine at_da hxd rfl ?_ | refine call_eq rfl hsx ?_ | refine ify ?_ | refine ifn ?_ | refine i6 ?_ | refine ati ?_ | refine mst ?_ | refine rmd ?_ | refine ibo (fun _ => ?_) (fun _ => ?_)) <;> conv => whnf))
      exact ⟨i + 1, _, _, hil, .refl _ _, ⟨rfl, rfl, by rw [hst]; rfl, rfl, rfl, rfl, rfl, trivial⟩, ⟨rfl, trivial⟩, by omega⟩
    | false =>
      rw [hw, Bool.false_or] at hst
      (conv => whnf)
      (repeat' ((first | refine ord_ok (by (conv => whnf); (repeat' ((first | refine at_da hxd rfl ?_ | refine call_eq rfl hsx ?_ | refine ify ?_ | refine ifn ?_ | refine i6 ?_ | refine ati ?_ | refine mst ?_ | refine rmd ?_ | refine ibo (fun _ => ?_) (fun _ => ?_)) <;> conv => whnf)); (all_goals (repeat' (first | exact trivial | exact rfl | refine And.intro ?_ ?_)))) ?_ | refine at_da hxd rfl ?_ | refine call_eq rfl hsx ?_ | refine ify ?_ | refine ifn ?_ | refine i6 ?_ | refine ati ?_ | refine mst ?_ | refine rmd ?_ | refine ibo (fun _ => ?_) (fun _ => ?_)) <;> conv => whnf))
      exact ⟨i + 1, _, _, hil, .refl _ _, ⟨rfl, rfl, by rw [hst]; rfl, rfl, rfl, rfl, rfl, trivial⟩, ⟨rfl, trivial⟩, by omega⟩
  · rw [List.take_of_length_le (show A.length ≤ i by omega), any_mem hI]
    (conv => whnf)
    (repeat' ((first | refine ord_ok (by (conv => whnf); (repeat' ((first | refine call_eq rfl hcn ?_ | refine ify ?_ | refine ifn ?_ | refine i6 ?_ | refine ati ?_ | refine mst ?_ | refine rmd ?_ | refine ibo (fun _ => ?_) (fun _ => ?_)) <;> conv => whnf)); (all_goals (repeat' (first | exact trivial | exact rfl | refine And.intro ?_ ?_)))) ?_ | refine call_eq rfl hcn ?_ | refine ify ?_ | refine ifn ?_ | refine i6 ?_ | refine ati ?_ | refine mst ?_ | refine rmd ?_ | refine ibo (fun _ => ?_) (fun _ => ?_)) <;> conv => whnf))
    refine loop_lo (ι := Nat) (fun i => i ≤ l.length) (fun i => [(17, .d (.int .i64 i)), (16, .own 300), (11, .d (dIs V)), (10, .own 10), (7, .d (dG G)), (2, .d (dIs l))]) (fun i => [(10, .cells 38 [.d (dIs P.labels), .d (dEs P.edges)]), (300, .slice 3 1 ((l.reverse.take i).map dI))]) (fun i => l.length - i) 0 (fun _ => rfl) (Nat.zero_le _) (.own 16 300 3 1 rfl rfl (.refl _ _)) ⟨rfl, rfl, rfl, rfl, rfl, rfl, trivial⟩ ⟨rfl, rfl, trivial⟩ ?_
    intro j hj
    refine sxCode_sound c3_ok (G := G_qet) (pl := pl_qet) _ _ _ _ (by kernel_rfl) ?_
    by_cases hjl : j < l.length
    · obtain ⟨x, hx, hrv⟩ := rev_at hjl
      have hxd : (l.map dI)[l.length - 1 - j]? = some (.int .i64 x) := by rw [List.getElem?_map, hx]; rfl
      have htl : ((l.reverse.take j).map dI).length = j := by rw [List.length_map, List.length_take, List.length_reverse]; omega
      have hfin : (l.reverse.take j).map dI ++ [.int .i64 x] = (l.reverse.take (j + 1)).map dI := by rw [hrv, List.map_append]; rfl
      generalize (l.reverse.take j).map dI = Z at htl hfin ⊢
      (conv => whnf)
      (repeat' ((first | refine ord_ok (by (conv => whnf); (repeat' ((first | refine at_da hxd (by omega) ?_ | refine ify ?_ | refine ifn ?_ | refine i6 ?_ | refine ati ?_ | refine mst ?_ | refine rmd ?_ | refine ibo (fun _ => ?_) (fun _ => ?_)) <;> conv => whnf)); (all_goals (repeat' (first | exact trivial | exact rfl | refine And.intro ?_ ?_)))) ?_ | refine at_da hxd (by omega) ?_ | refine ify ?_ | refine ifn ?_ | refine i6 ?_ | refine ati ?_ | refine mst ?_ | refine rmd ?_ | refine ibo (fun _ => ?_) (fun _ => ?_)) <;> conv => whnf))
      exact ⟨j + 1, _, _, hjl, .refl _ _, ⟨rfl, rfl, rfl, rfl, rfl, rfl, trivial⟩, ⟨rfl, slice_is hfin, trivial⟩, by omega⟩
    · rw [List.take_of_length_le (show l.reverse.length ≤ j by rw [List.length_reverse]; omega)]
      rcases hback with ⟨_, h2, hb⟩ | ⟨q, u, hb, hak, hu6, hsu⟩
      · (conv => whnf)
        (repeat' ((first | refine ord_ok (by (conv => whnf); (repeat' ((first | refine call_frz 300 rfl ?_ | refine call_eq (xs := [dG G, dIs l.reverse]) rfl hb ?_ | refine ify ?_ | refine ifn ?_ | refine i6 ?_ | refine ati ?_ | refine mst ?_ | refine rmd ?_ | refine ibo (fun _ => ?_) (fun _ => ?_)) <;> conv => whnf)); (all_goals (repeat' (first | exact trivial | exact rfl | refine And.intro ?_ ?_)))) ?_ | refine call_frz 300 rfl ?_ | refine call_eq (xs := [dG G, dIs l.reverse]) rfl hb ?_ | refine ify ?_ | refine ifn ?_ | refine i6 ?_ | refine ati ?_ | refine mst ?_ | refine rmd ?_ | refine ibo (fun _ => ?_) (fun _ => ?_)) <;> conv => whnf))
        exact rfl
      · have o2 := Pure.up3 (of06_pure u (by omega))
        rw [hsu] at o2
        have sm := Pure.up3 (same_pure (setOf V) (setOf V))
        rw [decide_eq_true rfl] at sm
        (conv => whnf)
        (repeat' ((first | refine ord_ok (by (conv => whnf); (repeat' ((first | refine call_frz 300 rfl ?_ | refine call_eq (xs := [dG G, dIs l.reverse]) rfl hb ?_ | refine call_eq rfl hak ?_ | refine call_eq rfl o1 ?_ | refine call_eq rfl o2 ?_ | refine call_eq rfl sm ?_ | refine ify ?_ | refine ifn ?_ | refine i6 ?_ | refine ati ?_ | refine mst ?_ | refine rmd ?_ | refine ibo (fun _ => ?_) (fun _ => ?_)) <;> conv => whnf)); (all_goals (repeat' (first | exact trivial | exact rfl | refine And.intro ?_ ?_)))) ?_ | refine call_frz 300 rfl ?_ | refine call_eq (xs := [dG G, dIs l.reverse]) rfl hb ?_ | refine call_eq rfl hak ?_ | refine call_eq rfl o1 ?_ | refine call_eq rfl o2 ?_ | refine call_eq rfl sm ?_ | refine ify ?_ | refine ifn ?_ | refine i6 ?_ | refine ati ?_ | refine mst ?_ | refine rmd ?_ | refine ibo (fun _ => ?_) (fun _ => ?_)) <;> conv => whnf))
        exact rfl
end Go.Proofs.YteigfapjiekdnaaGreatDoor
end

section
/- What the rows give (quick): the variables, the arguments' elements, a world for the witness. -/
namespace Go.Proofs.YteigfapjiekdnaaGreatDoor
open Go.ChangeShapes Go.WideShapes Go.ChangeAt Go.RowKit Go.Reg Go.Gr Go.Sx Go.ChangeMaps

theorem own : ownKnob Tryz.prog.godebug = none := by kernel_rfl
theorem laidOut : laidOutB Tryz.prog = true := by kernel_rfl
theorem gEt : Tryz.prog.globalNamed "errors.errorType" = some 0 := by kernel_rfl
theorem gRt : (Tryz.prog.cutTypes.find? (·.1 == "internal/reflectlite.rtype")).map (·.2) = some 234 := by kernel_rfl
theorem oneRow : ((List.range Tryz.prog.types.size).filter fun t => Tryz.prog.rowNamed t [101, 114, 114, 111, 114]) = [33] := by kernel_rfl
/-- all that is laid -/
abbrev laidAll : List (String × DataW Unit) := Rows.quickCountsRow.laid
abbrev laidThree : List (String × DataW Unit) := [("math/bits.deBruijn32tab", Rows.laid_math_bits_deBruijn32tab), ("math/bits.deBruijn64tab", Rows.laid_math_bits_deBruijn64tab), ("internal/strconv.uint64pow10", Rows.laid_internal_strconv_uint64pow10)]
theorem laid_parts {W : World} (h : laidMetH Tryz.prog laidAll W) : laidMet Tryz.prog laidThree W ∧ handlesMet Tryz.prog [("errors.errorType", Rows.laid_errors_errorType)] W := h

theorem var_exact {P : Program} {w : World} {name : String} {g : Nat} {cs : Array Value} (h : w.var? P name = some cs) (hg : P.globalNamed name = some g) : ∃ t fr, w.heap[g]? = some (.cells cs t fr) := by
  unfold World.var? at h
  rw [hg, Option.bind_some] at h
  cases hh : w.heap[g]? with
  | none => rw [hh] at h; cases h
  | some o =>
    rw [hh] at h
    cases o with
    | cells cs' t fr => simp only [Option.some.injEq] at h; subst h; exact ⟨t, fr, rfl⟩
    | _ => cases h
theorem errV_of_laid {W : World} (h : laidMetH Tryz.prog laidAll W) : ∃ t fr, W.heap[0]? = some (.cells #[.iface 234 (.agg #[.pointer (some ⟨5, 33, none⟩)])] t fr) := by
  obtain ⟨name, u, ty, e1, e2, e3, e4, e5⟩ := (laid_parts h).2 _ (List.mem_singleton.2 rfl)
  have en : name = [101, 114, 114, 111, 114] := (Option.some.inj e1).symm
  subst en
  obtain rfl := Option.some.inj (gRt.symm.trans e2)
  have hm : ty ∈ (List.range Tryz.prog.types.size).filter fun t => Tryz.prog.rowNamed t [101, 114, 114, 111, 114] := List.mem_filter.2 ⟨List.mem_range.2 e3, e4⟩
  rw [oneRow] at hm
  obtain rfl := List.mem_singleton.1 hm
  have hh : typeHandle Tryz.prog 33 = .pointer (some ⟨5, 33, none⟩) := by kernel_rfl
  rw [hh] at e5
  exact var_exact e5 gEt
theorem grep_of {W : World} {g : Nat} {cs : Array Value} {t : TypeId} {fr : Nat × Nat} {d : Da} (h : W.heap[g]? = some (.cells cs t fr)) (hr : Sx.RepC [] W d cs.toList) (hs : cs.size = Sx.gsz d) : Sx.GRep [] W (g, d) := by
  refine ⟨⟨[_], ?_, rfl⟩, by simp, cs, t, fr, h, hs⟩
  simp only [Sx.RepC]
  refine ⟨g, 0, cs.toList, rfl, by simp, (Array.getElem?_eq_some_iff.1 h).1, hr, fun j u hj => ?_⟩
  rw [Lib.cell_of_heap h, Nat.zero_add]
  simpa using hj
theorem tabV_of_laid {W : World} (h : laidMetH Tryz.prog laidAll W) : ∃ t fr, W.heap[1]? = some (.cells (Lib.pow10Tab.map fun z => Value.int .u64 z).toArray t fr) := by
  have h1 := laidMet.tail (laidMet.tail (laid_parts h).1)
  have h2 : laidMet Tryz.prog (("internal/strconv.uint64pow10", Lib.tabData .u64 Lib.pow10Tab) :: []) W := h1
  have h3 := Lib.tabIs_of_head (g := 1) (by kernel_rfl) (t := 260) (e := 204) (n := 20) (by kernel_rfl) Tryz.underlying260 Tryz.underlying204 (by kernel_rfl) (by kernel_rfl) h2
  exact var_exact h3 (by kernel_rfl)
theorem ints_rep (O : List Nat) (W : World) (k : IntKind) : ∀ l : List Int, Sx.RepCs O W (l.map (Da.int k)) (l.map fun z => Value.int k z)
  | [] => by simp [Sx.RepCs]
  | x :: l => by
    simp only [List.map_cons, Sx.RepCs, Sx.RepC]
    exact ⟨[_], _, rfl, rfl, ints_rep O W k l⟩
/-- the variables, as the walk knows them -/
theorem globs_of {W : World} (h : laidMetH Tryz.prog laidAll W) : Sx.Glob C3 [] W := by
  obtain ⟨t1, f1, e1⟩ := errV_of_laid h
  obtain ⟨t5, f5, e5⟩ := tabV_of_laid h
  intro g hg
  rcases List.mem_append.1 hg with hg | hg
  · rw [List.mem_singleton.1 hg]
    exact grep_of e1 (by simp only [Sx.RepC]) rfl
  · rw [List.mem_singleton.1 hg]
    exact grep_of e5 (by simp only [Sx.RepC]; exact ints_rep _ _ _ _) (by simp [Sx.gsz])

def eI : Sx.Enc Int := ⟨fun n => [.int .i64 n], dI, 1, fun _ => rfl, fun n u hu => by simp at hu; rw [hu]; rfl, fun O w n => by simp [dI, Sx.RepC]⟩
def eE : Sx.Enc Edg := ⟨fun e => [.int .i64 e.a, .int .i64 e.b], dE, 2, fun _ => rfl, fun n u hu => by simp at hu; rcases hu with rfl | rfl <;> rfl, fun O w n => by simp [dE, Sx.RepC, Sx.RepCs]⟩
set_option maxRecDepth 100000 in
theorem int_el {H : Type} {e' : TypeId × Value → H} {w : World} {base : Nat} {spare : Nat → Bool} {held : Bool} (n : Nat) (cs : List Value) (y : DataW H × List MemPlace)
    (h : DataW.trod e' Tryz.prog w base spare held n 3 cs = some y) : ∃ x : Int, cs = eI.enc x ∧ True := by
  obtain ⟨m, h0, _⟩ := DataW.trod_int Tryz.underlying3 h
  exact ⟨m, h0, trivial⟩
set_option maxRecDepth 100000 in
theorem edge_el {H : Type} {e' : TypeId × Value → H} {w : World} {base : Nat} {spare : Nat → Bool} {held : Bool} (n : Nat) (cs : List Value) (y : DataW H × List MemPlace)
    (h : DataW.trod e' Tryz.prog w base spare held n 86 cs = some y) : ∃ x : Edg, cs = eE.enc x ∧ True := by
  obtain ⟨xs, k, _, _, hcl, hxl, hf⟩ := DataW.trod_struct Tryz.underlying86 h
  have cl : cs.length = 2 := hcl.trans (by kernel_rfl)
  match cs, cl with
  | [c0, c1], _ =>
    have hx4 : xs.length = 2 := hxl
    match xs, hx4 with
    | [y0, y1], _ =>
      have k3 : Tryz.prog.cellsOf 3 = 1 := by kernel_rfl
      have g0 := hf 0 _ rfl
      have g1 := hf 1 _ rfl
      simp [k3] at g0 g1
      obtain ⟨n0, h0, _⟩ := DataW.trod_int Tryz.underlying3 g0
      obtain ⟨n1, h1, _⟩ := DataW.trod_int Tryz.underlying3 g1
      simp at h0 h1
      subst h0; subst h1
      exact ⟨⟨n0, n1⟩, rfl, trivial⟩
theorem rep_bool {O : List Nat} {w : World} {v : Value} {b : Bool} (h : Sx.Rep O w (.bool b) v) : v = .bool b := by obtain ⟨cs, r, rfl⟩ := h; simp only [Sx.RepC] at r; subst r; rfl
/-- what a laid table's cells are -/
def valsOf : DataW Unit → Array Value
  | .agg ds => (ds.map fun | .lit (.int k n) => Value.int k n | _ => undef).toArray
  | _ => #[]
def setCells (cs : Array Value) : Obj → Obj
  | .cells _ t frozen => .cells cs t frozen
  | o => o
/-- A WORLD FOR THE WITNESS: the settled one, the variables' cells laid. -/
noncomputable def laidWorld (os : Os) : World :=
  let w0 := World.holding Tryz.prog os ⟨#[], #[], []⟩
  { w0 with heap := (((w0.heap.modify 0 (setCells #[.iface 234 (.agg #[.pointer (some ⟨5, 33, none⟩)])])).modify 1 (setCells (valsOf Rows.laid_internal_strconv_uint64pow10))).modify 3 (setCells (valsOf Rows.laid_math_bits_deBruijn32tab))).modify 4 (setCells (valsOf Rows.laid_math_bits_deBruijn64tab)) }
theorem laidWorld_met (os : Os) (args : Array Value) : laidMetH Tryz.prog laidAll ((laidWorld os).forCall (fun _ _ => 0) ⟨#[], args, []⟩).memory :=
  laidMetH_of_parts (laidMet_of_run' 8 (by kernel_rfl) (by kernel_rfl)) (by kernel_rfl)
end Go.Proofs.YteigfapjiekdnaaGreatDoor
end

section

namespace Go.Proofs.YteigfapjiekdnaaGreatDoor
open Go.ChangeShapes Go.WideShapes Go.ChangeAt Go.RowKit Go.Reg Go.Gr Go.ChangeMaps

set_option maxRecDepth 100000 in
theorem contractQuickEdges (H : Type) (enc : TypeId × Value → H) (W : World) (base : Nat) (args : Array Value) (ds gs : List (DataW H)) (before : List MemPlace)
    (hval : ∀ (j : Nat) t v, Tryz.f8.params[j]? = some t → args[j]? = some v → Value.okWide Tryz.prog W .any base t v)
    (hW : DataW.Whole enc Tryz.prog Tryz.f8.params.toList Rows.quickEdgesSpec.vars false W args.toList ds gs before) (hsz0 : (DataW.weightsEach Tryz.prog (Tryz.f8.params.toList ++ (OpenSpec.ofChange Rows.quickEdgesSpec).bare.plain.varTypes Tryz.prog) (ds ++ gs)).all (· ≤ reachBytes) = true) (hL : laidMetH Tryz.prog Rows.quickEdgesRow.laid W) (_hsh : W.ShapedOpen Tryz.prog) :
    Calls Tryz.prog 8 args W fun e W' => ∃ v, e = .returned v ∧ Rows.quickEdgesSpec.post enc Tryz.prog Tryz.f8 false true false false W args v W' := by
  have hsz := hsz0
  clear hsz0
  have hW' := hW
  obtain ⟨p, q, hA0, hV, rfl, hfz, hnd⟩ := hW
  have hA : DataW.TrodAll enc Tryz.prog W 0 (fun _ => true) true Tryz.f8.params.toList args.toList ds p := hA0
  rw [Tryz.params8] at hA hval hsz
  obtain ⟨v0, v1, v2, d0, d1, d2, p0, p1, p2, rfl, rfl, rfl, h0, h1, h2⟩ := trodAll_three hA
  obtain ⟨rfl, rfl⟩ := trodVars_none hV
  have c0 := Sx.cap_of Tryz.underlying22 (hval 0 _ _ rfl rfl) h0
  obtain ⟨x0, a0, _⟩ := argSl_of (enc := eI.enc) (fun _ => True) Tryz.underlying22 (k := 1) (by kernel_rfl) (by decide) (fun _ => rfl) int_el (hval 0 _ _ rfl rfl) h0
  have c1 := Sx.cap_of Tryz.underlying23 (hval 1 _ _ rfl rfl) h1
  obtain ⟨x1, a1, _⟩ := argSl_of (enc := eE.enc) (fun _ => True) Tryz.underlying23 (k := 2) (by kernel_rfl) (by decide) (fun _ => rfl) edge_el (hval 1 _ _ rfl rfl) h1
  have c2 := Sx.cap_of Tryz.underlying22 (hval 2 _ _ rfl rfl) h2
  obtain ⟨x2, a2, _⟩ := argSl_of (enc := eI.enc) (fun _ => True) Tryz.underlying22 (k := 1) (by kernel_rfl) (by decide) (fun _ => rfl) int_el (hval 2 _ _ rfl rfl) h2
  have hg := globs_of (show laidMetH Tryz.prog laidAll W from hL)
  have l0 : ∀ x ∈ p0, x.block < W.heap.size := fun x hx => by have := hW'.lt x (by simp [hx]); simpa using this
  have l1 : ∀ x ∈ p1, x.block < W.heap.size := fun x hx => by have := hW'.lt x (by simp [hx]); simpa using this
  have l2 : ∀ x ∈ p2, x.block < W.heap.size := fun x hx => by have := hW'.lt x (by simp [hx]); simpa using this
  refine ((qedges_pure x0 x1 x2).calls hg (Sx.reps_cons (eI.rep_arg (by decide) a0 c0) (Sx.reps_cons (eE.rep_arg (by decide) a1 c1) (Sx.reps_cons (eI.rep_arg (by decide) a2 c2) Sx.reps_nil)))).mono fun e W' ⟨u, y, he, hy, hr, ht⟩ => ?_
  subst hy
  obtain rfl := rep_bool hr
  subst he
  refine ⟨_, rfl, _, _, _, [], p0 ++ (p1 ++ p2), [], hW', ?_, ?_, ?_, ?_, fun h => by cases h⟩
  · exact trodAll_mk1 (shut_bool Tryz.underlying4 true)
  · exact trodAll_mk3 (Below.trod laidOut (by kernel_rfl) (of_decide_eq_true (by kernel_rfl)) h0 ht.below l0) (Below.trod laidOut (by kernel_rfl) (of_decide_eq_true (by kernel_rfl)) h1 ht.below l1) (Below.trod laidOut (by kernel_rfl) (of_decide_eq_true (by kernel_rfl)) h2 ht.below l2)
  · rfl
  · refine ⟨ht.os, ht.output, fun i hi => ?_⟩
    rw [ht.blk i hi (by simp)]
    have hsome : ∃ o, W.heap[i]? = some o := ⟨_, Array.getElem?_eq_getElem hi⟩
    obtain ⟨o, ho⟩ := hsome
    rw [ho]
    cases o <;> simp

theorem readsQuickEdges (os : Os) {H : Type} (enc : TypeId × Value → H) : ∃ places, DataW.whole enc Tryz.prog ((laidWorld os).forCall (fun _ _ => 0) ⟨#[], #[.slice none 0 0, .slice none 0 0, .slice none 0 0], []⟩).memory Tryz.f8.params.toList Rows.quickEdgesSpec.vars false #[.slice none 0 0, .slice none 0 0, .slice none 0 0].toList 8 = some ([.nil, .nil, .nil], [], places) :=
  ⟨[], by kernel_rfl⟩

set_option maxRecDepth 100000 in
theorem liftedQuickEdges (os : Os) (started : os.Started) (H : Type) (enc : TypeId × Value → H) (F : Stop.Interp) :
    ReturnsInHanded {} Tryz.checked os 8 .any ((OpenSpec.ofChange Rows.quickEdgesSpec).preRow enc Tryz.prog Tryz.f8 Rows.quickEdgesRow.domain false Rows.quickEdgesRow.laid) (((OpenSpec.ofChange Rows.quickEdgesSpec).at F).post enc Tryz.prog Tryz.f8 false true false false) := by
  obtain ⟨places, hx⟩ := readsQuickEdges os enc
  refine returnsInHanded_of_row (C := Tryz.checked) (s := OpenSpec.ofChange Rows.quickEdgesSpec) own started (by kernel_rfl) Tryz.func8
    (witness_row_at (enc := enc) (C := Tryz.checked) false (laidWorld os) #[.slice none 0 0, .slice none 0 0, .slice none 0 0] rfl (by kernel_rfl) (by kernel_rfl) (by kernel_rfl)
      (OpenSpec.preRow_of_cond 8 hx (by kernel_rfl) (fun k hk => by cases hk) (by kernel_rfl) (laidWorld_met os _))) ?_
  intro W base args ds gs before hval hW _ _ hsz hL hsh _
  exact contractQuickEdges H enc W base args ds gs before hval hW hsz hL hsh

theorem saidQuickEdges : Rows.QuickEdgesSaid :=
  OpenClaim.holds_of_cond 8 Tryz.f8 rfl rfl rfl rfl rfl rfl rfl ⟨rfl, rfl, rfl, rfl, rfl⟩ rfl rfl rfl rfl rfl (by kernel_rfl) Tryz.func8 (by kernel_rfl)
    (of_decide_eq_true (by kernel_rfl)) (by unfold Func.isWrapper; first | (rw [if_pos (by decide +kernel)]; kernel_rfl) | (rw [if_neg (by decide +kernel)]; exact ⟨rfl, rfl⟩))
    (fun os started H enc _ F => by rw [OpenClaim.pre_eq_preRow]; exact liftedQuickEdges os started H enc F)

theorem plainQuickEdges (f : FuncId) (fn : Func) (hf : Tryz.pinned.checked.prog.funcNamed "fretwork/fretworklaw12.QuickEdges" = some f) (hfn : Tryz.pinned.checked.prog.funcs[f]? = some fn) :
    true = Tryz.pinned.checked.prog.looks [] ∧ ∀ (j : Nat) t, fn.params[j]? = some t → Tryz.pinned.checked.prog.wantsStandIn t = false := by
  obtain rfl : f = 8 := Option.some.inj ((show Tryz.prog.funcNamed "fretwork/fretworklaw12.QuickEdges" = some 8 by kernel_rfl).symm.trans hf) |>.symm
  obtain rfl : fn = Tryz.f8 := (Option.some.inj (Tryz.func8.symm.trans hfn)).symm
  refine ⟨by kernel_rfl, fun j t ht => ?_⟩
  rw [Tryz.params8] at ht
  have hm := Array.mem_of_getElem? ht
  simp at hm
  rcases hm with rfl | rfl | rfl
  · exact (show Tryz.prog.wantsStandIn 22 = false by kernel_rfl)
  · exact (show Tryz.prog.wantsStandIn 23 = false by kernel_rfl)
  · exact (show Tryz.prog.wantsStandIn 22 = false by kernel_rfl)

theorem cardQuickEdges : Rows.QuickEdgesCardSaid :=
  Claim7.holds_tied_plain_at .later [] _ _ _ _ saidQuickEdges (fun _ h => by cases h) (by kernel_rfl) (fun _ h => by cases h) quickEdges_row_tie rfl ⟨rfl, rfl⟩ (by kernel_rfl) rfl plainQuickEdges (by kernel_rfl)
#print axioms cardQuickEdges
end Go.Proofs.YteigfapjiekdnaaGreatDoor
end
