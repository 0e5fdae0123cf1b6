/- The walk: calls on owned things that are known by a predicate alone. -/
import Derived.Test.YtlpjdngjmknniaaDoorSxp
namespace Go.Sx
open Go Go.RowKit Go.Reg

/-- an owned thing, known by a predicate -/
structure Absn where
  R : World → Value → List Nat → Prop
  keep : ∀ (S : List Nat) w w' v F, R w v F → Tch S w w' → (∀ x ∈ F, x ∉ S) → R w' v F
  lt : ∀ w v F, R w v F → ∀ x ∈ F, x < w.heap.size
  one : ∀ w v F, R w v F → v.oneCell' = true
def Absn.own (r : Absn) : Own := .abs r.R r.keep r.lt r.one

section
variable {C : Cx} {T : Tab} {B S : List Nat} {w0 w : World} {n kd : Nat} {fr : Fr} {σ : Sg} {η : Nat → Value} {φ : Nat → List Nat} {a : Act} {v : Value} {i : Nat} {r : Absn}

/-- a call that looks at the thing and turns nothing -/
def LookObj (C : Cx) (f : FuncId) (r : Absn) (xs : List Da) (Q : Da → Prop) : Prop :=
  ∀ (O : List Nat) (w : World) (v : Value) (F : List Nat) (us : List Value), r.R w v F → (∀ b ∈ F, b ∈ O) → (∀ b ∈ O, b < w.heap.size) → Glob C O w → Reps O w xs us →
    (callFunc f (v :: us).toArray).run C.P w = .ok (.enter f (v :: us).toArray) w ∧ Calls C.P f (v :: us).toArray w fun e w' => ∃ u y, e = .returned u ∧ Q y ∧ Rep O w' y u ∧ Tch [] w w'
/-- a call that turns the thing and nothing else that was there -/
def TurnObj (C : Cx) (f : FuncId) (r : Absn) (xs : List Da) (Q : Da → Absn → Prop) : Prop :=
  ∀ (O : List Nat) (w : World) (v : Value) (F : List Nat) (us : List Value), r.R w v F → (∀ b ∈ F, b ∈ O) → (∀ b ∈ O, b < w.heap.size) → Glob C O w → Reps O w xs us →
    (callFunc f (v :: us).toArray).run C.P w = .ok (.enter f (v :: us).toArray) w ∧ Calls C.P f (v :: us).toArray w fun e w' => ∃ u y r' F', e = .returned u ∧ Q y r' ∧ r'.R w' v F' ∧ (∀ b ∈ F', b ∈ F ∨ w.heap.size ≤ b) ∧
      (∀ O', (∀ b ∈ O', b ∈ O ∨ b ∈ F') → Rep O' w' y u) ∧ Tch F w w'
def shapeV (sh : Bool) (v u : Value) : Value := match sh with | true => .tuple #[v, u] | false => v
def shapeD (sh : Bool) (j : Nat) (y : Da) : Dat := match sh with | true => .tuple [.own j, .d y] | false => .own j

/-- what a call that makes a thing hands back -/
def Made (sh : Bool) (O : List Nat) (w : World) (Q : Absn → Da → Prop) (e : Ending) (w' : World) : Prop :=
  ∃ v F r y u, e = .returned (shapeV sh v u) ∧ Q r y ∧ r.R w' v F ∧ (∀ b ∈ F, w.heap.size ≤ b) ∧ (∀ O', (∀ b ∈ O', b ∈ O ∨ b ∈ F) → Rep O' w' y u) ∧ Tch [] w w'
def MakeObj (C : Cx) (sh : Bool) (f : FuncId) (xs : List Da) (Q : Absn → Da → Prop) : Prop :=
  ∀ (O : List Nat) (w : World) (us : List Value), (∀ b ∈ O, b < w.heap.size) → Glob C O w → Reps O w xs us →
    (callFunc f us.toArray).run C.P w = .ok (.enter f us.toArray) w ∧ Calls C.P f us.toArray w (Made sh O w Q)
def MakeFrom (C : Cx) (sh : Bool) (f : FuncId) (r : Absn) (xs : List Da) (Q : Absn → Da → Prop) : Prop :=
  ∀ (O : List Nat) (w : World) (v : Value) (F : List Nat) (us : List Value), r.R w v F → (∀ b ∈ F, b ∈ O) → (∀ b ∈ O, b < w.heap.size) → Glob C O w → Reps O w xs us →
    (callFunc f (v :: us).toArray).run C.P w = .ok (.enter f (v :: us).toArray) w ∧ Calls C.P f (v :: us).toArray w (Made sh O w Q)

theorem obj_arg (hM : Models C B S w0 n fr σ η φ a w) (hg : sget i σ = some r.own) {args : List Dat} {xs : List Da} (ha : allD args = some xs) {css : List (List Value)} (hr : RepDss η (ids σ) (B ++ blocks φ σ) w (.own i :: args) css) :
    r.R w (η i) (φ i) ∧ (∀ b ∈ φ i, b ∈ B ++ blocks φ σ) ∧ ∃ us, List.zipWith toVD (.own i :: args) css = η i :: us ∧ Reps (B ++ blocks φ σ) w xs us := by
  have hi := sget_mem hg
  simp only [RepDss] at hr
  obtain ⟨c1, c2, rfl, r1, r2⟩ := hr
  obtain ⟨h1, h2⟩ := allD_rep ha r2
  simp only [RepD] at r1
  obtain ⟨_, rfl⟩ := r1
  exact ⟨hM.mem.own _ hi, fun b hb => List.mem_append_right _ (mem_blocks (mem_ids hi) hb), _, rfl, c2, h1, h2⟩

theorem call_look {q : Bool} {f : FuncId} {args : List Dat} {xs : List Da} {Q : Da → Prop} {K : KD} (hg : sget i σ = some r.own) (ha : allD args = some xs) (hp : LookObj C f r xs Q) (hK : ∀ y, Q y → K (.d y) fr σ) : SxCall C q f (.own i :: args) K fr σ := by
  unfold SxCall
  rintro B S w0 η φ n a w vs hM ⟨css, hr, rfl⟩
  obtain ⟨h1, h2, us, e, h3⟩ := obj_arg hM hg ha hr
  rw [e]
  obtain ⟨g1, g2⟩ := hp _ _ _ _ _ h1 h2 hM.mem.lt hM.mem.glob h3
  refine ⟨g1, g2.mono ?_⟩
  rintro e w' ⟨v, y, rfl, hQ, hv, ht⟩
  exact ⟨v, .d y, fr, σ, η, φ, rfl, hK y hQ, ⟨hM.mem.grow ht, hM.fr.later (Later.same ht _) (fun i hi => ⟨hi, rfl⟩), hM.defers, hM.size⟩, hv, fun _ => ht.ext⟩

theorem call_turn {f : FuncId} {args : List Dat} {xs : List Da} {Q : Da → Absn → Prop} {K : KD} (hg : sget i σ = some r.own) (ha : allD args = some xs) (hp : TurnObj C f r xs Q) (hK : ∀ y r', Q y r' → forceS (sturn id i r'.own σ) fun σ => K (.d y) fr σ) : SxCall C false f (.own i :: args) K fr σ := by
  unfold SxCall
  rintro B S w0 η φ n a w vs hM ⟨css, hr, rfl⟩
  obtain ⟨h1, h2, us, e, h3⟩ := obj_arg hM hg ha hr
  rw [e]
  obtain ⟨g1, g2⟩ := hp _ _ _ _ _ h1 h2 hM.mem.lt hM.mem.glob h3
  refine ⟨g1, g2.mono ?_⟩
  rintro e w' ⟨v, y, r', F', rfl, hQ, hR, hF, hv, ht⟩
  have hi := mem_ids (sget_mem hg)
  have hl := Later.turn B ht (fun b hb => hb) hi hF id r'.own
  have hm := hM.mem.turnSame ht (fun b hb => hb) hi hF (o := r'.own) hR
  have hk := hK y r' hQ
  rw [forceS_eq] at hk
  have hids := ids_sturn id i r'.own σ
  refine ⟨v, .d y, fr, _, η, _, rfl, hk, ⟨hm, hM.fr.later hl (fun j hj => ⟨by rw [hids]; exact hj, rfl⟩), hM.defers, hM.size⟩, ?_, fun h => by cases h⟩
  exact hv _ (fun b hb => by
    rcases List.mem_append.1 hb with hb | hb
    · exact .inl (List.mem_append_left _ hb)
    · rcases sturn_blocks F' b hb with hb | ⟨j, hj, _, hb⟩
      · exact .inr hb
      · exact .inl (List.mem_append_right _ (mem_blocks hj hb)))

theorem made_ok (hM : Models C B S w0 n fr σ η φ a w) {j : Nat} (hj : sget j σ = none) {sh : Bool} {Q : Absn → Da → Prop} {K : KD} (hK : ∀ r y, Q r y → forceS (sins j r.own σ) fun σ => K (shapeD sh j y) fr σ)
    {e : Ending} {w' : World} (h : Made sh (B ++ blocks φ σ) w Q e w') :
    ∃ v d fr' σ' η' φ', e = .returned v ∧ K d fr' σ' ∧ Models C B S w0 n fr' σ' η' φ' a w' ∧ (∃ cs, RepD η' (ids σ') (B ++ blocks φ' σ') w' d cs ∧ v = toVD d cs) ∧ Ext w w' := by
  obtain ⟨v, F, r, y, u, rfl, hQ, hR, hF, hv, ht⟩ := h
  have hj' := sget_none hj
  obtain ⟨hm, hl⟩ := hM.mem.add ht hj' hF (o := r.own) (v := v) hR
  have hM' : Models C B S w0 n fr ((j, r.own) :: σ) (upd η j v) (upd φ j F) a w' := ⟨hm, hM.fr.add hj' hl, hM.defers, hM.size⟩
  have hM2 := hM'.perm (sins_perm j r.own σ)
  have hk := hK r y hQ
  rw [forceS_eq] at hk
  have hin : j ∈ ids (sins j r.own σ) := by
    have := (sins_mem j r.own σ (j, r.own)).2 (by simp)
    exact mem_ids this
  have hbl : ∀ b ∈ B ++ blocks (upd φ j F) (sins j r.own σ), b ∈ B ++ blocks φ σ ∨ b ∈ F := by
    intro b hb
    rcases List.mem_append.1 hb with hb | hb
    · exact .inl (List.mem_append_left _ hb)
    · obtain ⟨p, hp, hb⟩ := List.mem_flatMap.1 hb
      rcases List.mem_cons.1 ((sins_mem j r.own σ p).1 hp) with rfl | hp
      · rw [upd_eq] at hb; exact .inr hb
      · rw [upd_ne _ _ _ (fun (e : p.1 = j) => hj' (e ▸ mem_ids hp))] at hb
        exact .inl (List.mem_append_right _ (mem_blocks (mem_ids hp) hb))
  refine ⟨_, _, fr, _, _, _, rfl, hk, hM2, ?_, ht.ext⟩
  cases sh with
  | false => exact ⟨[v], (show j ∈ _ ∧ [v] = [upd η j v j] from ⟨hin, by rw [upd_eq]⟩), rfl⟩
  | true =>
    obtain ⟨cs, r1, r2⟩ := hv _ hbl
    refine ⟨[.tuple #[v, u]], ?_, rfl⟩
    unfold shapeD
    simp only [RepD]
    refine ⟨[[v], cs], ?_, by simp [toVD, r2]⟩
    simp only [RepDss, RepD]
    exact ⟨[v], [cs], rfl, ⟨hin, by rw [upd_eq]⟩, cs, [], rfl, r1, rfl⟩

theorem call_make (j : Nat) {q sh : Bool} {f : FuncId} {args : List Dat} {xs : List Da} {Q : Absn → Da → Prop} {K : KD} (hj : sget j σ = none) (ha : allD args = some xs) (hp : MakeObj C sh f xs Q) (hK : ∀ r y, Q r y → forceS (sins j r.own σ) fun σ => K (shapeD sh j y) fr σ) : SxCall C q f args K fr σ := by
  unfold SxCall
  rintro B S w0 η φ n a w vs hM ⟨css, hr, rfl⟩
  obtain ⟨h1, h2⟩ := allD_rep ha hr
  rw [h2]
  obtain ⟨g1, g2⟩ := hp (B ++ blocks φ σ) w _ hM.mem.lt hM.mem.glob ⟨css, h1, rfl⟩
  refine ⟨g1, g2.mono fun e w' h => ?_⟩
  obtain ⟨v, d, fr', σ', η', φ', x1, x2, x3, x4, x5⟩ := made_ok hM hj hK h
  exact ⟨v, d, fr', σ', η', φ', x1, x2, x3, x4, fun _ => x5⟩

theorem call_from (j : Nat) {q sh : Bool} {f : FuncId} {args : List Dat} {xs : List Da} {Q : Absn → Da → Prop} {K : KD} (hg : sget i σ = some r.own) (hj : sget j σ = none) (ha : allD args = some xs) (hp : MakeFrom C sh f r xs Q) (hK : ∀ r y, Q r y → forceS (sins j r.own σ) fun σ => K (shapeD sh j y) fr σ) : SxCall C q f (.own i :: args) K fr σ := by
  unfold SxCall
  rintro B S w0 η φ n a w vs hM ⟨css, hr, rfl⟩
  obtain ⟨h1, h2, us, e, h3⟩ := obj_arg hM hg ha hr
  rw [e]
  obtain ⟨g1, g2⟩ := hp _ _ _ _ _ h1 h2 hM.mem.lt hM.mem.glob h3
  refine ⟨g1, g2.mono fun e w' h => ?_⟩
  obtain ⟨v, d, fr', σ', η', φ', x1, x2, x3, x4, x5⟩ := made_ok hM hj hK h
  exact ⟨v, d, fr', σ', η', φ', x1, x2, x3, x4, fun _ => x5⟩
end
end Go.Sx
