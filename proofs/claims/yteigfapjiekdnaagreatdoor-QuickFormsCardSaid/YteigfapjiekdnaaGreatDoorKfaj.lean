/- Merged: Grh Pte Qip Clp. -/
import Derived.Test.YteigfapjiekdnaaGreatDoorKfah
import Derived.Test.YteigfapjiekdnaaGreatDoorKfaf
import Derived.Test.YteigfapjiekdnaaGreatDoorKfai
import Derived.Test.YteigfapjiekdnaaGreatDoorKfaa
import Derived.Test.YteigfapjiekdnaaGreatDoorSxu
import Derived.Test.YteigfapjiekdnaaGreatDoorCtx
section
/- Graphs: what a graph tells: Len, Size, Edge, Label, Near, Degree. -/
namespace Go.Proofs.YteigfapjiekdnaaGreatDoor
open Go.Sx Go.RowKit Go.Reg Go.Gr

set_option maxRecDepth 100000
def pl_glen : List (Nat × Plan) := []
def G_glen : List FuncId := []
theorem cok_glen : codeOk Tryz.prog G_glen pl_glen (Tryz.f12.body.getD .skip) = true := by kernel_rfl
theorem run_glen (vs : Array Value) (w : World) : (callFunc 12 vs).run C1.P w = .ok (.enter 12 vs) w := by kernel_rfl
theorem len_pure (G : Gr) : Pure C1 12 [dG G] (fun y => y = .int .i64 G.labels.length) := by
  have hl : (G.labels.map dI).length = G.labels.length := List.length_map _
  refine pure_of c1_ok (pl := pl_glen) (G := G_glen) Tryz.func12 rfl Tryz.ntmps12 run_glen cok_glen (by simp) ?_
  ((conv => whnf); repeat' ((first | refine odw ?_ | refine ify ?_ | refine ifn ?_ | refine i6 ?_ | refine ati ?_ | refine mst ?_ | refine rmd ?_ | refine ibo (fun _ => ?_) (fun _ => ?_)) <;> conv => whnf))
  show Da.int .i64 _ = _
  rw [hl]
def pl_ghas : List (Nat × Plan) := []
def G_ghas : List FuncId := []
theorem cok_ghas : codeOk Tryz.prog G_ghas pl_ghas (Tryz.f51.body.getD .skip) = true := by kernel_rfl
theorem run_ghas (vs : Array Value) (w : World) : (callFunc 51 vs).run C1.P w = .ok (.enter 51 vs) w := by kernel_rfl
def hasV (G : Gr) (v : Int) : Bool := decide (0 ≤ v ∧ v < G.labels.length)
theorem has_pure (G : Gr) (v : Int) : Pure C1 51 [dG G, .int .i64 v] (fun y => y = .bool (hasV G v)) := by
  refine pure_of c1_ok (pl := pl_ghas) (G := G_ghas) Tryz.func51 rfl Tryz.ntmps51 run_ghas cok_ghas (by simp) ?_
  by_cases h0 : 0 ≤ v
  · ((conv => whnf); repeat' ((first | refine odw ?_ | refine ify ?_ | refine ifn ?_ | refine i6 ?_ | refine ati ?_ | refine mst ?_ | refine rmd ?_ | refine ibo (fun _ => ?_) (fun _ => ?_)) <;> conv => whnf))
    refine call_pure rfl (len_pure G) ?_; rintro y rfl
    by_cases h1 : v < G.labels.length
    · have : hasV G v = true := by simp [hasV, h0, h1]
      rw [this]
      ((conv => whnf); repeat' ((first | refine odw ?_ | refine ify ?_ | refine ifn ?_ | refine i6 ?_ | refine ati ?_ | refine mst ?_ | refine rmd ?_ | refine ibo (fun _ => ?_) (fun _ => ?_)) <;> conv => whnf))
      show Da.plain _ = _
      simp [Da.plain, h1]
    · have : hasV G v = false := by simp [hasV, h1]
      rw [this]
      ((conv => whnf); repeat' ((first | refine odw ?_ | refine ify ?_ | refine ifn ?_ | refine i6 ?_ | refine ati ?_ | refine mst ?_ | refine rmd ?_ | refine ibo (fun _ => ?_) (fun _ => ?_)) <;> conv => whnf))
      show Da.plain _ = _
      simp [Da.plain, h1]
  · have : hasV G v = false := by simp [hasV, h0]
    rw [this]
    ((conv => whnf); repeat' ((first | refine odw ?_ | refine ify ?_ | refine ifn ?_ | refine i6 ?_ | refine ati ?_ | refine mst ?_ | refine rmd ?_ | refine ibo (fun _ => ?_) (fun _ => ?_)) <;> conv => whnf))
    exact rfl
theorem hasV_yes {G : Gr} {v : Int} (h : 0 ≤ v) (h2 : v < G.labels.length) : hasV G v = true := by simp [hasV, h, h2]
theorem hasV_no {G : Gr} {v : Int} (h : ¬ (0 ≤ v ∧ v < G.labels.length)) : hasV G v = false := by simp only [hasV, decide_eq_false_iff_not]; exact h
def pl_glabel : List (Nat × Plan) := []
def G_glabel : List FuncId := []
theorem cok_glabel : codeOk Tryz.prog G_glabel pl_glabel (Tryz.f13.body.getD .skip) = true := by kernel_rfl
theorem run_glabel (vs : Array Value) (w : World) : (callFunc 13 vs).run C1.P w = .ok (.enter 13 vs) w := by kernel_rfl
def labelV (G : Gr) (v : Int) : Int := if 0 ≤ v ∧ v < G.labels.length then (G.labels[v.toNat]?).getD 0 else -1
theorem label_pure (G : Gr) (v : Int) : Pure C1 13 [dG G, .int .i64 v] (fun y => y = .int .i64 (labelV G v)) := by
  refine pure_of c1_ok (pl := pl_glabel) (G := G_glabel) Tryz.func13 rfl Tryz.ntmps13 run_glabel cok_glabel (by simp) ?_
  by_cases h : 0 ≤ v ∧ v < G.labels.length
  · obtain ⟨m, rfl⟩ := Int.eq_ofNat_of_zero_le h.1
    have hm : m < G.labels.length := by omega
    have hx := List.getElem?_eq_getElem hm
    have e : labelV G (m : Int) = G.labels[m] := by unfold labelV; rw [if_pos h, Int.toNat_natCast, hx]; rfl
    rw [e]
    generalize G.labels[m] = x at hx
    have hxd : (G.labels.map dI)[m]? = some (.int .i64 x) := by rw [List.getElem?_map, hx]; rfl
    ((conv => whnf); repeat' ((first | refine odw ?_ | refine ify ?_ | refine ifn ?_ | refine i6 ?_ | refine ati ?_ | refine mst ?_ | refine rmd ?_ | refine ibo (fun _ => ?_) (fun _ => ?_)) <;> conv => whnf))
    refine call_pure rfl (has_pure G m) ?_; rintro y rfl
    rw [hasV_yes h.1 h.2]
    (repeat' ((first | refine ord_ok (by (conv => whnf); (repeat' ((first | refine at_da hxd rfl ?_ | refine ify ?_ | refine ifn ?_ | refine i6 ?_ | refine ati ?_ | refine mst ?_ | refine rmd ?_ | refine ibo (fun _ => ?_) (fun _ => ?_)) <;> conv => whnf)); (all_goals (repeat' (first | exact trivial | exact rfl | refine And.intro ?_ ?_)))) ?_ | refine at_da hxd rfl ?_ | refine ify ?_ | refine ifn ?_ | refine i6 ?_ | refine ati ?_ | refine mst ?_ | refine rmd ?_ | refine ibo (fun _ => ?_) (fun _ => ?_)) <;> conv => whnf))
    exact rfl
  · have e : labelV G v = -1 := by unfold labelV; rw [if_neg h]
    rw [e]
    ((conv => whnf); repeat' ((first | refine odw ?_ | refine ify ?_ | refine ifn ?_ | refine i6 ?_ | refine ati ?_ | refine mst ?_ | refine rmd ?_ | refine ibo (fun _ => ?_) (fun _ => ?_)) <;> conv => whnf))
    refine call_pure rfl (has_pure G v) ?_; rintro y rfl
    rw [hasV_no h]
    ((conv => whnf); repeat' ((first | refine odw ?_ | refine ify ?_ | refine ifn ?_ | refine i6 ?_ | refine ati ?_ | refine mst ?_ | refine rmd ?_ | refine ibo (fun _ => ?_) (fun _ => ?_)) <;> conv => whnf))
    exact rfl
end Go.Proofs.YteigfapjiekdnaaGreatDoor
end

section
/- ref08: Made. ref12: Whole. law08: Of. -/
namespace Go.Gr
/-- pairs of places, the lesser first, of which f is told -/
def rowF (f : Nat → Nat → Bool) (a b : Nat) : List Edg := ((List.range b).filter fun x => decide (a < x) && f a x).map fun x : Nat => ⟨(a : Int), (x : Int)⟩
def rowsF (f : Nat → Nat → Bool) (n a : Nat) : List Edg := (List.range a).flatMap fun j => rowF f j n
theorem mem_rowsF {f : Nat → Nat → Bool} {n a : Nat} {e : Edg} : e ∈ rowsF f n a ↔ ∃ j x : Nat, j < a ∧ x < n ∧ j < x ∧ f j x = true ∧ e = ⟨(j : Int), (x : Int)⟩ := by
  simp only [rowsF, rowF, List.mem_flatMap, List.mem_range, List.mem_map, List.mem_filter, Bool.and_eq_true, decide_eq_true_eq]
  constructor
  · rintro ⟨j, hj, x, ⟨h1, h2, h3⟩, rfl⟩; exact ⟨j, x, hj, h1, h2, h3, rfl⟩
  · rintro ⟨j, x, hj, h1, h2, h3, rfl⟩; exact ⟨j, hj, x, ⟨h1, h2, h3⟩, rfl⟩
def pairF (E : List Edg) (L : List Int) (a b : Nat) : Bool := hasR E ((L[a]?).getD 0) ((L[b]?).getD 0)
/-- what a list's pattern has for edges -/
def madeE (E : List Edg) (L : List Int) : List Edg := rowsF (pairF E L) L.length L.length
end Go.Gr
end

section
/- quick, plain: all images of a pattern. -/
namespace Go.Gr
/-- may a vertex be next in an image? -/
def fitV (L : Int → Int) (H : Int → Int → Bool) (pl : Nat → Int) (ph : Nat → Nat → Bool) (whole : Bool) (l : List Int) (v : Int) : Bool :=
  decide (L v = pl l.length) && (!decide (v ∈ l) && (List.range l.length).all fun i => match l[i]? with
    | none => true
    | some u => (!ph i l.length || H u v) && (!whole || !H u v || ph i l.length))
section
variable {n : Nat} {ok : List Int → Int → Bool}
/-- lists of k more that begin with l, each place of which is right -/
def imgs (n : Nat) (ok : List Int → Int → Bool) : Nat → List Int → List (List Int)
  | 0, l => [l]
  | k + 1, l => ((List.range n).filter fun v : Nat => ok l v).flatMap fun v : Nat => imgs n ok k (l ++ [(v : Int)])
/-- all lists of one more -/
def stepL (n : Nat) (X : List (List Int)) : List (List Int) := X.flatMap fun l => ((List.range n).filter fun v : Nat => !decide ((v : Int) ∈ l)).map fun v : Nat => l ++ [(v : Int)]
def iterL (n : Nat) : Nat → List (List Int) → List (List Int)
  | 0, X => X
  | k + 1, X => iterL n k (stepL n X)
theorem iterL_succ (n : Nat) : ∀ (k : Nat) (X : List (List Int)), iterL n (k + 1) X = stepL n (iterL n k X)
  | 0, _ => rfl
  | k + 1, X => by
    show iterL n (k + 1) (stepL n X) = _
    rw [iterL_succ n k]; rfl
theorem stepL_append (n : Nat) (X Y : List (List Int)) : stepL n (X ++ Y) = stepL n X ++ stepL n Y := by simp [stepL]
theorem iterL_append (n : Nat) : ∀ (k : Nat) (X Y : List (List Int)), iterL n k (X ++ Y) = iterL n k X ++ iterL n k Y
  | 0, _, _ => rfl
  | k + 1, X, Y => by show iterL n k (stepL n (X ++ Y)) = _; rw [stepL_append, iterL_append n k]; rfl
theorem iterL_nil (n : Nat) : ∀ k : Nat, iterL n k [] = []
  | 0 => rfl
  | k + 1 => iterL_nil n k
theorem iterL_flat (n k : Nat) : ∀ X : List (List Int), iterL n k X = X.flatMap fun l => iterL n k [l]
  | [] => iterL_nil n k
  | l :: X => by
    rw [show l :: X = [l] ++ X from rfl, iterL_append, iterL_flat n k X]; rfl
/-- is each place of a list right, from the j-th on? -/
def okAll (ok : List Int → Int → Bool) (j : Nat) (L : List Int) : Bool := (List.range L.length).all fun i => decide (i < j) || (match L[i]? with | none => true | some v => ok (L.take i) v)
theorem okAll_step {ok : List Int → Int → Bool} {L : List Int} {j : Nat} {v : Int} (hv : L[j]? = some v) : okAll ok j L = (ok (L.take j) v && okAll ok (j + 1) L) := by
  have hj : j < L.length := (List.getElem?_eq_some_iff.1 hv).1
  rw [Bool.eq_iff_iff]
  simp only [okAll, Bool.and_eq_true, List.all_eq_true, List.mem_range, Bool.or_eq_true, decide_eq_true_eq]
  constructor
  · intro h
    refine ⟨?_, fun i hi => ?_⟩
    · rcases h j hj with h1 | h1
      · omega
      · rw [hv] at h1; exact h1
    · rcases h i hi with h1 | h1
      · exact .inl (by omega)
      · exact .inr h1
  · rintro ⟨h1, h2⟩ i hi
    rcases Nat.lt_trichotomy i j with h3 | h3 | h3
    · exact .inl h3
    · subst h3; right; rw [hv]; exact h1
    · rcases h2 i hi with h4 | h4
      · omega
      · exact .inr h4
theorem okAll_end {ok : List Int → Int → Bool} {L : List Int} {j : Nat} (h : L.length ≤ j) : okAll ok j L = true := by
  simp only [okAll, List.all_eq_true, List.mem_range, Bool.or_eq_true, decide_eq_true_eq]
  intro i hi; left; omega
/-- each list that comes of l begins with it -/
theorem iterL_begins (n : Nat) : ∀ (k : Nat) (l L : List Int), L ∈ iterL n k [l] → L.take l.length = l ∧ L.length = l.length + k
  | 0, l, L, h => by
    rw [List.mem_singleton.1 h]
    exact ⟨List.take_length, rfl⟩
  | k + 1, l, L, h => by
    have h : L ∈ iterL n k (stepL n [l]) := h
    rw [iterL_flat] at h
    obtain ⟨l', h1, h2⟩ := List.mem_flatMap.1 h
    simp only [stepL, List.flatMap_cons, List.flatMap_nil, List.append_nil, List.mem_map, List.mem_filter] at h1
    obtain ⟨v, _, rfl⟩ := h1
    obtain ⟨h3, h4⟩ := iterL_begins n k _ _ h2
    rw [List.length_append, List.length_singleton] at h3 h4
    refine ⟨?_, by omega⟩
    have := congrArg (List.take l.length) h3
    rw [List.take_take, Nat.min_eq_left (by omega), List.take_left' rfl] at this
    exact this
theorem imgs_eq {n : Nat} {ok : List Int → Int → Bool} (hok : ∀ l v, ok l v = true → v ∉ l) : ∀ (k : Nat) (l : List Int), imgs n ok k l = (iterL n k [l]).filter (okAll ok l.length)
  | 0, l => by simp [imgs, iterL, okAll_end (ok := ok) (Nat.le_refl _)]
  | k + 1, l => by
    show _ = (iterL n k (stepL n [l])).filter _
    rw [iterL_flat, List.filter_flatMap]
    simp only [stepL, List.flatMap_cons, List.flatMap_nil, List.append_nil, List.flatMap_map]
    unfold imgs
    generalize List.range n = R
    induction R with
    | nil => rfl
    | cons v R ih =>
      have hs : ∀ L ∈ iterL n k [l ++ [(v : Int)]], okAll ok l.length L = (ok l v && okAll ok (l.length + 1) L) := by
        intro L hL
        obtain ⟨h1, h2⟩ := iterL_begins n k _ _ hL
        rw [List.length_append, List.length_singleton] at h1 h2
        have hv : L[l.length]? = some (v : Int) := by
          have := congrArg (fun x => x[l.length]?) h1
          simp only [List.getElem?_take, Nat.lt_succ_self, if_true] at this
          rw [this, List.getElem?_append_right (Nat.le_refl _), Nat.sub_self]; rfl
        have ht : L.take l.length = l := by
          have := congrArg (List.take l.length) h1
          rw [List.take_take, Nat.min_eq_left (by omega), List.take_left' rfl] at this
          exact this
        rw [okAll_step hv, ht]
      by_cases hv : ok l (v : Int) = true
      · have hm := hok _ _ hv
        rw [List.filter_cons_of_pos (p := fun v : Nat => ok l v) hv, List.filter_cons_of_pos (by simpa using hm), List.flatMap_cons, List.flatMap_cons, ih]
        congr 1
        rw [imgs_eq hok k, List.length_append, List.length_singleton]
        refine List.filter_congr fun L hL => ?_
        rw [hs L hL, hv, Bool.true_and]
      · rw [List.filter_cons_of_neg (p := fun v : Nat => ok l v) hv, ih]
        by_cases hm : (v : Int) ∈ l
        · rw [List.filter_cons_of_neg (by simpa using hm)]
        · rw [List.filter_cons_of_pos (by simpa using hm), List.flatMap_cons]
          have : List.filter (okAll ok l.length) (iterL n k [l ++ [(v : Int)]]) = [] := by
            rw [List.filter_eq_nil_iff]
            intro L hL
            rw [hs L hL]
            simp [hv]
          rw [this, List.nil_append]
theorem iterL_len (n k : Nat) {L : List Int} (h : L ∈ iterL n k [[]]) : L.length = k := by
  have := (iterL_begins n k [] L h).2
  simpa using this
end
end Go.Gr
end

section
/- A slice with no room behind it (slices.Clip), and appends to it. -/
namespace Go.Sx
open Go Go.RowKit Go.Reg
section
variable {C : Cx} {T : Tab} {B S : List Nat} {w0 w : World} {n kd : Nat} {fr : Fr} {σ : Sg} {η : Nat → Value} {φ : Nat → List Nat} {a : Act}
/-- data whose value is known -/
theorem Models.pin (hM : Models C B S w0 n fr σ η φ a w) {g : Nat} (hg : sget g σ = none) {x : Da} {u : Value} (hr : Rep (B ++ blocks φ σ) w x u) : Models C B S w0 n fr ((g, .ghost [u] [.d x]) :: σ) (upd η g .nilFunc) (upd φ g []) a w := by
  have hi' := sget_none hg
  obtain ⟨cs, h1, h2⟩ := hr
  obtain ⟨hm, hl⟩ := hM.mem.add (Tch.refl [] w) hi' (v := .nilFunc) (F := []) (o := .ghost [u] [.d x]) (by simp) ⟨rfl, rfl, [cs], by simp only [RepDss, RepD]; exact ⟨_, _, rfl, h1, rfl⟩, by rw [h2]; rfl⟩
  exact ⟨hm, hM.fr.add hi' hl, hM.defers, hM.size⟩
/-- a function that hands its slice back with no room behind it -/
def ClipFn (C : Cx) (f : FuncId) : Prop := ∀ (w : World) (a : Option Addr) (n c : Nat), n ≤ c → c ≤ maxLen →
  (callFunc f #[.slice a n c]).run C.P w = .ok (.enter f #[.slice a n c]) w ∧ Calls C.P f #[.slice a n c] w fun e w' => e = .returned (.slice a n n) ∧ w' = w
theorem call_clip (g : Nat) {q : Bool} {f : FuncId} {args : List Dat} {k : Nat} {xs : List Da} {K : KD} (hg : sget g σ = none) (ha : allD args = some [.list k xs]) (hf : ClipFn C f)
    (hK : ∀ a, forceS (sins g (.ghost [.slice a xs.length xs.length] [.d (.list k xs)]) σ) fun σ => K (.d (.raw (.slice a xs.length xs.length))) fr σ) : SxCall C q f args K fr σ := by
  unfold SxCall
  rintro B S w0 η φ n a w vs hM ⟨css, hr, rfl⟩
  obtain ⟨h1, h2⟩ := allD_rep ha hr
  rw [h2]
  simp only [RepCss, RepC] at h1
  obtain ⟨c1, c2, rfl, ⟨p, c, es, rfl, h3, h4, h5, h6, h7⟩, rfl⟩ := h1
  obtain ⟨g1, g2⟩ := hf w p xs.length c h3 h4
  refine ⟨g1, g2.mono ?_⟩
  rintro e w' ⟨rfl, rfl⟩
  have hrep : Rep (B ++ blocks φ σ) w' (.list k xs) (.slice p xs.length xs.length) := ⟨[_], by simp only [RepC]; exact ⟨p, xs.length, es, rfl, Nat.le_refl _, Nat.le_trans h3 h4, h5, h6, h7⟩, rfl⟩
  have hM2 := (hM.pin hg hrep).perm (sins_perm g _ σ)
  have hk := hK p
  rw [forceS_eq] at hk
  exact ⟨_, _, fr, _, _, _, rfl, hk, hM2, ⟨[_], by simp only [RepD, RepC], rfl⟩, fun _ => (Tch.refl [] w').ext⟩
theorem append_clip {P : Program} {t : TypeId} {e ee : TyI} (h : TyOk P t e) (hk : e.kd = 2) (h2 : TyOk P e.elem ee) (hk0 : 0 < ee.size) (hb0 : ee.bytes ≤ 1000) {p : Option Addr} {css : List (List Value)} (hrow : ∀ x ∈ css, RowOk ee.size x) (hcell : css = [] ∨ ∃ b o, p = some ⟨b, o, none⟩ ∧ Cells w b o css.flatten)
    {O : List Nat} {es : List Da} {vy : Value} (hy : Src ee.size O w es vy) (hne : es ≠ []) (hlen : css.length + es.length ≤ mostOf ee.bytes) (ty : TypeId) :
    ∃ v' w' css2, (Builtin.append_ #[t, t] ty #[.slice p css.length css.length, vy]).run P w = .ok v' w' ∧ Sl e.elem ee.size id w' v' (css ++ css2) ∧ RepCss O w es css2 ∧ (∀ x ∈ css2, RowOk ee.size x) ∧ Tch [] w w' ∧ (∀ b, v'.ownBlock = some b → w.heap.size ≤ b) := by
  cases p with
  | none =>
    have hc : css = [] := hcell.resolve_right (by rintro ⟨b, o, h, _⟩; cases h)
    subst hc
    obtain ⟨v', w', css2, g1, g2, g3, g4, g5, g6⟩ := append_any (v := .slice none 0 0) (css := []) h hk h2 hk0 hb0 (World.ownsRow_nil w 0 _ _) hy hlen ty
    refine ⟨v', w', css2, g1, g2, g3, g4, g5, fun b hb => ?_⟩
    rcases g6 with g6 | g6
    · rw [g6] at hb; cases hb
    · rw [g6] at hb; cases hb; exact Nat.le_refl _
  | some ad =>
    obtain ⟨d, h1, _, h3, _, _, _, _, h8⟩ := h.desc
    rw [hk] at h8
    cases d <;> simp at h8
    have he := h3 _ rfl
    subst he
    obtain ⟨i, z, hi, hsize, hby, hz, _, _⟩ := h2.info
    obtain ⟨av, c, css2, rfl, hr2, hk2, hsrc⟩ := hy.ex
    have hl2 := repCss_len hr2
    have hfl2 := flat_len (fun x hx => (hk2 x hx).1)
    have hfl := flat_len (fun x hx => (hrow x hx).1)
    unfold mostOf at hlen
    have hbb := Nat.mul_le_of_le_div _ _ _ hlen
    have hl0 : css.length + es.length ≤ 140737488355328 := Nat.le_trans hlen (Nat.div_le_self _ _)
    have h0 : es.length ≠ 0 := fun e => hne (List.eq_nil_of_length_eq_zero e)
    obtain ⟨b, o, rfl, hcl⟩ : ∃ b o, av = some ⟨b, o, none⟩ ∧ Cells w b o css2.flatten := hsrc.resolve_left hne
    have hnews := cells_add hcl
    have hln : css2.flatten.length = es.length * i.size := by rw [hfl2, hl2, hsize]
    have hlo : css.flatten.length = css.length * i.size := by rw [hfl, hsize]
    have holds : ∀ j u, css.flatten[j]? = some u → w.cell? (ad.add j) = some u := by
      rcases hcell with rfl | ⟨b', o', h', hc'⟩
      · intro j u hj; simp at hj
      · cases h'; exact cells_add hc'
    have hzs : z.cells.size = i.size := by
      obtain ⟨i', z', g1, g2, _, g4, _, g6⟩ := h2.info
      rw [hi] at g1; cases g1
      rw [hz] at g4; cases g4
      have := repC_len _ _ (g6 [] w)
      have hsz := h2.zsize
      simp at this
      omega
    have hx := run_append_grow (P := P) w t ty e.elem i z h1 hi hz ad css.length css.length css.flatten hlo holds ⟨b, o, none⟩ es.length c css2.flatten hln hnews (by omega) (by omega) (growslice_fits (by omega) (by rw [hby]; omega))
    refine ⟨_, _, css2, hx, ?_, hr2, hk2, ⟨rfl, rfl, rfl, by simp, fun k hk _ => heap_alloc_old w.drew _ hk⟩, fun b hb => by cases hb; exact Nat.le_refl _⟩
    have hge := grownCap_ge w (css.length + es.length) css.length e.elem
    have hcm : grownCap w (css.length + es.length) css.length e.elem ≤ maxLen := grownCap_le_maxLen w _ _ e.elem (by simp only [maxLen]; omega)
    have hlen2 : (css.flatten ++ css2.flatten).length = (css.length + es.length) * i.size := by rw [List.length_append, hlo, hln, Nat.add_mul]
    unfold Sl
    rw [flatMap_id, List.flatten_append, List.length_append, hl2, ← hsize]
    refine ⟨hlen2, .inr ⟨w.heap.size, _, _, rfl, Nat.zero_le _, heap_alloc_new w.drew _, hge, hcm, ?_, ?_⟩⟩
    · simp only [Array.size_append, List.size_toArray, size_zeroCells, hzs, hlo, hln, ← Nat.add_mul]
      congr 1
      omega
    · simp only [Array.toList_append, List.append_assoc]
      rw [← List.append_assoc, ← hlen2]
      exact List.take_left
end
section
variable {C : Cx} {T : Tab} {n kd : Nat} {fr : Fr} {σ : Sg}
/-- without a slot -/
def dropT (t : Nat) : Fr → Fr
  | [] => []
  | (s, d) :: fr => match Nat.beq s t with
    | true => dropT t fr
    | false => (s, d) :: dropT t fr
theorem get_dropped (t : Nat) : ∀ fr : Fr, get (dropT t fr) t = .d .undef
  | [] => rfl
  | (u, d) :: fr => by
    rcases beq_cases u t with ⟨hb, e⟩ | ⟨hb, e⟩
    · simp only [dropT, hb]; exact get_dropped t fr
    · simp only [dropT, hb, get]; exact get_dropped t fr
theorem get_dropT (t s : Nat) : ∀ fr : Fr, get (dropT t fr) s = .d .undef ∨ get (dropT t fr) s = get fr s
  | [] => .inr rfl
  | (u, d) :: fr => by
    rcases beq_cases u t with ⟨hb, e⟩ | ⟨hb, e⟩
    · simp only [dropT, hb]
      rcases get_dropT t s fr with h | h
      · exact .inl h
      · rcases beq_cases u s with ⟨h1, e1⟩ | ⟨h1, e1⟩
        · left
          subst e1
          subst e
          exact get_dropped u fr
        · right; simp only [get, h1]; exact h
    · simp only [dropT, hb, get]
      rcases beq_cases u s with ⟨h1, e1⟩ | ⟨h1, e1⟩
      · right; simp only [h1]
      · simp only [h1]; exact get_dropT t s fr
/-- 'append' to a slice with no room behind it: a new slice -/
theorem op_appClip (g j tx : Nat) {o : Oper} {K : Fr → Sg → Prop} {t : TypeId} {y : Operand} {e ee : TyI} {p : Option Addr} {m k : Nat} {xs es : List Da} (hC : C.Ok T) (ho : o.op = .call { callee := .builtin .append, args := #[.tmp tx, y], argTypes := #[t, t] })
    (he : tyAt t T = some e) (hk2 : e.kd = 2) (hee : tyAt e.elem T = some ee) (hk0 : 0 < ee.size) (hb0 : ee.bytes ≤ 1000) (hkk : k = ee.size) (hx : get fr tx = .d (.raw (.slice p m m))) (hg : sget g σ = some (.ghost [.slice p m m] [.d (.list k xs)])) (hy : elems (ev C.Γ fr y) k σ = some es) (hne : es ≠ []) (hj : sget j σ = none)
    (hkd : kd = 3) (hd : dstOk o.dst n = true) (hlen : xs.length + es.length ≤ mostOf ee.bytes) (hz : okZ (putF o.dst (.own j) (dropT tx fr)) (sins j (.slice e.elem ee.size (xs ++ es)) (sdel id g σ)) = true) (hs : SubS (sins j (.slice e.elem ee.size (xs ++ es)) (sdel id g σ)) (sins j (.slice e.elem ee.size (xs ++ es)) σ)) (hK : forceS (sins j (.slice e.elem ee.size (xs ++ es)) (sdel id g σ)) fun σ => K (putF o.dst (.own j) (dropT tx fr)) σ) : OpSem C n kd o K fr σ := by
  subst hkd
  subst hkk
  refine opSem_or (by decide) (by decide) fun B S w0 η φ a' w hM => ?_
  refine .inr ⟨(fun h => by cases h), .inl ?_⟩
  have ex : a'.eval (.tmp tx) = .slice p m m := by
    obtain ⟨cs, r, e⟩ := rd_da (ev_rep hM (.tmp tx)) hx
    simp only [RepC] at r
    subst r
    exact e
  obtain ⟨_, _, css, h1, h2⟩ := hM.mem.own _ (sget_mem hg)
  simp only [RepDss, RepD, RepC] at h1
  obtain ⟨c1, c2, rfl, ⟨q, c, rows, rfl, h3, h4, h5, h6, h7⟩, rfl⟩ := h1
  have h2 : Value.slice p m m = .slice q xs.length c := by simpa [toVD, toV] using h2
  simp only [Value.slice.injEq] at h2
  obtain ⟨rfl, rfl, rfl⟩ := h2
  have hrl := repCss_len h5
  have hcell : rows = [] ∨ ∃ b o, p = some ⟨b, o, none⟩ ∧ Cells w b o rows.flatten := by
    rcases h7 with h7 | ⟨b, o, h8, _, _, h9⟩
    · left
      rw [h7] at hrl
      exact List.eq_nil_of_length_eq_zero hrl
    · exact .inr ⟨b, o, h8, h9⟩
  have hsrc := elems_ok hM.mem hy (ev_rep hM y)
  obtain ⟨v', w', css2, g1, g2, g3, g4, g5, g6⟩ := append_clip (hC.ty he) hk2 (hC.ty hee) hk0 hb0 h6 hcell hsrc hne (by rw [hrl]; exact hlen) o.type
  rw [hrl] at g1
  have := hM.add (o := .slice e.elem ee.size (xs ++ es)) (v := v') (F := v'.ownBlock.toList) g5 (sget_none hj) (fun b hb => g6 b (by simpa using hb)) (fun O' hl => ⟨rows ++ css2, g2, rfl, repCss_append (RepCss.later hl _ _ h5) (RepCss.later hl _ _ g3), fun x hx => by
    rcases List.mem_append.1 hx with hx | hx
    · exact h6 x hx
    · exact g4 x hx⟩) hd
  rw [forceS_eq] at hK
  have M3 := (this.perm (sins_perm _ _ _)).sub' (fr' := putF o.dst (.own j) (dropT tx fr)) (fun s => by
    cases hdst : o.dst with
    | none => exact get_dropT tx s fr
    | some d =>
      simp only [putF, get]
      rcases beq_cases d s with ⟨h1, _⟩ | ⟨h1, _⟩
      · right; simp only [h1]
      · simp only [h1]; exact get_dropT tx s fr)
  refine ⟨v', w', ?_, _, _, _, _, M3.only hz hs, hK⟩
  simp only [execOp, ho]
  simp only [resolve, invoke, builtin, Sem.run_bind, Sem.run_pure, Result.andThen_ok, List.map_toArray, List.map_cons, List.map_nil, ex, g1]
end
end Go.Sx
end
