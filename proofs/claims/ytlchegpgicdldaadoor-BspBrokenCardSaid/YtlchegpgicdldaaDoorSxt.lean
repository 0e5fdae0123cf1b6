/- The walk is sound: functions, contracts, calls. Short rules for what a walk owes. The walk: calls on owned things that are known by a predicate alone. Bridges between what worlds hold and what the walk knows: slices, arguments. The walk: owned slices given up on the way; calls that look at owned things. Calls walked in the caller's own memory; more ways to give things up on the way. -/
import Derived.Test.YtlchegpgicdldaaDoorSxn
import Derived.Test.YtlchegpgicdldaaDoorArg
namespace Go.Sx
open Go Go.RowKit Go.Reg

section
variable {C : Cx} {T : Tab} {B S : List Nat} {w0 w : World} {n kd : Nat} {fr : Fr} {σ : Sg} {η : Nat → Value} {φ : Nat → List Nat} {a : Act} {v : Value}

theorem asAddr_of_load {P : Program} {t : TypeId} {v u : Value} {w : World} (h : (Instr.loadAt t v).run P w = .ok u w) : (do loadVar t (← asAddr v) : Sem Value).run P w = .ok u w := by
  cases v <;> first | (simp [Instr.loadAt, Instr.sureAddr] at h; done) | skip
  rename_i a
  cases a with
  | none => simp [Instr.loadAt, Instr.sureAddr] at h
  | some a => simpa [Instr.loadAt, Instr.sureAddr, asAddr] using h

def resV (tmps : Array Value) : ResultVar → Sem Value
  | .tmp t => pure (tmps.getD t Go.undef)
  | .cell a t => do loadVar t (← asAddr (tmps.getD a Go.undef))
theorem results_eq (fn : Func) (tmps : Array Value) : results fn tmps = (do let vs ← fn.results.mapM (resV tmps); pure (if h : vs.size = 1 then vs[0] else .tuple vs)) := by
  unfold results
  congr 1

theorem sxRes_ok (hC : C.Ok T) (hM : Models C B S w0 n fr σ η φ a w) : ∀ (rs : List ResultVar) {K : List Dat → Prop}, sxRes T rs fr σ K → ∃ ds vs css, K ds ∧ (rs.mapM (resV a.tmps)).run C.P w = .ok vs w ∧ RepDss η (ids σ) (B ++ blocks φ σ) w ds css ∧ vs = List.zipWith toVD ds css
  | [], K, h => ⟨[], [], [], h, by simp, by simp [RepDss], by simp⟩
  | .tmp t :: rs, K, h => by
    simp only [sxRes] at h
    obtain ⟨ds, vs, css, h1, h2, h3, h4⟩ := sxRes_ok hC hM rs (RD.force h)
    obtain ⟨cs, r1, r2⟩ := hM.fr t
    refine ⟨_, a.tmps.getD t Go.undef :: vs, cs :: css, h1, ?_, ⟨cs, css, rfl, r1, h3⟩, by simp [h4, r2]⟩
    simp only [List.mapM_cons, resV, Sem.run_bind, Sem.run_pure, Result.andThen_ok, h2]
  | .cell t ty :: rs, K, h => by
    simp only [sxRes] at h
    rcases sxLoad_ok hC hM.mem (vx := a.tmps.getD t Go.undef) (hM.fr t) h with h | ⟨d, v, g1, g2, cs, g3, g4⟩
    · exact h.elim
    · obtain ⟨ds, vs, css, h1, h2, h3, h4⟩ := sxRes_ok hC hM rs g1
      refine ⟨_, v :: vs, cs :: css, h1, ?_, ⟨cs, css, rfl, g3, h3⟩, by simp [h4, g4]⟩
      have g5 := asAddr_of_load g2
      simp only [Sem.run_bind] at g5
      simp only [List.mapM_cons, resV, Sem.run_bind, Sem.run_pure, Result.andThen_ok, g5, h2]

theorem allD_rep {ds : List Dat} {xs : List Da} {css : List (List Value)} (h : allD ds = some xs) (hr : RepDss η (ids σ) (B ++ blocks φ σ) w ds css) : RepCss (B ++ blocks φ σ) w xs css ∧ List.zipWith toVD ds css = List.zipWith toV xs css := by
  rw [allD_datas h] at hr ⊢
  exact ⟨datas_rep.1 hr, datas_zip _ _⟩
theorem rd_mkTup {ds : List Dat} {css : List (List Value)} (h : RepDss η (ids σ) (B ++ blocks φ σ) w ds css) : RD B σ η φ w (mkTup ds) (.tuple (List.zipWith toVD ds css).toArray) := by
  unfold mkTup
  split
  · rename_i xs hx
    obtain ⟨h1, h2⟩ := allD_rep hx h
    exact ⟨[_], by simp only [RepD, RepC]; exact ⟨css, h1, by rw [h2]⟩, rfl⟩
  · exact ⟨[_], by simp only [RepD]; exact ⟨css, h, rfl⟩, rfl⟩

/-- what a function leaves -/
def EndK (C : Cx) (B S : List Nat) (w0 : World) (K : Dat → Sg → Prop) (e : Ending) (w' : World) : Prop :=
  ∃ v d σ η φ, e = .returned v ∧ K d σ ∧ Mem C B S w0 σ η φ w' ∧ RD B σ η φ w' d v

theorem end_ok (hC : C.Ok T) {fn : Func} {K : Dat → Sg → Prop} {e : Exit} (h : QK C B S w0 n (sxEnd T fn.results.toList K) e a w) : bodyPost C.P fn (EndK C B S w0 K) e a w := by
  have key : ∀ {fr σ η φ}, Models C B S w0 n fr σ η φ a w → sxRes T fn.results.toList fr σ (fun ds => match ds with
      | [d] => K d σ
      | ds => force (mkTup ds) fun d => K d σ) → a.defers = [] ∧ ∃ v, (results fn a.tmps).run C.P w = .ok v w ∧ EndK C B S w0 K (.returned v) w := by
    intro fr σ η φ hM hr
    obtain ⟨ds, vs, css, h1, h2, h3, h4⟩ := sxRes_ok hC hM _ hr
    refine ⟨hM.defers, ?_⟩
    have hlen : vs.length = ds.length := by
      have : ∀ {ds : List Dat} {css : List (List Value)}, RepDss η (ids σ) (B ++ blocks φ σ) w ds css → css.length = ds.length := by
        intro ds
        induction ds with
        | nil => intro css h; simp only [RepDss] at h; subst h; rfl
        | cons d ds ih => intro css h; simp only [RepDss] at h; obtain ⟨c1, c2, rfl, _, h⟩ := h; simp [ih h]
      rw [h4]; simp [this h3]
    have hmap : (fn.results.mapM (resV a.tmps)).run C.P w = .ok vs.toArray w := by
      rw [Array.mapM_eq_mapM_toList, Sem.run_map, h2]; rfl
    match ds, css, h1, h3, h4, hlen with
    | [d], css, h1, h3, h4, hlen =>
      simp only [RepDss] at h3
      obtain ⟨c1, c2, rfl, r1, rfl⟩ := h3
      simp at h4
      subst h4
      refine ⟨toVD d c1, ?_, _, d, σ, η, φ, rfl, h1, hM.mem, c1, r1, rfl⟩
      rw [results_eq, Sem.run_bind, hmap]
      simp
    | [], css, h1, h3, h4, hlen =>
      have hv : vs = [] := List.eq_nil_of_length_eq_zero hlen
      subst hv
      refine ⟨.tuple #[], ?_, _, _, σ, η, φ, rfl, RD.force h1, hM.mem, ?_⟩
      · rw [results_eq, Sem.run_bind, hmap]
        simp
      · have := rd_mkTup h3; simpa using this
    | d1 :: d2 :: ds, css, h1, h3, h4, hlen =>
      refine ⟨.tuple vs.toArray, ?_, _, _, σ, η, φ, rfl, RD.force h1, hM.mem, ?_⟩
      · rw [results_eq, Sem.run_bind, hmap]
        have : ¬ vs.toArray.size = 1 := by simp; simp at hlen; omega
        simp only [Result.andThen_ok, dif_neg this, Sem.run_pure]
      · have := rd_mkTup h3; rw [h4]; exact this
  cases e with
  | normal => obtain ⟨fr, σ, η, φ, hM, hr⟩ := h; exact key hM hr
  | ret => obtain ⟨fr, σ, η, φ, hM, hr⟩ := h; exact key hM hr
  | exit id => obtain ⟨fr, σ, η, φ, hM, hr⟩ := h; exact hr.elim
  | goto l => obtain ⟨fr, σ, η, φ, hM, hr⟩ := h; exact hr.elim
  | panic ch => exact h.elim
  | outgrown => exact h.elim

/-- a frame at a function's start -/
def params : List Dat → Nat → Fr
  | [], _ => []
  | d :: ds, i => (i, d) :: params ds (i + 1)

theorem params_rep {I O : List Nat} : ∀ {ds : List Dat} {css : List (List Value)} (i : Nat), RepDss η I O w ds css → ∀ (a : Act), (∀ j u, (List.zipWith toVD ds css)[j]? = some u → a.tmps.getD (i + j) Go.undef = u) → ∀ t, ∃ cs, RepD η I O w (get (params ds i) t) cs ∧ a.tmps.getD t Go.undef = toVD (get (params ds i) t) cs
  | [], css, i, h, a, ha, t => ⟨[a.tmps.getD t Go.undef], by simp [params, get, RepD, RepC], rfl⟩
  | d :: ds, css, i, h, a, ha, t => by
    simp only [RepDss] at h
    obtain ⟨c1, c2, rfl, h1, h2⟩ := h
    simp only [params, get]
    rcases beq_cases i t with ⟨hb, e⟩ | ⟨hb, e⟩
    · rw [hb]
      exact ⟨c1, h1, by have := ha 0 _ (by simp; rfl); rw [← e]; simpa using this⟩
    · rw [hb]
      exact params_rep (i + 1) h2 a (fun j u hj => by rw [show i + 1 + j = i + (j + 1) by omega]; exact ha (j + 1) u (by simpa using hj)) t

/-- A FUNCTION, WALKED. -/
theorem calls_of_sx (hC : C.Ok T) {G : List FuncId} {pl : List (Nat × Plan)} {f : FuncId} {fn : Func} {c : Code} (hf : C.P.funcs[f]? = some fn) (hb : fn.body = some c) (hn : fn.ntmps = n) (hk : codeOk C.P G pl c = true) {K : Dat → Sg → Prop}
    {ds : List Dat} {css : List (List Value)} (hr : RepDss η (ids σ) (B ++ blocks φ σ) w ds css) (hl : ds.length ≤ n) (hm : Mem C B S w0 σ η φ w)
    (h : sxCode C T n pl c (sxEnd T fn.results.toList K) (params ds 0) σ) : Calls C.P f (List.zipWith toVD ds css).toArray w (EndK C B S w0 K) := by
  refine calls_of_wp hf hb ?_
  have hlen : (List.zipWith toVD ds css).length = ds.length := by
    have : ∀ {ds : List Dat} {css : List (List Value)}, RepDss η (ids σ) (B ++ blocks φ σ) w ds css → css.length = ds.length := by
      intro ds
      induction ds with
      | nil => intro css h; simp only [RepDss] at h; subst h; rfl
      | cons d ds ih => intro css h; simp only [RepDss] at h; obtain ⟨c1, c2, rfl, _, h⟩ := h; simp [ih h]
    simp [this hr]
  have hM : Models C B S w0 n (params ds 0) σ η φ { tmps := (List.zipWith toVD ds css).toArray ++ Array.replicate (fn.ntmps - (List.zipWith toVD ds css).toArray.size) undef, defers := [] } w := by
    refine ⟨hm, params_rep 0 hr _ (fun j u hj => ?_), rfl, ?_⟩
    · have hlt := (List.getElem?_eq_some_iff.1 hj).1
      simp only [Nat.zero_add, Array.getD_eq_getD_getElem?]
      rw [Array.getElem?_append_left (by simpa using hlt)]
      simp [hj]
    · simp only [Array.size_append, List.size_toArray, Array.size_replicate, hn]; omega
  exact wp_mono (codeSem_iff.1 (sxCode_sound hC c _ _ _ hk h) B S w0 η φ _ w hM) (fun e a w hq => end_ok hC hq)

/-! ### contracts -/
def Glob (C : Cx) (O : List Nat) (w : World) : Prop := ∀ g ∈ C.Γ, GRep O w g

/-- a function that turns nothing that was there: what it answers is among Q -/
def Pure (C : Cx) (f : FuncId) (xs : List Da) (Q : Da → Prop) : Prop :=
  ∀ (O : List Nat) (w : World) (vs : List Value), (∀ b ∈ O, b < w.heap.size) → Glob C O w → Reps O w xs vs →
    (callFunc f vs.toArray).run C.P w = .ok (.enter f vs.toArray) w ∧ Calls C.P f vs.toArray w fun e w' => ∃ v y, e = .returned v ∧ Q y ∧ Rep O w' y v ∧ Tch [] w w'

mutual
/-- tests told by their answers -/
def Da.plain : Da → Da
  | .prop p i => .bool (@decide p i)
  | .agg ds => .agg (plains ds)
  | .tuple ds => .tuple (plains ds)
  | d => d
def plains : List Da → List Da
  | [] => []
  | d :: ds => d.plain :: plains ds
end
theorem toV_plain (d : Da) (cs : List Value) : toV d.plain cs = toV d cs := by cases d <;> rfl
mutual
theorem RepC.plain {O : List Nat} {w : World} : ∀ (d : Da) (cs : List Value), RepC O w d cs → RepC O w d.plain cs
  | .prop p i, cs, h => by simpa only [Da.plain, RepC] using h
  | .agg ds, cs, h => by simp only [Da.plain, RepC] at h ⊢; exact RepCs.plain ds cs h
  | .tuple ds, cs, h => by
    simp only [Da.plain, RepC] at h ⊢
    obtain ⟨css, h1, h2⟩ := h
    obtain ⟨g1, g2⟩ := RepCss.plain ds css h1
    exact ⟨css, g1, by rw [h2, g2]⟩
  | .undef, cs, h => h
  | .int _ _, cs, h => h
  | .bool _, cs, h => h
  | .str _, cs, h => h
  | .nilp, cs, h => h
  | .nils, cs, h => h
  | .nilm, cs, h => h
  | .nilf, cs, h => h
  | .nili, cs, h => h
  | .iface _ _, cs, h => h
  | .ref _, cs, h => h
  | .list _ _, cs, h => h
  | .func _ _ _, cs, h => h
  | .raw _, cs, h => h
theorem RepCs.plain {O : List Nat} {w : World} : ∀ (ds : List Da) (cs : List Value), RepCs O w ds cs → RepCs O w (plains ds) cs
  | [], cs, h => h
  | d :: ds, cs, h => by
    simp only [RepCs, plains] at h ⊢
    obtain ⟨c1, c2, rfl, h1, h2⟩ := h
    exact ⟨c1, c2, rfl, RepC.plain d c1 h1, RepCs.plain ds c2 h2⟩
theorem RepCss.plain {O : List Nat} {w : World} : ∀ (ds : List Da) (css : List (List Value)), RepCss O w ds css → RepCss O w (plains ds) css ∧ List.zipWith toV (plains ds) css = List.zipWith toV ds css
  | [], css, h => ⟨h, rfl⟩
  | d :: ds, css, h => by
    simp only [RepCss, plains] at h ⊢
    obtain ⟨c1, c2, rfl, h1, h2⟩ := h
    obtain ⟨g1, g2⟩ := RepCss.plain ds c2 h2
    exact ⟨⟨c1, c2, rfl, RepC.plain d c1 h1, g1⟩, by simp only [List.zipWith_cons_cons, toV_plain, g2]⟩
end

/-- what stands for a slot's value when all owned things are given up -/
def close (T : Tab) (σ : Sg) : Nat → Dat → Option Da
  | 0, _ => none
  | k + 1, d => match d with
    | .d x => some x
    | .own i => (match sget i σ with
      | some (.slice _ k ds) => some (.list k ds)
      | some (.cells t ds) => (match closeL (close T σ k) ds with
        | some xs => (match tyAt t T with
          | some e => (match e.agg with
            | true => some (.ref (.agg xs))
            | false => (match xs with
              | [x] => some (.ref x)
              | _ => none))
          | none => none)
        | none => none)
      | _ => none)
    | .agg ds => (match closeL (close T σ k) ds with
      | some xs => some (.agg xs)
      | none => none)
    | .tuple ds => (match closeL (close T σ k) ds with
      | some xs => some (.tuple xs)
      | none => none)
    | .iface t d => (match close T σ k d with
      | some x => some (.iface t x)
      | none => none)
    | .func fn f c => (match closeL (close T σ k) f, closeL (close T σ k) c with
      | some fs, some cs => some (.func fn fs cs)
      | _, _ => none)
    | _ => none
where
  closeL (f : Dat → Option Da) : List Dat → Option (List Da)
    | [] => some []
    | d :: ds => match f d, closeL f ds with
      | some x, some xs => some (x :: xs)
      | _, _ => none

/-- by what value a slot's value stands, whatever blocks are out of sight -/
theorem notIn_B (hm : Mem C B S w0 σ η φ w) {i : Nat} (hi : i ∈ ids σ) {b : Nat} (hb : b ∈ φ i) : b ∉ B := fun h => by
  rcases hm.new i hi b hb with h2 | h2
  · exact h2.2 h
  · have := hm.out b h; omega
theorem later_B (_hm : Mem C B S w0 σ η φ w) : Later (B ++ blocks φ σ) w B w := ⟨Nat.le_refl _, fun _ _ _ => rfl, fun _b h _ hm => h (List.mem_append_left _ hm)⟩

theorem close_ok (hm : Mem C B S w0 σ η φ w) : ∀ (k : Nat) (d : Dat) {x : Da} {cs : List Value}, close T σ k d = some x → RepD η (ids σ) (B ++ blocks φ σ) w d cs → RepC B w x cs ∧ toVD d cs = toV x cs
  | 0, d, x, cs, h, hr => by simp [close] at h
  | k + 1, d, x, cs, h, hr => by
    have listC : ∀ (ds : List Dat) {xs : List Da} {cs : List Value}, close.closeL (close T σ k) ds = some xs → RepDs η (ids σ) (B ++ blocks φ σ) w ds cs → RepCs B w xs cs := by
      intro ds
      induction ds with
      | nil => intro xs cs h hr; simp [close.closeL] at h; subst h; simpa [RepDs, RepCs] using hr
      | cons d ds ih =>
        intro xs cs h hr
        simp only [close.closeL] at h
        split at h
        · rename_i x xs' h1 h2
          simp at h; subst h
          simp only [RepDs] at hr
          obtain ⟨c1, c2, rfl, r1, r2⟩ := hr
          exact ⟨c1, c2, rfl, (close_ok hm k d h1 r1).1, ih h2 r2⟩
        · cases h
    have listCs : ∀ (ds : List Dat) {xs : List Da} {css : List (List Value)}, close.closeL (close T σ k) ds = some xs → RepDss η (ids σ) (B ++ blocks φ σ) w ds css → RepCss B w xs css ∧ List.zipWith toVD ds css = List.zipWith toV xs css := by
      intro ds
      induction ds with
      | nil => intro xs cs h hr; simp [close.closeL] at h; subst h; simp only [RepDss] at hr; subst hr; simp [RepCss]
      | cons d ds ih =>
        intro xs cs h hr
        simp only [close.closeL] at h
        split at h
        · rename_i x xs' h1 h2
          simp at h; subst h
          simp only [RepDss] at hr
          obtain ⟨c1, c2, rfl, r1, r2⟩ := hr
          obtain ⟨g1, g2⟩ := close_ok hm k d h1 r1
          obtain ⟨g3, g4⟩ := ih h2 r2
          exact ⟨⟨c1, c2, rfl, g1, g3⟩, by simp [g2, g4]⟩
        · cases h
    simp only [close] at h
    split at h
    · simp at h; subst h
      exact ⟨RepC.later (later_B hm) _ _ (by simpa only [RepD] using hr), rfl⟩
    · rename_i i
      simp only [RepD] at hr
      obtain ⟨hi, rfl⟩ := hr
      split at h
      · rename_i E k' ds hg
        simp at h; subst h
        obtain ⟨css, hs, e2, hrr, hk⟩ := own_slice_val hm hg
        have hl := repCss_len hrr
        have hrB := RepCss.later (later_B hm) _ _ hrr
        refine ⟨?_, rfl⟩
        simp only [RepC]
        rcases hs.shape with ⟨he, hn⟩ | ⟨g, cap, he, hc⟩
        · subst hn
          have : ds = [] := List.eq_nil_of_length_eq_zero hl.symm
          subst this
          exact ⟨none, 0, [], by rw [he]; rfl, by simp, by unfold maxLen; omega, by simp [RepCss], by simp, .inl rfl⟩
        · refine ⟨_, cap, css, by rw [he, hl], by omega, ?_, hrB, hk, .inr ⟨g, 0, rfl, ?_, ?_, sl_cells hs he⟩⟩
          · rcases hs.2 with ⟨h1, _⟩ | ⟨_, _, _, h1, _, _, _, h2, _⟩
            · rw [he] at h1; cases h1
            · rw [he] at h1; cases h1; exact h2
          · exact notIn_B hm hi (by rw [e2, he]; simp [Value.ownBlock])
          · exact hs.lt (by rw [he]; rfl)
      · rename_i t ds hg
        split at h
        · rename_i xs hxs
          split at h
          · rename_i e he
            obtain ⟨b, cs, e1, e2, hb, hrr⟩ := own_cells_val hm hg
            have hxr := listC ds hxs hrr
            have hbB := notIn_B hm hi (b := b) (by rw [e2]; simp)
            have hcell : Cells w b 0 cs := fun j u hj => by have := hb.cell hj; simpa using this
            split at h
            · simp at h; subst h
              refine ⟨?_, rfl⟩
              simp only [RepC]
              exact ⟨b, 0, cs, by rw [e1], hbB, hb.lt, hxr, hcell⟩
            · split at h
              · simp at h; subst h
                refine ⟨?_, rfl⟩
                simp only [RepCs] at hxr
                obtain ⟨c1, c2, rfl, r1, rfl⟩ := hxr
                simp only [RepC]
                exact ⟨b, 0, c1, by rw [e1], hbB, hb.lt, r1, by simpa using hcell⟩
              · cases h
          · cases h
        · cases h
      · cases h
    · split at h
      · rename_i xs hxs
        simp at h; subst h
        simp only [RepD] at hr
        exact ⟨by simp only [RepC]; exact listC _ hxs hr, rfl⟩
      · cases h
    · split at h
      · rename_i xs hxs
        simp at h; subst h
        simp only [RepD] at hr
        obtain ⟨css, r1, rfl⟩ := hr
        obtain ⟨g1, g2⟩ := listCs _ hxs r1
        exact ⟨by simp only [RepC]; exact ⟨css, g1, by rw [g2]⟩, rfl⟩
      · cases h
    · split at h
      · rename_i y hy
        simp at h; subst h
        simp only [RepD] at hr
        obtain ⟨c, r1, rfl⟩ := hr
        obtain ⟨g1, g2⟩ := close_ok hm k _ hy r1
        exact ⟨by simp only [RepC]; exact ⟨c, g1, by rw [g2]⟩, rfl⟩
      · cases h
    · split at h
      · rename_i fs cs' hf hc
        simp at h; subst h
        simp only [RepD] at hr
        obtain ⟨fs0, cs0, r1, r2, rfl⟩ := hr
        obtain ⟨g1, g2⟩ := listCs _ hf r1
        obtain ⟨g3, g4⟩ := listCs _ hc r2
        exact ⟨by simp only [RepC]; exact ⟨fs0, cs0, g1, g3, by rw [g2, g4]⟩, rfl⟩
      · cases h
    · cases h

/-- what is to be shown of a function that turns nothing -/
def PureK (T : Tab) (Q : Da → Prop) : Dat → Sg → Prop := fun d σ => withO (close T σ 9 d) False fun y => Q y.plain

theorem mem_start (hO : ∀ b ∈ B, b < w.heap.size) (hg : Glob C B w) (η : Nat → Value) (φ : Nat → List Nat) : Mem C B [] w [] η φ w :=
  ⟨Tch.refl _ _, by simp, by simp [ids], by simp [ids], by simp [ids], hO, by unfold Glob at hg; simpa [blocks] using hg⟩

theorem pure_of (hC : C.Ok T) {G : List FuncId} {pl : List (Nat × Plan)} {f : FuncId} {fn : Func} {c : Code} (hf : C.P.funcs[f]? = some fn) (hb : fn.body = some c) (hn : fn.ntmps = n) (hrun : ∀ (vs : Array Value) (w : World), (callFunc f vs).run C.P w = .ok (.enter f vs) w) (hk : codeOk C.P G pl c = true) {xs : List Da} {Q : Da → Prop} (hl : xs.length ≤ n)
    (h : sxCode C T n pl c (sxEnd T fn.results.toList (PureK T Q)) (params (datas xs) 0) []) : Pure C f xs Q := by
  intro O w vs hO hg hr
  obtain ⟨css, h1, rfl⟩ := hr
  refine ⟨hrun _ _, ?_⟩
  have hr2 : RepDss (fun _ => Go.undef) (ids []) (O ++ blocks (fun _ => []) []) w (datas xs) css := datas_rep.2 (by simpa [blocks] using h1)
  have hlen : (datas xs).length ≤ n := by
    have : ∀ xs : List Da, (datas xs).length = xs.length := fun xs => by induction xs with | nil => rfl | cons x xs ih => simp [datas, ih]
    rw [this]; exact hl
  have := calls_of_sx hC hf hb hn hk hr2 hlen (mem_start hO hg _ _) h
  rw [datas_zip] at this
  refine this.mono ?_
  rintro e w' ⟨v, d, σ, η, φ, rfl, hK, hm, cs, g1, g2⟩
  unfold PureK at hK
  rcases withO_some hK with hK | ⟨y, hy, hQ⟩
  · exact hK.elim
  obtain ⟨q1, q2⟩ := close_ok hm 9 d hy g1
  exact ⟨v, y.plain, rfl, hQ, ⟨cs, RepC.plain y cs q1, g2.trans (q2.trans (toV_plain y cs).symm)⟩, hm.tch⟩

/-- a call of such a function -/
theorem call_pure {q : Bool} {f : FuncId} {args : List Dat} {xs : List Da} {Q : Da → Prop} {K : KD} (ha : allD args = some xs) (hp : Pure C f xs Q) (hK : ∀ y, Q y → K (.d y) fr σ) : SxCall C q f args K fr σ := by
  unfold SxCall
  rintro B S w0 η φ n a w vs hM ⟨css, hr, rfl⟩
  obtain ⟨h1, h2⟩ := allD_rep ha hr
  rw [h2]
  obtain ⟨g1, g2⟩ := hp (B ++ blocks φ σ) w _ hM.mem.lt hM.mem.glob ⟨css, h1, rfl⟩
  refine ⟨g1, g2.mono ?_⟩
  rintro e w' ⟨v, y, rfl, hQ, hv, ht⟩
  exact ⟨v, .d y, fr, σ, η, φ, rfl, hK y hQ, ⟨hM.mem.grow ht, hM.fr.later (Later.same ht _) (fun i hi => ⟨hi, rfl⟩), hM.defers, hM.size⟩, hv, fun _ => ht.ext⟩
end

end Go.Sx

namespace Go.Sx
open Go Go.RowKit Go.Reg
theorem if_yes {p A B : Prop} (hp : p) (h : A) : (p → A) ∧ (¬ p → B) := ⟨fun _ => h, fun hn => absurd hp hn⟩
theorem if_no {p A B : Prop} (hp : ¬ p) (h : B) : (p → A) ∧ (¬ p → B) := ⟨fun h => absurd h hp, fun _ => h⟩
theorem if_both {p A B : Prop} (h : p → A) (h2 : ¬ p → B) : (p → A) ∧ (¬ p → B) := ⟨h, h2⟩
theorem wrap64_in {e : Int} (h : -9223372036854775808 ≤ e ∧ e ≤ 9223372036854775807) : IntKind.i64.wrap e = e := IntWalk.i64_in _ h
theorem i64_is {e : Int} {K : Int → Prop} (h : -9223372036854775808 ≤ e ∧ e ≤ 9223372036854775807) (hK : K e) : ∃ n, IntKind.i64.wrap e = n ∧ K n := ⟨e, wrap64_in h, hK⟩
theorem wrap_any {k : IntKind} {e : Int} {K : Int → Prop} (hK : K (k.wrap e)) : ∃ n, k.wrap e = n ∧ K n := ⟨_, rfl, hK⟩
/-- an element of a list of data -/
theorem at_is {α : Type} {f : α → Da} {l : List α} {i : Nat} {n : Int} {x : α} {K : Nat → Da → Prop} (hn : n = i) (hx : l[i]? = some x) (hK : K i (f x)) : ∃ (j : Nat) (d : Da), n = j ∧ (l.map f)[j]? = some d ∧ K j d := ⟨i, f x, hn, by simp [hx], hK⟩
theorem at_as {α : Type} {f : α → Da} {l : List α} {i : Nat} {n : Int} {x : α} {K : Nat → Da → Prop} (hx : l[i]? = some x) (hn : n = i) (hK : K i (f x)) : ∃ (j : Nat) (d : Da), n = j ∧ (l.map f)[j]? = some d ∧ K j d := ⟨i, f x, hn, by simp [hx], hK⟩
theorem el_at {len i : Nat} {n : Int} {K : Nat → Prop} (hn : n = i) (hi : i < len) (hK : K i) : ∃ j : Nat, n = j ∧ j < len ∧ K j := ⟨i, hn, hi, hK⟩
theorem el_is {ds : List Da} {i : Nat} {d : Da} {K : Da → Prop} (h : ds[i]? = some d) (hK : K d) : ∃ d, ds[i]? = some d ∧ K d := ⟨d, h, hK⟩
theorem int_is {k : IntKind} {a b : Int} (h : a = b) : Dat.d (.int k a) = Dat.d (.int k b) := by rw [h]
theorem slice_is {E k : Nat} {a b : List Da} (h : a = b) : some (Own.slice E k a) = some (Own.slice E k b) := by rw [h]
theorem mostOf_le {a b : Nat} (h : a ≤ 4294967296) (hb : Nat.ble b 32768 = true) (h0 : Nat.blt 0 b = true) : a ≤ mostOf b := by
  have h1 := Nat.le_of_ble_eq_true hb
  have h2 : 0 < b := Nat.lt_of_lt_of_le (Nat.succ_pos 0) (Nat.le_of_ble_eq_true h0)
  unfold mostOf
  rw [Nat.le_div_iff_mul_le h2]
  exact Nat.le_trans (Nat.mul_le_mul h h1) (by decide)
theorem most_ok {a b : Nat} {K : Prop} (h : a ≤ 4294967296) (hK : K) (hb : Nat.ble b 32768 = true := by rfl) (h0 : Nat.blt 0 b = true := by rfl) : a ≤ mostOf b ∧ K := ⟨mostOf_le h hb h0, hK⟩
theorem most16 {a : Nat} {K : Prop} (h : a ≤ 8796093022208) (hK : K) : a ≤ mostOf 16 ∧ K := ⟨h, hK⟩

/-! ### loops at whose head some owned things are let go -/
def natIn (i : Nat) : List Nat → Bool
  | [] => false
  | j :: l => match Nat.beq j i with
    | true => true
    | false => natIn i l
theorem natIn_mem {i : Nat} : ∀ {l : List Nat}, natIn i l = true → i ∈ l
  | [], h => by cases h
  | j :: l, h => by
    simp only [natIn] at h
    rcases beq_cases j i with ⟨hb, e⟩ | ⟨hb, e⟩
    · simp [e]
    · rw [hb] at h; exact List.mem_cons_of_mem _ (natIn_mem h)
mutual
/-- every mention is one of J -/
def within (J : List Nat) : Dat → Bool
  | .d _ => true
  | .own i => natIn i J
  | .at_ i _ => natIn i J
  | .el i _ _ _ => natIn i J
  | .agg ds => withins J ds
  | .tuple ds => withins J ds
  | .iface _ d => within J d
  | .func _ f c => withins J f && withins J c
def withins (J : List Nat) : List Dat → Bool
  | [] => true
  | d :: ds => within J d && withins J ds
end
section
variable {η : Nat → Value} {I J O O' : List Nat} {w : World}
mutual
theorem RepD.only (hl : Later O w O' w) : ∀ (d : Dat) (cs : List Value), within J d = true → RepD η I O w d cs → RepD η J O' w d cs
  | .d x, cs, _, r => RepC.later hl x cs r
  | .own i, cs, h, r => by simp only [RepD] at r ⊢; exact ⟨natIn_mem h, r.2⟩
  | .at_ i off, cs, h, r => by simp only [RepD] at r ⊢; exact ⟨natIn_mem h, r.2⟩
  | .el i k n off, cs, h, r => by simp only [RepD] at r ⊢; exact ⟨natIn_mem h, r.2⟩
  | .agg ds, cs, h, r => by simp only [RepD] at r ⊢; exact RepDs.only hl ds cs (by simpa only [within] using h) r
  | .tuple ds, cs, h, r => by simp only [RepD] at r ⊢; obtain ⟨css, h1, h2⟩ := r; exact ⟨css, RepDss.only hl ds css (by simpa only [within] using h) h1, h2⟩
  | .iface t d, cs, h, r => by simp only [RepD] at r ⊢; obtain ⟨c, h1, h2⟩ := r; exact ⟨c, RepD.only hl d c (by simpa only [within] using h) h1, h2⟩
  | .func fn f c, cs, h, r => by
    simp only [RepD] at r ⊢
    simp only [within, Bool.and_eq_true] at h
    obtain ⟨fs, cs', h1, h2, h3⟩ := r
    exact ⟨fs, cs', RepDss.only hl f fs h.1 h1, RepDss.only hl c cs' h.2 h2, h3⟩
theorem RepDs.only (hl : Later O w O' w) : ∀ (ds : List Dat) (cs : List Value), withins J ds = true → RepDs η I O w ds cs → RepDs η J O' w ds cs
  | [], cs, _, r => r
  | d :: ds, cs, h, r => by
    simp only [RepDs] at r ⊢
    simp only [withins, Bool.and_eq_true] at h
    obtain ⟨c1, c2, h1, h2, h3⟩ := r
    exact ⟨c1, c2, h1, RepD.only hl d c1 h.1 h2, RepDs.only hl ds c2 h.2 h3⟩
theorem RepDss.only (hl : Later O w O' w) : ∀ (ds : List Dat) (cs : List (List Value)), withins J ds = true → RepDss η I O w ds cs → RepDss η J O' w ds cs
  | [], cs, _, r => r
  | d :: ds, cs, h, r => by
    simp only [RepDss] at r ⊢
    simp only [withins, Bool.and_eq_true] at h
    obtain ⟨c1, c2, h1, h2, h3⟩ := r
    exact ⟨c1, c2, h1, RepD.only hl d c1 h.1 h2, RepDss.only hl ds c2 h.2 h3⟩
end
end
def withinO (J : List Nat) : Own → Bool
  | .cells _ ds => withins J ds
  | .ghost _ ds => withins J ds
  | _ => true
/-- the things of the first are those of the second -/
def SubS : Sg → Sg → Prop
  | [], _ => True
  | (i, o) :: Z, σ => sget i σ = some o ∧ SubS Z σ
def onceB : List Nat → Bool
  | [] => true
  | i :: l => !(natIn i l) && onceB l
def withinF (J : List Nat) : Fr → Bool
  | [] => true
  | (_, d) :: fr => within J d && withinF J fr
def withinS (J : List Nat) : Sg → Bool
  | [] => true
  | (_, o) :: Z => withinO J o && withinS J Z
/-- no mention of what is not there -/
def okZ (fr : Fr) (Z : Sg) : Bool := onceB (ids Z) && withinF (ids Z) fr && withinS (ids Z) Z

section
variable {C : Cx} {B S : List Nat} {w0 w : World} {n : Nat} {fr : Fr} {σ Z : Sg} {η : Nat → Value} {φ : Nat → List Nat} {a : Act}
theorem natIn_not {i : Nat} : ∀ {l : List Nat}, natIn i l = false → i ∉ l
  | [], _ => by simp
  | j :: l, h => by
    simp only [natIn] at h
    rcases beq_cases j i with ⟨hb, e⟩ | ⟨hb, e⟩
    · rw [hb] at h; cases h
    · rw [hb] at h; simp only [List.mem_cons, not_or]; exact ⟨fun e' => e e'.symm, natIn_not h⟩
theorem onceB_nodup : ∀ {l : List Nat}, onceB l = true → l.Nodup
  | [], _ => by simp
  | i :: l, h => by
    simp only [onceB, Bool.and_eq_true, Bool.not_eq_true'] at h
    exact List.nodup_cons.2 ⟨natIn_not h.1, onceB_nodup h.2⟩
theorem SubS.mem : ∀ {Z : Sg}, SubS Z σ → ∀ p ∈ Z, p ∈ σ
  | [], _, p, hp => by cases hp
  | (i, o) :: Z, h, p, hp => by
    rcases List.mem_cons.1 hp with rfl | hp
    · exact sget_mem h.1
    · exact SubS.mem h.2 p hp
theorem SubS.refl' : ∀ {Z : Sg}, (ids Z).Nodup → SubS Z Z := by
  intro Z hn
  have key : ∀ (Y : Sg), (∀ p ∈ Y, sget p.1 Z = some p.2) → SubS Y Z := by
    intro Y
    induction Y with
    | nil => intro _; trivial
    | cons p Y ih => intro h; exact ⟨h p (by simp), ih (fun q hq => h q (by simp [hq]))⟩
  refine key Z ?_
  clear key
  induction Z with
  | nil => intro p hp; cases hp
  | cons q Z ih =>
    obtain ⟨j, o⟩ := q
    intro p hp
    have hn' : j ∉ ids Z ∧ (ids Z).Nodup := List.nodup_cons.1 hn
    rcases List.mem_cons.1 hp with rfl | hp
    · simp [sget]
    · have hne : j ≠ p.1 := fun e => hn'.1 (e ▸ mem_ids hp)
      simp only [sget]
      rcases beq_cases j p.1 with ⟨_, e⟩ | ⟨hb, _⟩
      · exact absurd e hne
      · rw [hb]; exact ih hn'.2 p hp
theorem get_within {J : List Nat} : ∀ {fr : Fr}, withinF J fr = true → ∀ t, within J (get fr t) = true
  | [], _, t => rfl
  | (s, d) :: fr, h, t => by
    simp only [withinF, Bool.and_eq_true] at h
    simp only [get]
    rcases beq_cases s t with ⟨hb, _⟩ | ⟨hb, _⟩ <;> rw [hb]
    · exact h.1
    · exact get_within h.2 t
theorem withinS_mem {J : List Nat} : ∀ {Z : Sg}, withinS J Z = true → ∀ p ∈ Z, withinO J p.2 = true
  | [], _, p, hp => by cases hp
  | (i, o) :: Z, h, p, hp => by
    simp only [withinS, Bool.and_eq_true] at h
    rcases List.mem_cons.1 hp with rfl | hp
    · exact h.1
    · exact withinS_mem h.2 p hp
theorem Own.holds.only {η : Nat → Value} {I J O O' : List Nat} {w : World} {o : Own} {v : Value} {F : List Nat} (hl : Later O w O' w) (h : withinO J o = true) (r : o.holds η I O w v F) : o.holds η J O' w v F := by
  cases o with
  | cells T ds =>
    obtain ⟨b, cs, h1, h2, h3, h4⟩ := r
    exact ⟨b, cs, h1, h2, h3, RepDs.only hl _ _ h h4⟩
  | slice E k ds =>
    obtain ⟨css, h1, h2, h3, h4⟩ := r
    exact ⟨css, h1, h2, RepCss.later hl _ _ h3, h4⟩
  | abs R k lt one => exact r
  | ghost vs ds => obtain ⟨h1, h2, css, h3, h4⟩ := r; exact ⟨h1, h2, css, RepDss.only hl _ _ h h3, h4⟩
theorem Models.only (hM : Models C B S w0 n fr σ η φ a w) (hz : okZ fr Z = true) (hs : SubS Z σ) : Models C B S w0 n fr Z η φ a w := by
  simp only [okZ, Bool.and_eq_true] at hz
  obtain ⟨⟨h1, h2⟩, h3⟩ := hz
  have hmem := hs.mem
  have hsub : ∀ i ∈ ids Z, i ∈ ids σ := fun i hi => by
    obtain ⟨p, hp, rfl⟩ := List.mem_map.1 hi
    exact mem_ids (hmem p hp)
  have hl : Later (B ++ blocks φ σ) w (B ++ blocks φ Z) w := by
    refine ⟨Nat.le_refl _, fun _ _ _ => rfl, fun b hn _ hm => ?_⟩
    rcases List.mem_append.1 hm with hm | hm
    · exact hn (List.mem_append_left _ hm)
    · obtain ⟨p, hp, hb⟩ := List.mem_flatMap.1 hm
      exact hn (List.mem_append_right _ (mem_blocks (mem_ids (hmem p hp)) hb))
  refine ⟨⟨hM.mem.tch, fun p hp => (hM.mem.own p (hmem p hp)).only hl (withinS_mem h3 p hp), onceB_nodup h1, fun i hi j hj => hM.mem.disj i (hsub i hi) j (hsub j hj), fun i hi => hM.mem.new i (hsub i hi), hM.mem.out, fun g hg => (hM.mem.glob g hg).later hl⟩, fun t => ?_, hM.defers, hM.size⟩
  obtain ⟨cs, r1, r2⟩ := hM.fr t
  exact ⟨cs, RepD.only hl _ _ (get_within h2 t) r1, r2⟩

/-- a loop: what stands at each round's head, a number that each round lowers; what else was owned is let go -/
theorem loop_inv {ι : Type} (H : ι → Prop) (I : ι → Fr) (Z : ι → Sg) (μ : ι → Nat) (x0 : ι) {b : Code} {K : KE} (hz : ∀ x, okZ (I x) (Z x) = true) (h0 : H x0) (hI : Sub (I x0) fr) (hZ : SubS (Z x0) σ)
    (round : ∀ x, H x → CodeSem C n b (fun e fr σ => match e with | .normal => ∃ y, H y ∧ Sub (I y) fr ∧ SubS (Z y) σ ∧ μ y < μ x | e => K e fr σ) (I x) (Z x)) : CodeSem C n (.loop b) K fr σ := by
  refine codeSem_iff.2 fun B S w0 η φ a w hM => ?_
  refine wp_loop_ghost (fun m a w => ∃ x η φ, H x ∧ μ x = m ∧ Models C B S w0 n (I x) (Z x) η φ a w) (μ x0) ⟨x0, η, φ, h0, rfl, (hM.sub hI).only (hz x0) hZ⟩ ?_
  rintro m a w ⟨x, η, φ, hx, rfl, hM⟩
  refine wp_mono (codeSem_iff.1 (round x hx) B S w0 η φ a w hM) ?_
  intro e a' w' hq
  cases e with
  | normal =>
    obtain ⟨fr', σ', η', φ', hM', y, h1, h2, h3, h4⟩ := hq
    exact ⟨μ y, h4, y, η', φ', h1, rfl, (hM'.sub h2).only (hz y) h3⟩
  | exit id => exact hq
  | goto l => exact hq
  | ret => exact hq
  | panic ch => exact hq
  | outgrown => exact hq
end
end Go.Sx

namespace Go.Sx
open Go Go.RowKit Go.Reg

/-- an owned thing, known by a predicate -/
structure Absn where
  R : World → Value → List Nat → Prop
  keep : ∀ (S : List Nat) w w' v F, R w v F → Tch S w w' → (∀ x ∈ F, x ∉ S) → R w' v F
  lt : ∀ w v F, R w v F → ∀ x ∈ F, x < w.heap.size
  one : ∀ w v F, R w v F → v.oneCell' = true
def Absn.own (r : Absn) : Own := .abs r.R r.keep r.lt r.one

section
variable {C : Cx} {T : Tab} {B S : List Nat} {w0 w : World} {n kd : Nat} {fr : Fr} {σ : Sg} {η : Nat → Value} {φ : Nat → List Nat} {a : Act} {v : Value} {i : Nat} {r : Absn}

/-- a call that looks at the thing and turns nothing -/
def LookObj (C : Cx) (f : FuncId) (r : Absn) (xs : List Da) (Q : Da → Prop) : Prop :=
  ∀ (O : List Nat) (w : World) (v : Value) (F : List Nat) (us : List Value), r.R w v F → (∀ b ∈ F, b ∈ O) → (∀ b ∈ O, b < w.heap.size) → Glob C O w → Reps O w xs us →
    (callFunc f (v :: us).toArray).run C.P w = .ok (.enter f (v :: us).toArray) w ∧ Calls C.P f (v :: us).toArray w fun e w' => ∃ u y, e = .returned u ∧ Q y ∧ Rep O w' y u ∧ Tch [] w w'
/-- a call that turns the thing and nothing else that was there -/
def TurnObj (C : Cx) (f : FuncId) (r : Absn) (xs : List Da) (Q : Da → Absn → Prop) : Prop :=
  ∀ (O : List Nat) (w : World) (v : Value) (F : List Nat) (us : List Value), r.R w v F → (∀ b ∈ F, b ∈ O) → (∀ b ∈ O, b < w.heap.size) → Glob C O w → Reps O w xs us →
    (callFunc f (v :: us).toArray).run C.P w = .ok (.enter f (v :: us).toArray) w ∧ Calls C.P f (v :: us).toArray w fun e w' => ∃ u y r' F', e = .returned u ∧ Q y r' ∧ r'.R w' v F' ∧ (∀ b ∈ F', b ∈ F ∨ w.heap.size ≤ b) ∧
      (∀ O', (∀ b ∈ O', b ∈ O ∨ b ∈ F') → Rep O' w' y u) ∧ Tch F w w'
def shapeV (sh : Bool) (v u : Value) : Value := match sh with | true => .tuple #[v, u] | false => v
def shapeD (sh : Bool) (j : Nat) (y : Da) : Dat := match sh with | true => .tuple [.own j, .d y] | false => .own j

/-- what a call that makes a thing hands back -/
def Made (sh : Bool) (O : List Nat) (w : World) (Q : Absn → Da → Prop) (e : Ending) (w' : World) : Prop :=
  ∃ v F r y u, e = .returned (shapeV sh v u) ∧ Q r y ∧ r.R w' v F ∧ (∀ b ∈ F, w.heap.size ≤ b) ∧ (∀ O', (∀ b ∈ O', b ∈ O ∨ b ∈ F) → Rep O' w' y u) ∧ Tch [] w w'
def MakeObj (C : Cx) (sh : Bool) (f : FuncId) (xs : List Da) (Q : Absn → Da → Prop) : Prop :=
  ∀ (O : List Nat) (w : World) (us : List Value), (∀ b ∈ O, b < w.heap.size) → Glob C O w → Reps O w xs us →
    (callFunc f us.toArray).run C.P w = .ok (.enter f us.toArray) w ∧ Calls C.P f us.toArray w (Made sh O w Q)
def MakeFrom (C : Cx) (sh : Bool) (f : FuncId) (r : Absn) (xs : List Da) (Q : Absn → Da → Prop) : Prop :=
  ∀ (O : List Nat) (w : World) (v : Value) (F : List Nat) (us : List Value), r.R w v F → (∀ b ∈ F, b ∈ O) → (∀ b ∈ O, b < w.heap.size) → Glob C O w → Reps O w xs us →
    (callFunc f (v :: us).toArray).run C.P w = .ok (.enter f (v :: us).toArray) w ∧ Calls C.P f (v :: us).toArray w (Made sh O w Q)

theorem obj_arg (hM : Models C B S w0 n fr σ η φ a w) (hg : sget i σ = some r.own) {args : List Dat} {xs : List Da} (ha : allD args = some xs) {css : List (List Value)} (hr : RepDss η (ids σ) (B ++ blocks φ σ) w (.own i :: args) css) :
    r.R w (η i) (φ i) ∧ (∀ b ∈ φ i, b ∈ B ++ blocks φ σ) ∧ ∃ us, List.zipWith toVD (.own i :: args) css = η i :: us ∧ Reps (B ++ blocks φ σ) w xs us := by
  have hi := sget_mem hg
  simp only [RepDss] at hr
  obtain ⟨c1, c2, rfl, r1, r2⟩ := hr
  obtain ⟨h1, h2⟩ := allD_rep ha r2
  simp only [RepD] at r1
  obtain ⟨_, rfl⟩ := r1
  exact ⟨hM.mem.own _ hi, fun b hb => List.mem_append_right _ (mem_blocks (mem_ids hi) hb), _, rfl, c2, h1, h2⟩

theorem call_look {q : Bool} {f : FuncId} {args : List Dat} {xs : List Da} {Q : Da → Prop} {K : KD} (hg : sget i σ = some r.own) (ha : allD args = some xs) (hp : LookObj C f r xs Q) (hK : ∀ y, Q y → K (.d y) fr σ) : SxCall C q f (.own i :: args) K fr σ := by
  unfold SxCall
  rintro B S w0 η φ n a w vs hM ⟨css, hr, rfl⟩
  obtain ⟨h1, h2, us, e, h3⟩ := obj_arg hM hg ha hr
  rw [e]
  obtain ⟨g1, g2⟩ := hp _ _ _ _ _ h1 h2 hM.mem.lt hM.mem.glob h3
  refine ⟨g1, g2.mono ?_⟩
  rintro e w' ⟨v, y, rfl, hQ, hv, ht⟩
  exact ⟨v, .d y, fr, σ, η, φ, rfl, hK y hQ, ⟨hM.mem.grow ht, hM.fr.later (Later.same ht _) (fun i hi => ⟨hi, rfl⟩), hM.defers, hM.size⟩, hv, fun _ => ht.ext⟩

theorem call_turn {f : FuncId} {args : List Dat} {xs : List Da} {Q : Da → Absn → Prop} {K : KD} (hg : sget i σ = some r.own) (ha : allD args = some xs) (hp : TurnObj C f r xs Q) (hK : ∀ y r', Q y r' → forceS (sturn id i r'.own σ) fun σ => K (.d y) fr σ) : SxCall C false f (.own i :: args) K fr σ := by
  unfold SxCall
  rintro B S w0 η φ n a w vs hM ⟨css, hr, rfl⟩
  obtain ⟨h1, h2, us, e, h3⟩ := obj_arg hM hg ha hr
  rw [e]
  obtain ⟨g1, g2⟩ := hp _ _ _ _ _ h1 h2 hM.mem.lt hM.mem.glob h3
  refine ⟨g1, g2.mono ?_⟩
  rintro e w' ⟨v, y, r', F', rfl, hQ, hR, hF, hv, ht⟩
  have hi := mem_ids (sget_mem hg)
  have hl := Later.turn B ht (fun b hb => hb) hi hF id r'.own
  have hm := hM.mem.turnSame ht (fun b hb => hb) hi hF (o := r'.own) hR
  have hk := hK y r' hQ
  rw [forceS_eq] at hk
  have hids := ids_sturn id i r'.own σ
  refine ⟨v, .d y, fr, _, η, _, rfl, hk, ⟨hm, hM.fr.later hl (fun j hj => ⟨by rw [hids]; exact hj, rfl⟩), hM.defers, hM.size⟩, ?_, fun h => by cases h⟩
  exact hv _ (fun b hb => by
    rcases List.mem_append.1 hb with hb | hb
    · exact .inl (List.mem_append_left _ hb)
    · rcases sturn_blocks F' b hb with hb | ⟨j, hj, _, hb⟩
      · exact .inr hb
      · exact .inl (List.mem_append_right _ (mem_blocks hj hb)))

theorem made_ok (hM : Models C B S w0 n fr σ η φ a w) {j : Nat} (hj : sget j σ = none) {sh : Bool} {Q : Absn → Da → Prop} {K : KD} (hK : ∀ r y, Q r y → forceS (sins j r.own σ) fun σ => K (shapeD sh j y) fr σ)
    {e : Ending} {w' : World} (h : Made sh (B ++ blocks φ σ) w Q e w') :
    ∃ v d fr' σ' η' φ', e = .returned v ∧ K d fr' σ' ∧ Models C B S w0 n fr' σ' η' φ' a w' ∧ (∃ cs, RepD η' (ids σ') (B ++ blocks φ' σ') w' d cs ∧ v = toVD d cs) ∧ Ext w w' := by
  obtain ⟨v, F, r, y, u, rfl, hQ, hR, hF, hv, ht⟩ := h
  have hj' := sget_none hj
  obtain ⟨hm, hl⟩ := hM.mem.add ht hj' hF (o := r.own) (v := v) hR
  have hM' : Models C B S w0 n fr ((j, r.own) :: σ) (upd η j v) (upd φ j F) a w' := ⟨hm, hM.fr.add hj' hl, hM.defers, hM.size⟩
  have hM2 := hM'.perm (sins_perm j r.own σ)
  have hk := hK r y hQ
  rw [forceS_eq] at hk
  have hin : j ∈ ids (sins j r.own σ) := by
    have := (sins_mem j r.own σ (j, r.own)).2 (by simp)
    exact mem_ids this
  have hbl : ∀ b ∈ B ++ blocks (upd φ j F) (sins j r.own σ), b ∈ B ++ blocks φ σ ∨ b ∈ F := by
    intro b hb
    rcases List.mem_append.1 hb with hb | hb
    · exact .inl (List.mem_append_left _ hb)
    · obtain ⟨p, hp, hb⟩ := List.mem_flatMap.1 hb
      rcases List.mem_cons.1 ((sins_mem j r.own σ p).1 hp) with rfl | hp
      · rw [upd_eq] at hb; exact .inr hb
      · rw [upd_ne _ _ _ (fun (e : p.1 = j) => hj' (e ▸ mem_ids hp))] at hb
        exact .inl (List.mem_append_right _ (mem_blocks (mem_ids hp) hb))
  refine ⟨_, _, fr, _, _, _, rfl, hk, hM2, ?_, ht.ext⟩
  cases sh with
  | false => exact ⟨[v], (show j ∈ _ ∧ [v] = [upd η j v j] from ⟨hin, by rw [upd_eq]⟩), rfl⟩
  | true =>
    obtain ⟨cs, r1, r2⟩ := hv _ hbl
    refine ⟨[.tuple #[v, u]], ?_, rfl⟩
    unfold shapeD
    simp only [RepD]
    refine ⟨[[v], cs], ?_, by simp [toVD, r2]⟩
    simp only [RepDss, RepD]
    exact ⟨[v], [cs], rfl, ⟨hin, by rw [upd_eq]⟩, cs, [], rfl, r1, rfl⟩

theorem call_make (j : Nat) {q sh : Bool} {f : FuncId} {args : List Dat} {xs : List Da} {Q : Absn → Da → Prop} {K : KD} (hj : sget j σ = none) (ha : allD args = some xs) (hp : MakeObj C sh f xs Q) (hK : ∀ r y, Q r y → forceS (sins j r.own σ) fun σ => K (shapeD sh j y) fr σ) : SxCall C q f args K fr σ := by
  unfold SxCall
  rintro B S w0 η φ n a w vs hM ⟨css, hr, rfl⟩
  obtain ⟨h1, h2⟩ := allD_rep ha hr
  rw [h2]
  obtain ⟨g1, g2⟩ := hp (B ++ blocks φ σ) w _ hM.mem.lt hM.mem.glob ⟨css, h1, rfl⟩
  refine ⟨g1, g2.mono fun e w' h => ?_⟩
  obtain ⟨v, d, fr', σ', η', φ', x1, x2, x3, x4, x5⟩ := made_ok hM hj hK h
  exact ⟨v, d, fr', σ', η', φ', x1, x2, x3, x4, fun _ => x5⟩

theorem call_from (j : Nat) {q sh : Bool} {f : FuncId} {args : List Dat} {xs : List Da} {Q : Absn → Da → Prop} {K : KD} (hg : sget i σ = some r.own) (hj : sget j σ = none) (ha : allD args = some xs) (hp : MakeFrom C sh f r xs Q) (hK : ∀ r y, Q r y → forceS (sins j r.own σ) fun σ => K (shapeD sh j y) fr σ) : SxCall C q f (.own i :: args) K fr σ := by
  unfold SxCall
  rintro B S w0 η φ n a w vs hM ⟨css, hr, rfl⟩
  obtain ⟨h1, h2, us, e, h3⟩ := obj_arg hM hg ha hr
  rw [e]
  obtain ⟨g1, g2⟩ := hp _ _ _ _ _ h1 h2 hM.mem.lt hM.mem.glob h3
  refine ⟨g1, g2.mono fun e w' h => ?_⟩
  obtain ⟨v, d, fr', σ', η', φ', x1, x2, x3, x4, x5⟩ := made_ok hM hj hK h
  exact ⟨v, d, fr', σ', η', φ', x1, x2, x3, x4, fun _ => x5⟩
end
end Go.Sx

namespace Go.Sx
open Go Go.RowKit Go.Reg

section
variable {α : Type} {C : Cx} {O : List Nat} {w : World} {v : Value}

/-- a type's plain things: their cells, their data -/
structure Enc (α : Type) where
  enc : α → List Value
  d : α → Da
  k : Nat
  len : ∀ x, (enc x).length = k
  one : ∀ x, ∀ u ∈ enc x, u.oneCell' = true
  rep : ∀ (O : List Nat) (w : World) (x : α), RepC O w (d x) (enc x)

theorem Enc.reps (E : Enc α) (O : List Nat) (w : World) : ∀ l : List α, RepCss O w (l.map E.d) (l.map E.enc)
  | [] => by simp [RepCss]
  | x :: l => by simp only [List.map_cons, RepCss]; exact ⟨_, _, rfl, E.rep O w x, E.reps O w l⟩
theorem Enc.rows (E : Enc α) (l : List α) : ∀ x ∈ l.map E.enc, RowOk E.k x := fun x hx => by
  obtain ⟨y, _, rfl⟩ := List.mem_map.1 hx
  exact ⟨E.len y, E.one y⟩

/-- an owned slice, given up -/
theorem Enc.rep_sl (E : Enc α) {T : Nat} {l : List α} (h : Sl T E.k E.enc w v l) (hb : ∀ b, v.ownBlock = some b → b ∉ O) : Rep O w (.list E.k (l.map E.d)) v := by
  refine ⟨[v], ?_, rfl⟩
  simp only [RepC]
  rcases h.2 with ⟨rfl, h0⟩ | ⟨g, cap, cur, rfl, h0, hg, hc, hm, hs, ht⟩
  · have : l = [] := List.eq_nil_of_length_eq_zero h0
    subst this
    exact ⟨none, 0, [], by simp, by simp, by unfold maxLen; omega, by simp [RepCss], by simp, .inl rfl⟩
  · refine ⟨_, cap, l.map E.enc, by simp, by simpa using hc, hm, E.reps O w l, E.rows l, .inr ⟨g, 0, rfl, hb g rfl, h.lt rfl, ?_⟩⟩
    intro j u hj
    have := World.ownsRow.cells h (g := g) rfl j u (by rw [List.flatMap_def]; exact hj)
    simpa [Addr.add_lit] using this

/-- a slice that came in -/
theorem Enc.rep_arg (E : Enc α) (hk : 0 < E.k) {l : List α} (h : ArgSl E.k E.enc w v l) (hcap : ∀ a n c, v = .slice a n c → n ≤ c ∧ c ≤ maxLen) : Rep [] w (.list E.k (l.map E.d)) v := by
  obtain ⟨a, c, rfl, hm, hc⟩ := h
  obtain ⟨c1, c2⟩ := hcap _ _ _ rfl
  refine ⟨[_], ?_, rfl⟩
  simp only [RepC]
  refine ⟨a, c, l.map E.enc, by simp, by simpa using c1, c2, E.reps [] w l, E.rows l, ?_⟩
  cases l with
  | nil => exact .inl rfl
  | cons x l =>
    right
    obtain ⟨b, o, rfl, h0⟩ := hc 0 x rfl
    have hcell : Cells w b o ((x :: l).map E.enc).flatten := by
      intro j u hj
      have hlen : ∀ (m : List α), (m.map E.enc).flatten.length = m.length * E.k := fun m => by
        induction m with
        | nil => simp
        | cons y m ih => simp only [List.map_cons, List.flatten_cons, List.length_append, ih, E.len, List.length_cons, Nat.succ_mul]; omega
      have hjl : j < (x :: l).length * E.k := by rw [← hlen]; exact (List.getElem?_eq_some_iff.1 hj).1
      have hi : j / E.k < (x :: l).length := (Nat.div_lt_iff_lt_mul hk).2 hjl
      have hy := List.getElem?_eq_getElem hi
      obtain ⟨b', o', he, h2⟩ := hc (j / E.k) _ hy
      cases he
      have := h2 (j % E.k) u (by
        have h3 := flat_at E.len (x :: l) (j / E.k) ((x :: l)[j / E.k]) (j % E.k) hy (Nat.mod_lt _ hk)
        rw [← h3, List.flatMap_def, Nat.mul_comm, Nat.div_add_mod]
        exact hj)
      rwa [Nat.add_assoc, Nat.mul_comm, Nat.div_add_mod] at this
    refine ⟨b, o, rfl, by simp, ?_, hcell⟩
    have hx : ∃ u, (E.enc x)[0]? = some u := ⟨_, List.getElem?_eq_getElem (by rw [E.len]; exact hk)⟩
    obtain ⟨u, hu⟩ := hx
    have := h0 0 u hu
    unfold World.cell? at this
    rcases Nat.lt_or_ge b w.heap.size with hl | hl
    · exact hl
    · rw [Array.getElem?_eq_none (by omega)] at this; cases this

open Go.Deep Go.WideShapes in
theorem cap_of {H : Type} {P : Program} {e' : TypeId × Value → H} {base b0 : Nat} {spare : Nat → Bool} {held : Bool} {r : Reach} {t e : TypeId} {d : DataW H} {ps : List MemPlace} (ht : P.underlying t = some (.slice e))
    (hval : Value.okWide P w r b0 t v) (h : DataW.Trod e' P w base spare held t v d ps) : ∀ a n c, v = .slice a n c → n ≤ c ∧ c ≤ maxLen := by
  obtain ⟨fuel, hf⟩ := h
  rintro a n c rfl
  rcases open_slice ht hf with ⟨h1, _⟩ | ⟨a', len, cap, m, n', D, Pl, h1, hb, hl, hm, _⟩
  · simp [Value.cells] at h1
    obtain ⟨rfl, rfl, rfl⟩ := h1
    exact ⟨Nat.le_refl _, by unfold maxLen; omega⟩
  · simp [Value.cells] at h1
    obtain ⟨rfl, rfl, rfl⟩ := h1
    exact ⟨hl, hm⟩

theorem reps_nil : Reps O w [] [] := ⟨[], by simp [RepCss], rfl⟩
theorem reps_cons {d : Da} {ds : List Da} {vs : List Value} (h1 : Rep O w d v) (h2 : Reps O w ds vs) : Reps O w (d :: ds) (v :: vs) := by
  obtain ⟨cs, r1, rfl⟩ := h1
  obtain ⟨css, r2, rfl⟩ := h2
  exact ⟨cs :: css, ⟨cs, css, rfl, r1, r2⟩, rfl⟩
theorem reps_inv {d : Da} {ds : List Da} {us : List Value} (h : Reps O w (d :: ds) us) : ∃ v vs, us = v :: vs ∧ Rep O w d v ∧ Reps O w ds vs := by
  obtain ⟨css, r, rfl⟩ := h
  simp only [RepCss] at r
  obtain ⟨c1, c2, rfl, r1, r2⟩ := r
  exact ⟨_, _, rfl, ⟨c1, r1, rfl⟩, c2, r2, rfl⟩
theorem reps_inv0 {us : List Value} (h : Reps O w [] us) : us = [] := by
  obtain ⟨css, r, rfl⟩ := h
  simp
theorem rep_int {k : IntKind} {n : Int} (h : Rep O w (.int k n) v) : v = .int k n := by obtain ⟨cs, r, rfl⟩ := h; simp only [RepC] at r; subst r; rfl
theorem rep_str {s : ByteArray} (h : Rep O w (.str s) v) : v = .string s := by obtain ⟨cs, r, rfl⟩ := h; simp only [RepC] at r; subst r; rfl
theorem rep_of_int (k : IntKind) (n : Int) : Rep O w (.int k n) (.int k n) := ⟨[_], by simp [RepC], rfl⟩
theorem rep_of_bool (b : Bool) : Rep O w (.bool b) (.bool b) := ⟨[_], by simp [RepC], rfl⟩
theorem rep_nili : Rep O w .nili .nilIface := ⟨[_], by simp [RepC], rfl⟩

theorem Pure.assume {f : FuncId} {xs : List Da} {Q : Da → Prop} {P : Prop} (hp : ∀ O w us, Reps O w xs us → P) (h : P → Pure C f xs Q) : Pure C f xs Q := fun O w us hO hg hr => h (hp O w us hr) O w us hO hg hr
theorem rep_len {k : Nat} {ds : List Da} (h : Rep O w (.list k ds) v) : ds.length ≤ maxLen := by
  obtain ⟨cs, r, rfl⟩ := h
  simp only [RepC] at r
  obtain ⟨a, c, css, _, h1, h2, _⟩ := r
  omega
theorem reps_len {k : Nat} {ds : List Da} {xs : List Da} {us : List Value} (h : Reps O w xs us) (hm : .list k ds ∈ xs) : ds.length ≤ maxLen := by
  induction xs generalizing us with
  | nil => cases hm
  | cons x xs ih =>
    obtain ⟨v, vs, rfl, h1, h2⟩ := reps_inv h
    rcases List.mem_cons.1 hm with e | hm
    · subst e; exact rep_len h1
    · exact ih h2 hm

/-- from a contract of the engine to a plain one -/
theorem Pure.calls {f : FuncId} {xs : List Da} {Q : Da → Prop} (h : Pure C f xs Q) (hg : Glob C [] w) {us : List Value} (hr : Reps [] w xs us) : Calls C.P f us.toArray w fun e w' => ∃ u y, e = .returned u ∧ Q y ∧ Rep [] w' y u ∧ Tch [] w w' :=
  (h [] w us (by simp) hg hr).2
end
end Go.Sx

namespace Go.Sx
open Go Go.RowKit Go.Reg

/-- what is owned, given up in steps: known from then on as plain data -/
inductive Frz : Fr → Sg → Fr → Sg → Prop
  | refl (fr : Fr) (σ : Sg) : Frz fr σ fr σ
  | slice {fr fr' : Fr} {σ σ' : Sg} (i : Nat) {E k : Nat} {ds : List Da} (h : sget i σ = some (.slice E k ds)) (r : Frz (killF i (.list k ds) fr) (sdel (killO i (.list k ds)) i σ) fr' σ') : Frz fr σ fr' σ'

section
variable {C : Cx} {T : Tab} {B S : List Nat} {w0 w : World} {n : Nat} {fr : Fr} {σ : Sg} {η : Nat → Value} {φ : Nat → List Nat} {a : Act} {i E k : Nat} {ds : List Da}

theorem Models.freeze (hM : Models C B S w0 n fr σ η φ a w) (hg : sget i σ = some (.slice E k ds)) : Models C B S w0 n (killF i (.list k ds) fr) (sdel (killO i (.list k ds)) i σ) η φ a w := by
  have hm := hM.mem
  have hi := mem_ids (sget_mem hg)
  have hsub : ∀ b ∈ B ++ blocks φ (sdel (killO i (.list k ds)) i σ), b ∈ B ∨ ∃ j ∈ ids σ, j ≠ i ∧ b ∈ φ j := by
    intro b hb
    rcases List.mem_append.1 hb with hb | hb
    · exact .inl hb
    · obtain ⟨p, hp, hb⟩ := List.mem_flatMap.1 hb
      obtain ⟨q, hq, hne, rfl⟩ := mem_sdel hp
      exact .inr ⟨q.1, mem_ids hq, hne, hb⟩
  have hl : Later (B ++ blocks φ σ) w (B ++ blocks φ (sdel (killO i (.list k ds)) i σ)) w := ⟨Nat.le_refl _, fun _ _ _ => rfl, fun b hn _ hb => by
    rcases hsub b hb with h | ⟨j, hj, _, h⟩
    · exact hn (List.mem_append_left _ h)
    · exact hn (List.mem_append_right _ (mem_blocks hj h))⟩
  have hr : RepC (B ++ blocks φ (sdel (killO i (.list k ds)) i σ)) w (.list k ds) [η i] := by
    obtain ⟨css, hs, e2, hrr, hk⟩ := own_slice_val hm hg
    have hlen := repCss_len hrr
    have hr2 := RepCss.later hl _ _ hrr
    simp only [RepC]
    rcases hs.shape with ⟨he, hn⟩ | ⟨g, cap, he, hc⟩
    · subst hn
      have : ds = [] := List.eq_nil_of_length_eq_zero hlen.symm
      subst this
      exact ⟨none, 0, [], by rw [he]; rfl, by simp, by unfold maxLen; omega, by simp [RepCss], by simp, .inl rfl⟩
    · have hgi : g ∈ φ i := by rw [e2, he]; simp [Value.ownBlock]
      refine ⟨_, cap, css, by rw [he, hlen], by omega, ?_, hr2, hk, .inr ⟨g, 0, rfl, ?_, hs.lt (by rw [he]; rfl), sl_cells hs he⟩⟩
      · rcases hs.2 with ⟨h1, _⟩ | ⟨_, _, _, h1, _, _, _, h2, _⟩
        · rw [he] at h1; cases h1
        · rw [he] at h1; cases h1; exact h2
      · intro hb
        rcases hsub g hb with h | ⟨j, hj, hne, h⟩
        · exact notIn_B hm hi hgi h
        · exact hm.disj j hj i hi hne g h hgi
  obtain ⟨h1, h2⟩ := hm.del rfl hr
  exact ⟨h1, hM.fr.kill rfl h2 (fun j hj hne => ⟨by rw [ids_sdel]; exact List.mem_filter.2 ⟨hj, by simpa using hne⟩, rfl⟩) hr, hM.defers, hM.size⟩

theorem Frz.models {fr' : Fr} {σ' : Sg} (h : Frz fr σ fr' σ') : Models C B S w0 n fr σ η φ a w → Models C B S w0 n fr' σ' η φ a w := by
  induction h with
  | refl => exact id
  | slice i h r ih => exact fun hM => ih (hM.freeze h)

/-- loop_inv, and some of what is owned is given up at the head -/
theorem loop_frz {ι : Type} (H : ι → Prop) (I : ι → Fr) (Z : ι → Sg) (μ : ι → Nat) (x0 : ι) {b : Code} {K : KE} {fr0 : Fr} {σ0 : Sg} (hz : ∀ x, okZ (I x) (Z x) = true) (h0 : H x0) (hf : Frz fr σ fr0 σ0) (hI : Sub (I x0) fr0) (hZ : SubS (Z x0) σ0)
    (round : ∀ x, H x → CodeSem C n b (fun e fr σ => match e with | .normal => ∃ y fr' σ', H y ∧ Frz fr σ fr' σ' ∧ Sub (I y) fr' ∧ SubS (Z y) σ' ∧ μ y < μ x | e => K e fr σ) (I x) (Z x)) : CodeSem C n (.loop b) K fr σ := by
  refine codeSem_iff.2 fun B S w0 η φ a w hM => ?_
  refine wp_loop_ghost (fun m a w => ∃ x η φ, H x ∧ μ x = m ∧ Models C B S w0 n (I x) (Z x) η φ a w) (μ x0) ⟨x0, η, φ, h0, rfl, ((hf.models hM).sub hI).only (hz x0) hZ⟩ ?_
  rintro m a w ⟨x, η, φ, hx, rfl, hM⟩
  refine wp_mono (codeSem_iff.1 (round x hx) B S w0 η φ a w hM) ?_
  intro e a' w' hq
  cases e with
  | normal =>
    obtain ⟨fr', σ', η', φ', hM', y, f2, s2, h1, hf, h2, h3, h4⟩ := hq
    exact ⟨μ y, h4, y, η', φ', h1, rfl, ((hf.models hM').sub h2).only (hz y) h3⟩
  | exit id => exact hq
  | goto l => exact hq
  | ret => exact hq
  | panic ch => exact hq
  | outgrown => exact hq

mutual
/-- a datum that points nowhere -/
def Da.flat : Da → Bool
  | .undef | .int _ _ | .bool _ | .prop _ _ | .str _ | .nilp | .nils | .nilm | .nilf | .nili => true
  | .agg ds => flats ds
  | .tuple ds => flats ds
  | _ => false
def flats : List Da → Bool
  | [] => true
  | d :: ds => d.flat && flats ds
end
mutual
theorem RepC.flat {O O' : List Nat} {w w' : World} : ∀ (d : Da) (cs : List Value), d.flat = true → RepC O w d cs → RepC O' w' d cs
  | .agg ds, cs, h, r => by simp only [RepC] at r ⊢; exact RepCs.flat ds cs (by simpa only [Da.flat] using h) r
  | .tuple ds, cs, h, r => by simp only [RepC] at r ⊢; obtain ⟨css, h1, h2⟩ := r; exact ⟨css, RepCss.flat ds css (by simpa only [Da.flat] using h) h1, h2⟩
  | .undef, cs, _, r => r
  | .int _ _, cs, _, r => r
  | .bool _, cs, _, r => r
  | .prop _ _, cs, _, r => r
  | .str _, cs, _, r => r
  | .nilp, cs, _, r => r
  | .nils, cs, _, r => r
  | .nilm, cs, _, r => r
  | .nilf, cs, _, r => r
  | .nili, cs, _, r => r
  | .iface _ _, cs, h, _ => by simp [Da.flat] at h
  | .ref _, cs, h, _ => by simp [Da.flat] at h
  | .list _ _, cs, h, _ => by simp [Da.flat] at h
  | .func _ _ _, cs, h, _ => by simp [Da.flat] at h
  | .raw _, cs, h, _ => by simp [Da.flat] at h
theorem RepCs.flat {O O' : List Nat} {w w' : World} : ∀ (ds : List Da) (cs : List Value), flats ds = true → RepCs O w ds cs → RepCs O' w' ds cs
  | [], cs, _, r => r
  | d :: ds, cs, h, r => by
    simp only [RepCs] at r ⊢
    simp only [flats, Bool.and_eq_true] at h
    obtain ⟨c1, c2, h1, h2, h3⟩ := r
    exact ⟨c1, c2, h1, RepC.flat d c1 h.1 h2, RepCs.flat ds c2 h.2 h3⟩
theorem RepCss.flat {O O' : List Nat} {w w' : World} : ∀ (ds : List Da) (css : List (List Value)), flats ds = true → RepCss O w ds css → RepCss O' w' ds css
  | [], cs, _, r => r
  | d :: ds, cs, h, r => by
    simp only [RepCss] at r ⊢
    simp only [flats, Bool.and_eq_true] at h
    obtain ⟨c1, c2, h1, h2, h3⟩ := r
    exact ⟨c1, c2, h1, RepC.flat d c1 h.1 h2, RepCss.flat ds c2 h.2 h3⟩
end

theorem closeL_ok (hm : Mem C B S w0 σ η φ w) {m : Nat} : ∀ (ds : List Dat) {xs : List Da} {css : List (List Value)}, close.closeL (close T σ m) ds = some xs → RepDss η (ids σ) (B ++ blocks φ σ) w ds css → RepCss B w xs css ∧ List.zipWith toVD ds css = List.zipWith toV xs css
  | [], xs, css, h, hr => by simp [close.closeL] at h; subst h; simp only [RepDss] at hr; subst hr; simp [RepCss]
  | d :: ds, xs, css, h, hr => by
    simp only [close.closeL] at h
    split at h
    · rename_i x xs' h1 h2
      simp at h; subst h
      simp only [RepDss] at hr
      obtain ⟨c1, c2, rfl, r1, r2⟩ := hr
      obtain ⟨g1, g2⟩ := close_ok hm m d h1 r1
      obtain ⟨g3, g4⟩ := closeL_ok hm ds h2 r2
      exact ⟨⟨c1, c2, rfl, g1, g3⟩, by simp [g2, g4]⟩
    · cases h

/-- a call that looks at owned things as at plain data; its answer points nowhere -/
theorem call_borrow {q : Bool} {f : FuncId} {args : List Dat} {xs : List Da} {Q : Da → Prop} {K : KD} (T : Tab) (ha : close.closeL (close T σ 9) args = some xs) (hp : Pure C f xs Q) (hfl : ∀ y, Q y → y.flat = true) (hK : ∀ y, Q y → K (.d y) fr σ) : SxCall C q f args K fr σ := by
  unfold SxCall
  rintro B S w0 η φ n a w vs hM ⟨css, hr, rfl⟩
  obtain ⟨h1, h2⟩ := closeL_ok hM.mem args ha hr
  rw [h2]
  have hgl : Glob C B w := fun g hg => (hM.mem.glob g hg).later (later_B hM.mem)
  obtain ⟨g1, g2⟩ := hp B w _ (fun b hb => hM.mem.lt b (List.mem_append_left _ hb)) hgl ⟨css, h1, rfl⟩
  refine ⟨g1, g2.mono ?_⟩
  rintro e w' ⟨v, y, rfl, hQ, ⟨cs, hv, e2⟩, ht⟩
  exact ⟨v, .d y, fr, σ, η, φ, rfl, hK y hQ, ⟨hM.mem.grow ht, hM.fr.later (Later.same ht _) (fun i hi => ⟨hi, rfl⟩), hM.defers, hM.size⟩, ⟨cs, RepC.flat y cs (hfl y hQ) hv, e2⟩, fun _ => ht.ext⟩
end
theorem rem_ok {b : Int} {K : Prop} (h : b ≠ 0) (hK : K) : b ≠ 0 ∧ K := ⟨h, hK⟩
theorem tmod_nn {a b : Int} (h : 0 ≤ a) : a.tmod b = a % b := Int.tmod_eq_emod_of_nonneg h
end Go.Sx

namespace Go.Sx
open Go Go.RowKit Go.Reg

section
variable {C : Cx} {T : Tab} {B S : List Nat} {w0 w : World} {n kd : Nat} {fr fr' : Fr} {σ σ' : Sg} {η : Nat → Value} {φ : Nat → List Nat} {a : Act} {i E k : Nat} {ds : List Da}

/-! ### data told more loosely -/
mutual
inductive LaxA : Da → Da → Prop
  | refl (x : Da) : LaxA x x
  | nils (k : Nat) : LaxA .nils (.list k [])
  | prop {p : Prop} {i : Decidable p} (b : Bool) (h : @decide p i = b) : LaxA (.prop p i) (.bool b)
  | agg {xs ys : List Da} (h : LaxAs xs ys) : LaxA (.agg xs) (.agg ys)
  | tuple {xs ys : List Da} (h : LaxAs xs ys) : LaxA (.tuple xs) (.tuple ys)
inductive LaxAs : List Da → List Da → Prop
  | nil : LaxAs [] []
  | cons {x y : Da} {xs ys : List Da} (h : LaxA x y) (r : LaxAs xs ys) : LaxAs (x :: xs) (y :: ys)
end
theorem LaxA.yes {p : Prop} {i : Decidable p} (h : p) : LaxA (.prop p i) (.bool true) := .prop _ (@decide_eq_true p i h)
theorem LaxA.no {p : Prop} {i : Decidable p} (h : ¬ p) : LaxA (.prop p i) (.bool false) := .prop _ (@decide_eq_false p i h)
theorem LaxA.eq {x y : Da} (h : x = y) : LaxA x y := h ▸ .refl x
theorem laxA_toV {x y : Da} (h : LaxA x y) (cs : List Value) : toV x cs = toV y cs := by cases h <;> rfl
mutual
theorem RepC.lax {O : List Nat} : ∀ {x y : Da} {cs : List Value}, LaxA x y → RepC O w x cs → RepC O w y cs
  | _, _, cs, .refl _, r => r
  | _, _, cs, .nils k, r => by
    simp only [RepC] at r ⊢
    exact ⟨none, 0, [], by rw [r]; rfl, by simp, by unfold maxLen; omega, by simp [RepCss], by simp, .inl trivial⟩
  | _, _, cs, .prop b h, r => by subst h; simpa only [RepC] using r
  | _, _, cs, .agg h, r => by simp only [RepC] at r ⊢; exact RepCs.lax h r
  | _, _, cs, .tuple h, r => by
    simp only [RepC] at r ⊢
    obtain ⟨css, h1, h2⟩ := r
    obtain ⟨g1, g2⟩ := RepCss.lax h h1
    exact ⟨css, g1, by rw [h2, g2]⟩
theorem RepCs.lax {O : List Nat} : ∀ {xs ys : List Da} {cs : List Value}, LaxAs xs ys → RepCs O w xs cs → RepCs O w ys cs
  | _, _, cs, .nil, r => r
  | _, _, cs, .cons h hs, r => by
    simp only [RepCs] at r ⊢
    obtain ⟨c1, c2, e, h1, h2⟩ := r
    exact ⟨c1, c2, e, RepC.lax h h1, RepCs.lax hs h2⟩
theorem RepCss.lax {O : List Nat} : ∀ {xs ys : List Da} {css : List (List Value)}, LaxAs xs ys → RepCss O w xs css → RepCss O w ys css ∧ List.zipWith toV xs css = List.zipWith toV ys css
  | _, _, css, .nil, r => ⟨r, rfl⟩
  | _, _, css, .cons h hs, r => by
    simp only [RepCss] at r ⊢
    obtain ⟨c1, c2, rfl, h1, h2⟩ := r
    obtain ⟨g1, g2⟩ := RepCss.lax hs h2
    exact ⟨⟨c1, c2, rfl, RepC.lax h h1, g1⟩, by rw [List.zipWith_cons_cons, List.zipWith_cons_cons, g2, laxA_toV h]⟩
end
inductive LaxD : List Dat → List Dat → Prop
  | nil : LaxD [] []
  | same (d : Dat) {ds es : List Dat} (r : LaxD ds es) : LaxD (d :: ds) (d :: es)
  | lax {x y : Da} {ds es : List Dat} (h : LaxA x y) (r : LaxD ds es) : LaxD (.d x :: ds) (.d y :: es)
theorem RepDs.lax {I O : List Nat} {ds es : List Dat} (h : LaxD ds es) : ∀ {cs : List Value}, RepDs η I O w ds cs → RepDs η I O w es cs := by
  induction h with
  | nil => intro cs r; exact r
  | same d h ih => intro cs r; simp only [RepDs] at r ⊢; obtain ⟨c1, c2, e, h1, h2⟩ := r; exact ⟨c1, c2, e, h1, ih h2⟩
  | lax hx h ih => intro cs r; simp only [RepDs] at r ⊢; obtain ⟨c1, c2, e, h1, h2⟩ := r; exact ⟨c1, c2, e, RepC.lax hx h1, ih h2⟩

theorem Models.laxF (hM : Models C B S w0 n fr σ η φ a w) {t : Nat} {x y : Da} (hg : get fr t = .d x) (hl : LaxA x y) : Models C B S w0 n ((t, .d y) :: fr) σ η φ a w := by
  refine ⟨hM.mem, fun s => ?_, hM.defers, hM.size⟩
  simp only [get]
  rcases beq_cases t s with ⟨hb, e⟩ | ⟨hb, _⟩ <;> rw [hb]
  · subst e
    obtain ⟨cs, r1, r2⟩ := hM.fr t
    rw [hg] at r1 r2
    exact ⟨cs, RepC.lax hl r1, r2.trans (laxA_toV hl cs)⟩
  · exact hM.fr s
theorem Models.laxO (hM : Models C B S w0 n fr σ η φ a w) {t : TypeId} {ds es : List Dat} (hg : sget i σ = some (.cells t ds)) (hl : LaxD ds es) : Models C B S w0 n fr (sturn id i (.cells t es) σ) η φ a w := by
  have hi := mem_ids (sget_mem hg)
  have he : upd φ i (φ i) = φ := by funext j; by_cases e : j = i <;> simp [upd, e]
  have hll := Later.turn (X := []) (w' := w) B (Tch.refl [] w) (by simp) hi (F := φ i) (fun b hb => .inl hb) id (.cells t es)
  rw [he] at hll
  have := hM.mem.turnSame (X := []) (w' := w) (Tch.refl [] w) (by simp) hi (F := φ i) (fun b hb => .inl hb) (o := .cells t es) (by
    rw [he]
    obtain ⟨b, cs, h1, h2, h3, h4⟩ := hM.mem.own _ (sget_mem hg)
    exact ⟨b, cs, h1, h2, h3, RepDs.lax hl (RepDs.later hll (fun j hj => ⟨hj, rfl⟩) _ _ h4)⟩)
  rw [he] at this
  exact ⟨this, hM.fr.later hll (fun j hj => ⟨by rw [ids_sturn]; exact hj, rfl⟩), hM.defers, hM.size⟩

/-- a nil slice is owned, with nothing in it -/
theorem Models.nilO (hM : Models C B S w0 n fr σ η φ a w) (E k : Nat) (hi : sget i σ = none) : Models C B S w0 n fr ((i, .slice E k []) :: σ) (upd η i (.slice none 0 0)) (upd φ i []) a w := by
  have hi' := sget_none hi
  obtain ⟨hm, hl⟩ := hM.mem.add (Tch.refl [] w) hi' (v := .slice none 0 0) (F := []) (o := .slice E k []) (by simp) ⟨[], Sl.nil _ _ _ _, rfl, by simp [RepCss], by simp⟩
  exact ⟨hm, hM.fr.add hi' hl, hM.defers, hM.size⟩
theorem Models.ownF (hM : Models C B S w0 n fr σ η φ a w) (E k : Nat) {t : Nat} (hg : get fr t = .d .nils) (hi : sget i σ = none) : Models C B S w0 n ((t, .own i) :: fr) ((i, .slice E k []) :: σ) (upd η i (.slice none 0 0)) (upd φ i []) a w := by
  have h1 := hM.nilO E k hi
  refine ⟨h1.mem, fun s => ?_, h1.defers, h1.size⟩
  simp only [get]
  rcases beq_cases t s with ⟨hb, e⟩ | ⟨hb, _⟩ <;> rw [hb]
  · subst e
    obtain ⟨cs, r1, r2⟩ := h1.fr t
    rw [hg] at r1 r2
    simp only [RepD, RepC] at r1
    subst r1
    refine ⟨[.slice none 0 0], ?_, r2⟩
    simp only [RepD]
    exact ⟨by simp [ids], by rw [upd_eq]⟩
  · exact h1.fr s
inductive OwnF (i : Nat) : List Dat → List Dat → Prop
  | here (ds : List Dat) : OwnF i (.d .nils :: ds) (.own i :: ds)
  | there (d : Dat) {ds es : List Dat} (r : OwnF i ds es) : OwnF i (d :: ds) (d :: es)
theorem RepDs.ownF {I O : List Nat} (hi : i ∈ I) (he : η i = .slice none 0 0) {ds es : List Dat} (h : OwnF i ds es) : ∀ {cs : List Value}, RepDs η I O w ds cs → RepDs η I O w es cs := by
  induction h with
  | here ds =>
    intro cs r
    simp only [RepDs, RepD, RepC] at r ⊢
    obtain ⟨c1, c2, e, rfl, h2⟩ := r
    exact ⟨_, c2, e, ⟨hi, by rw [he]⟩, h2⟩
  | there d _ ih =>
    intro cs r
    simp only [RepDs] at r ⊢
    obtain ⟨c1, c2, e, h1, h2⟩ := r
    exact ⟨c1, c2, e, h1, ih h2⟩
theorem Models.ownO (hM0 : Models C B S w0 n fr σ η φ a w) (E k : Nat) {c : Nat} {t : TypeId} {ds es : List Dat} (hi : sget i σ = none) (hg : sget c ((i, .slice E k []) :: σ) = some (.cells t ds)) (hl : OwnF i ds es) :
    Models C B S w0 n fr (sturn id c (.cells t es) ((i, .slice E k []) :: σ)) (upd η i (.slice none 0 0)) (upd φ i []) a w := by
  have hM := hM0.nilO E k hi
  generalize hη : upd η i (Value.slice none 0 0) = η1 at hM ⊢
  generalize hφ : upd φ i ([] : List Nat) = φ1 at hM ⊢
  have hηi : η1 i = .slice none 0 0 := by rw [← hη, upd_eq]
  generalize hσ : (i, Own.slice E k []) :: σ = σ1 at hM hg ⊢
  have hii : i ∈ ids σ1 := by rw [← hσ]; simp [ids]
  have hc := mem_ids (sget_mem hg)
  have he : upd φ1 c (φ1 c) = φ1 := by funext j; by_cases e : j = c <;> simp [upd, e]
  have hll := Later.turn (X := []) (w' := w) B (Tch.refl [] w) (by simp) hc (F := φ1 c) (fun b hb => .inl hb) id (.cells t es)
  rw [he] at hll
  have := hM.mem.turnSame (X := []) (w' := w) (Tch.refl [] w) (by simp) hc (F := φ1 c) (fun b hb => .inl hb) (o := .cells t es) (by
    rw [he]
    obtain ⟨b, cs, h1, h2, h3, h4⟩ := hM.mem.own _ (sget_mem hg)
    exact ⟨b, cs, h1, h2, h3, RepDs.ownF hii hηi hl (RepDs.later hll (fun j hj => ⟨hj, rfl⟩) _ _ h4)⟩)
  rw [he] at this
  exact ⟨this, hM.fr.later hll (fun j hj => ⟨by rw [ids_sturn]; exact hj, rfl⟩), hM.defers, hM.size⟩

/-- what is known, told more loosely, in steps; owned slices given up -/
inductive Lo : Fr → Sg → Fr → Sg → Prop
  | refl (fr : Fr) (σ : Sg) : Lo fr σ fr σ
  | frz {fr fr' : Fr} {σ σ' : Sg} (i : Nat) {E k : Nat} {ds : List Da} (h : sget i σ = some (.slice E k ds)) (r : Lo (killF i (.list k ds) fr) (sdel (killO i (.list k ds)) i σ) fr' σ') : Lo fr σ fr' σ'
  | lax {fr fr' : Fr} {σ σ' : Sg} (t : Nat) {x y : Da} (h : get fr t = .d x) (hl : LaxA x y) (r : Lo ((t, .d y) :: fr) σ fr' σ') : Lo fr σ fr' σ'
  | laxc {fr fr' : Fr} {σ σ' : Sg} (i : Nat) {t : TypeId} {ds es : List Dat} (h : sget i σ = some (.cells t ds)) (hl : LaxD ds es) (r : Lo fr (sturn id i (.cells t es) σ) fr' σ') : Lo fr σ fr' σ'
  | same {fr fr' : Fr} {σ σ' : Sg} {fr1 : Fr} (h : Sub fr1 fr) (r : Lo fr1 σ fr' σ') : Lo fr σ fr' σ'
  | own {fr fr' : Fr} {σ σ' : Sg} (t i E k : Nat) (h : get fr t = .d .nils) (hi : sget i σ = none) (r : Lo ((t, .own i) :: fr) ((i, .slice E k []) :: σ) fr' σ') : Lo fr σ fr' σ'
  | ownc {fr fr' : Fr} {σ σ' : Sg} (c i E k : Nat) {t : TypeId} {ds es : List Dat} (hi : sget i σ = none) (h : sget c ((i, .slice E k []) :: σ) = some (.cells t ds)) (hl : OwnF i ds es) (r : Lo fr (sturn id c (.cells t es) ((i, .slice E k []) :: σ)) fr' σ') : Lo fr σ fr' σ'
theorem Lo.models (h : Lo fr σ fr' σ') : ∀ {η : Nat → Value} {φ : Nat → List Nat}, Models C B S w0 n fr σ η φ a w → ∃ η' φ', Models C B S w0 n fr' σ' η' φ' a w := by
  induction h with
  | refl => exact fun hM => ⟨_, _, hM⟩
  | frz i h r ih => exact fun hM => ih (hM.freeze h)
  | lax t h hl r ih => exact fun hM => ih (hM.laxF h hl)
  | laxc i h hl r ih => exact fun hM => ih (hM.laxO h hl)
  | same h r ih => exact fun hM => ih (hM.sub h)
  | own t i E k h hi r ih => exact fun hM => ih (hM.ownF E k h hi)
  | ownc c i E k hi h hl r ih => exact fun hM => ih (hM.ownO E k hi h hl)

/-- loop_inv, and at the head some things are given up or told more loosely -/
theorem loop_lo {ι : Type} (H : ι → Prop) (I : ι → Fr) (Z : ι → Sg) (μ : ι → Nat) (x0 : ι) {b : Code} {K : KE} {fr0 : Fr} {σ0 : Sg} (hz : ∀ x, okZ (I x) (Z x) = true) (h0 : H x0) (hf : Lo fr σ fr0 σ0) (hI : Sub (I x0) fr0) (hZ : SubS (Z x0) σ0)
    (round : ∀ x, H x → CodeSem C n b (fun e fr σ => match e with | .normal => ∃ y fr' σ', H y ∧ Lo fr σ fr' σ' ∧ Sub (I y) fr' ∧ SubS (Z y) σ' ∧ μ y < μ x | e => K e fr σ) (I x) (Z x)) : CodeSem C n (.loop b) K fr σ := by
  refine codeSem_iff.2 fun B S w0 η φ a w hM => ?_
  obtain ⟨η, φ, hM⟩ := hf.models hM
  refine wp_loop_ghost (fun m a w => ∃ x η φ, H x ∧ μ x = m ∧ Models C B S w0 n (I x) (Z x) η φ a w) (μ x0) ⟨x0, η, φ, h0, rfl, (hM.sub hI).only (hz x0) hZ⟩ ?_
  rintro m a w ⟨x, η, φ, hx, rfl, hM⟩
  refine wp_mono (codeSem_iff.1 (round x hx) B S w0 η φ a w hM) ?_
  intro e a' w' hq
  cases e with
  | normal =>
    obtain ⟨fr', σ', η', φ', hM', y, f2, s2, h1, hf, h2, h3, h4⟩ := hq
    obtain ⟨η', φ', hM'⟩ := hf.models hM'
    exact ⟨μ y, h4, y, η', φ', h1, rfl, (hM'.sub h2).only (hz y) h3⟩
  | exit id => exact hq
  | goto l => exact hq
  | ret => exact hq
  | panic ch => exact hq
  | outgrown => exact hq

theorem op_lo {o : Oper} {K : Fr → Sg → Prop} (hf : Lo fr σ fr' σ') (h : OpSem C n kd o K fr' σ') : OpSem C n kd o K fr σ := by
  unfold OpSem at h ⊢
  intro B S w0 η φ a w hM
  obtain ⟨η', φ', hM'⟩ := hf.models hM
  exact h B S w0 η' φ' a w hM'
theorem code_lo {c : Code} {K : KE} (hf : Lo fr σ fr' σ') (h : CodeSem C n c K fr' σ') : CodeSem C n c K fr σ := by
  unfold CodeSem at h ⊢
  intro B S w0 η φ a w hM
  obtain ⟨η', φ', hM'⟩ := hf.models hM
  exact h B S w0 η' φ' a w hM'
/-- an operation again, behind some things given up -/
theorem op_again (hC : C.Ok T) {G : List FuncId} {o : Oper} {K : Fr → Sg → Prop} (hf : Lo fr σ fr' σ') (hks : kindOf C.P G o = kd ∨ kd = 3) (h : sxOper C T n kd o K fr' σ') : OpSem C n kd o K fr σ :=
  op_lo hf (sxOper_sound hC hks h)

theorem Models.freezeArgs (hM : Models C B S w0 n fr σ η φ a w) (hg : sget i σ = some (.slice E k ds)) {args : List Dat} {css : List (List Value)} (hr : RepDss η (ids σ) (B ++ blocks φ σ) w args css) :
    RepDss η (ids (sdel (killO i (.list k ds)) i σ)) (B ++ blocks φ (sdel (killO i (.list k ds)) i σ)) w (kills i (.list k ds) args) css := by
  have hm := hM.mem
  have hi := mem_ids (sget_mem hg)
  have hsub : ∀ b ∈ B ++ blocks φ (sdel (killO i (.list k ds)) i σ), b ∈ B ∨ ∃ j ∈ ids σ, j ≠ i ∧ b ∈ φ j := by
    intro b hb
    rcases List.mem_append.1 hb with hb | hb
    · exact .inl hb
    · obtain ⟨p, hp, hb⟩ := List.mem_flatMap.1 hb
      obtain ⟨q, hq, hne, rfl⟩ := mem_sdel hp
      exact .inr ⟨q.1, mem_ids hq, hne, hb⟩
  have hl : Later (B ++ blocks φ σ) w (B ++ blocks φ (sdel (killO i (.list k ds)) i σ)) w := ⟨Nat.le_refl _, fun _ _ _ => rfl, fun b hn _ hb => by
    rcases hsub b hb with h | ⟨j, hj, _, h⟩
    · exact hn (List.mem_append_left _ h)
    · exact hn (List.mem_append_right _ (mem_blocks hj h))⟩
  have hr0 : RepC (B ++ blocks φ (sdel (killO i (.list k ds)) i σ)) w (.list k ds) [η i] := by
    obtain ⟨css, hs, e2, hrr, hk⟩ := own_slice_val hm hg
    have hlen := repCss_len hrr
    have hr2 := RepCss.later hl _ _ hrr
    simp only [RepC]
    rcases hs.shape with ⟨he, hn⟩ | ⟨g, cap, he, hc⟩
    · subst hn
      have : ds = [] := List.eq_nil_of_length_eq_zero hlen.symm
      subst this
      exact ⟨none, 0, [], by rw [he]; rfl, by simp, by unfold maxLen; omega, by simp [RepCss], by simp, .inl rfl⟩
    · have hgi : g ∈ φ i := by rw [e2, he]; simp [Value.ownBlock]
      refine ⟨_, cap, css, by rw [he, hlen], by omega, ?_, hr2, hk, .inr ⟨g, 0, rfl, ?_, hs.lt (by rw [he]; rfl), sl_cells hs he⟩⟩
      · rcases hs.2 with ⟨h1, _⟩ | ⟨_, _, _, h1, _, _, _, h2, _⟩
        · rw [he] at h1; cases h1
        · rw [he] at h1; cases h1; exact h2
      · intro hb
        rcases hsub g hb with h | ⟨j, hj, hne, h⟩
        · exact notIn_B hm hi hgi h
        · exact hm.disj j hj i hi hne g h hgi
  exact RepDss.kill rfl hl (fun j hj hne => ⟨by rw [ids_sdel]; exact List.mem_filter.2 ⟨hj, by simpa using hne⟩, rfl⟩) hr0 _ _ hr
/-- a call of which an argument is given up -/
theorem call_frz (i : Nat) {q : Bool} {f : FuncId} {args : List Dat} {K : KD} (hg : sget i σ = some (.slice E k ds)) (h : SxCall C q f (kills i (.list k ds) args) K (killF i (.list k ds) fr) (sdel (killO i (.list k ds)) i σ)) : SxCall C q f args K fr σ := by
  unfold SxCall at h ⊢
  rintro B S w0 η φ n a w vs hM ⟨css, hr, rfl⟩
  have := hM.freezeArgs hg hr
  exact h B S w0 η φ n a w _ (hM.freeze hg) ⟨css, this, by rw [zip_kills rfl]⟩
theorem call_sub {q : Bool} {f : FuncId} {args : List Dat} {K : KD} (hs : Sub fr' fr) (h : SxCall C q f args K fr' σ) : SxCall C q f args K fr σ := by
  unfold SxCall at h ⊢
  exact fun B S w0 η φ n a w vs hM hr => h B S w0 η φ n a w vs (hM.sub hs) hr

/-! ### a call, walked in the caller's memory -/
def slotsF : Fr → List Nat
  | [] => []
  | (t, _) :: fr => t :: slotsF fr
def datsF : Fr → List Dat
  | [] => []
  | (_, d) :: fr => d :: datsF fr
def zipF : List Nat → List Dat → Fr
  | t :: ts, d :: ds => (t, d) :: zipF ts ds
  | _, _ => []
mutual
/-- what is mentioned -/
def mentK : Dat → List Nat → (List Nat → Prop) → Prop
  | .d _, J, K => K J
  | .own i, J, K => (match natIn i J with | true => K J | false => K (i :: J))
  | .at_ i _, J, K => (match natIn i J with | true => K J | false => K (i :: J))
  | .el i _ _ _, J, K => (match natIn i J with | true => K J | false => K (i :: J))
  | .agg ds, J, K => mentsK ds J K
  | .tuple ds, J, K => mentsK ds J K
  | .iface _ d, J, K => mentK d J K
  | .func _ f c, J, K => mentsK f J fun J => mentsK c J K
def mentsK : List Dat → List Nat → (List Nat → Prop) → Prop
  | [], J, K => K J
  | d :: ds, J, K => mentK d J fun J => mentsK ds J K
end
mutual
theorem mentK_ex : ∀ (d : Dat) {J : List Nat} {K : List Nat → Prop}, mentK d J K → ∃ J, K J
  | .d _, J, K, h => ⟨_, h⟩
  | .own i, J, K, h => by simp only [mentK] at h; split at h <;> exact ⟨_, h⟩
  | .at_ i _, J, K, h => by simp only [mentK] at h; split at h <;> exact ⟨_, h⟩
  | .el i _ _ _, J, K, h => by simp only [mentK] at h; split at h <;> exact ⟨_, h⟩
  | .agg ds, J, K, h => mentsK_ex ds (by simpa only [mentK] using h)
  | .tuple ds, J, K, h => mentsK_ex ds (by simpa only [mentK] using h)
  | .iface _ d, J, K, h => mentK_ex d (by simpa only [mentK] using h)
  | .func _ f c, J, K, h => by
    simp only [mentK] at h
    obtain ⟨_, h⟩ := mentsK_ex f h
    exact mentsK_ex c h
theorem mentsK_ex : ∀ (ds : List Dat) {J : List Nat} {K : List Nat → Prop}, mentsK ds J K → ∃ J, K J
  | [], J, K, h => ⟨_, h⟩
  | d :: ds, J, K, h => by
    simp only [mentsK] at h
    obtain ⟨_, h⟩ := mentK_ex d h
    exact mentsK_ex ds h
end
def mentOK : Own → List Nat → (List Nat → Prop) → Prop
  | .cells _ ds, J, K => mentsK ds J K
  | .ghost _ ds, J, K => mentsK ds J K
  | _, J, K => K J
theorem mentOK_ex (o : Own) {J : List Nat} {K : List Nat → Prop} (h : mentOK o J K) : ∃ J, K J := by
  cases o with
  | cells t ds => exact mentsK_ex ds h
  | ghost vs ds => exact mentsK_ex ds h
  | slice => exact ⟨_, h⟩
  | abs => exact ⟨_, h⟩
def growK : Sg → List Nat → (List Nat → Prop) → Prop
  | [], J, K => K J
  | (i, o) :: σ, J, K => match natIn i J with
    | true => mentOK o J fun J => growK σ J K
    | false => growK σ J K
theorem growK_ex : ∀ (σ : Sg) {J : List Nat} {K : List Nat → Prop}, growK σ J K → ∃ J, K J
  | [], J, K, h => ⟨_, h⟩
  | (i, o) :: σ, J, K, h => by
    simp only [growK] at h
    split at h
    · obtain ⟨_, h⟩ := mentOK_ex o h
      exact growK_ex σ h
    · exact growK_ex σ h
def keepS (J : List Nat) : Sg → Sg
  | [] => []
  | (i, o) :: σ => match natIn i J with
    | true => (i, o) :: keepS J σ
    | false => keepS J σ
def forceN : List Nat → (List Nat → Prop) → Prop
  | [], K => K []
  | x :: l, K => forceN l fun l => K (x :: l)
theorem forceN_eq : ∀ (l : List Nat) (K : List Nat → Prop), forceN l K = K l
  | [], K => rfl
  | x :: l, K => by simp only [forceN, forceN_eq l]
/-- behind the callee: the caller's frame again; what nobody mentions is let go -/
def inlineK (vs : List Value) (g : Nat) (ts J : List Nat) (K : KD) : Dat → Sg → Prop := fun d σ => withO (sget g σ) False fun o => match o with
  | .ghost us ds => us = vs ∧ forceS σ fun σ => forceF (zipF ts ds) fun fr => forceN J fun J => mentK d J fun J => mentsK (datsF fr) J fun J => growK σ J fun J => growK σ J fun J => growK σ J fun J => forceS (keepS J (sdel id g σ)) fun Z => withB (okZ fr Z && within (ids Z) d) False (K d fr Z)
  | _ => False

theorem keepS_mem {J : List Nat} : ∀ {σ : Sg} {p : Nat × Own}, p ∈ keepS J σ → p ∈ σ
  | [], p, h => by simp [keepS] at h
  | (i, o) :: σ, p, h => by
    simp only [keepS] at h
    split at h
    · rcases List.mem_cons.1 h with rfl | h
      · simp
      · exact List.mem_cons_of_mem _ (keepS_mem h)
    · exact List.mem_cons_of_mem _ (keepS_mem h)
theorem sget_of_mem {o : Own} : ∀ {σ : Sg}, (ids σ).Nodup → (i, o) ∈ σ → sget i σ = some o
  | [], _, h => by cases h
  | (j, p) :: σ, hn, h => by
    have hn' : j ∉ ids σ ∧ (ids σ).Nodup := List.nodup_cons.1 hn
    simp only [sget]
    rcases List.mem_cons.1 h with e | h
    · cases e; simp
    · rcases beq_cases j i with ⟨hb, e⟩ | ⟨hb, _⟩
      · subst e; exact absurd (mem_ids h) hn'.1
      · rw [hb]; exact sget_of_mem hn'.2 h
theorem subS_of {Z : Sg} (h : ∀ p ∈ Z, sget p.1 σ = some p.2) : SubS Z σ := by
  induction Z with
  | nil => trivial
  | cons p Z ih => exact ⟨h p (by simp), ih (fun q hq => h q (by simp [hq]))⟩
theorem sdel_id_mem {g : Nat} {p : Nat × Own} (h : p ∈ sdel id g σ) : p ∈ σ := by
  obtain ⟨q, hq, _, rfl⟩ := mem_sdel h
  exact hq

theorem mem_slots {p : Nat × Dat} : ∀ {l : Fr}, p ∈ l → p.1 ∈ slotsF l
  | [], h => by cases h
  | (u, v) :: l, h => by
    simp only [slotsF, List.mem_cons]
    rcases List.mem_cons.1 h with rfl | h
    · exact .inl rfl
    · exact .inr (mem_slots h)
theorem ghost_rep : ∀ {fr0 : Fr}, (∀ t, ∃ cs, RepD η (ids σ) (B ++ blocks φ σ) w (get fr0 t) cs ∧ a.tmps.getD t undef = toVD (get fr0 t) cs) → (slotsF fr0).Nodup →
    ∃ css, RepDss η (ids σ) (B ++ blocks φ σ) w (datsF fr0) css ∧ List.zipWith toVD (datsF fr0) css = (slotsF fr0).map fun t => a.tmps.getD t undef := by
  intro fr0 h hn
  have key : ∀ (l : Fr), (∀ p ∈ l, get fr0 p.1 = p.2) → ∃ css, RepDss η (ids σ) (B ++ blocks φ σ) w (datsF l) css ∧ List.zipWith toVD (datsF l) css = (slotsF l).map fun t => a.tmps.getD t undef := by
    intro l
    induction l with
    | nil => intro _; exact ⟨[], by simp [datsF, RepDss], rfl⟩
    | cons p l ih =>
      obtain ⟨t, d⟩ := p
      intro hl
      obtain ⟨css, h1, h2⟩ := ih (fun q hq => hl q (by simp [hq]))
      obtain ⟨cs, r1, r2⟩ := h t
      have e := hl (t, d) (by simp)
      simp only at e
      rw [e] at r1 r2
      exact ⟨cs :: css, by simp only [datsF, RepDss]; exact ⟨cs, css, rfl, r1, h1⟩, by simp only [datsF, slotsF, List.zipWith_cons_cons, List.map_cons, h2, r2]⟩
  refine key fr0 ?_
  clear key h
  intro p hp
  induction fr0 with
  | nil => cases hp
  | cons q l ih =>
    obtain ⟨s, e⟩ := q
    simp only [slotsF, List.nodup_cons] at hn
    rcases List.mem_cons.1 hp with rfl | hp
    · simp [get]
    · have hne : s ≠ p.1 := fun e' => hn.1 (e' ▸ mem_slots hp)
      simp only [get]
      rcases beq_cases s p.1 with ⟨_, e'⟩ | ⟨hb, _⟩
      · exact absurd e' hne
      · rw [hb]; exact ih hn.2 hp

theorem get_zipF {I O : List Nat} : ∀ (ts : List Nat) (ds : List Dat) {css : List (List Value)} (vs : List Value), RepDss η I O w ds css → List.zipWith toVD ds css = vs → (∀ (j : Nat) (t : Nat) (u : Value), ts[j]? = some t → vs[j]? = some u → a.tmps.getD t undef = u) → ∀ t, ∃ cs, RepD η I O w (get (zipF ts ds) t) cs ∧ a.tmps.getD t undef = toVD (get (zipF ts ds) t) cs
  | [], ds, css, vs, _, _, _, t => ⟨[a.tmps.getD t undef], by simp [zipF, get, RepD, RepC], rfl⟩
  | s :: ts, [], css, vs, _, _, _, t => ⟨[a.tmps.getD t undef], by simp [zipF, get, RepD, RepC], rfl⟩
  | s :: ts, d :: ds, css, vs, h, e, hv, t => by
    simp only [RepDss] at h
    obtain ⟨c1, c2, rfl, h1, h2⟩ := h
    simp only [List.zipWith_cons_cons] at e
    subst e
    simp only [zipF, get]
    rcases beq_cases s t with ⟨hb, e'⟩ | ⟨hb, _⟩ <;> rw [hb]
    · subst e'
      exact ⟨c1, h1, hv 0 s _ rfl rfl⟩
    · exact get_zipF ts ds _ h2 rfl (fun j t u hj hu => hv (j + 1) t u (by simpa using hj) (by simpa using hu)) t

theorem repDss_len {I O : List Nat} : ∀ {ds : List Dat} {css : List (List Value)}, RepDss η I O w ds css → css.length = ds.length
  | [], css, h => by simp only [RepDss] at h; subst h; rfl
  | d :: ds, css, h => by simp only [RepDss] at h; obtain ⟨c1, c2, rfl, _, h⟩ := h; simp [repDss_len h]

/-- THE CALLEE IS WALKED in the caller's memory; F: what the caller keeps of its frame -/
theorem call_inline (g : Nat) (F : Fr) (hC : C.Ok T) {G : List FuncId} {pl : List (Nat × Plan)} {f : FuncId} {fn : Func} {c : Code} {m : Nat} {args : List Dat} {K : KD} (hf : C.P.funcs[f]? = some fn) (hb : fn.body = some c) (hn : fn.ntmps = m)
    (hrun : ∀ (vs : Array Value) (w : World), (callFunc f vs).run C.P w = .ok (.enter f vs) w) (hk : codeOk C.P G pl c = true) (hl : args.length ≤ m) (hg : sget g σ = none) (hF : Sub F fr) (hts : onceB (slotsF F) = true)
    (h : ∀ vs, sxCode C T m pl c (sxEnd T fn.results.toList (inlineK vs g (slotsF F) (ids σ) K)) (params args 0) (sins g (.ghost vs (datsF F)) σ)) : SxCall C false f args K fr σ := by
  unfold SxCall
  rintro B S w0 η φ n a w vs hM ⟨css, hr, rfl⟩
  refine ⟨hrun _ _, ?_⟩
  have hM1 := hM.sub hF
  obtain ⟨gss, g1, g2⟩ := ghost_rep hM1.fr (onceB_nodup hts)
  have hg' := sget_none hg
  obtain ⟨hm, hl2⟩ := hM1.mem.add (Tch.refl [] w) hg' (v := .nilFunc) (F := []) (o := .ghost ((slotsF F).map fun t => a.tmps.getD t undef) (datsF F)) (by simp) (by
    refine ⟨rfl, rfl, gss, RepDss.later (O := B ++ blocks φ σ) (w := w) ?_ (fun j hj => ⟨List.mem_cons_of_mem _ hj, upd_ne η g Value.nilFunc (fun (e : j = g) => hg' (e ▸ hj))⟩) _ _ g1, g2.symm⟩
    simpa using Later.same (Tch.refl [] w) _)
  have hr' := RepDss.later (η' := upd η g Value.nilFunc) (I' := ids ((g, Own.ghost ((slotsF F).map fun t => a.tmps.getD t undef) (datsF F)) :: σ)) hl2 (fun j hj => ⟨List.mem_cons_of_mem _ hj, upd_ne η g Value.nilFunc (fun (e : j = g) => hg' (e ▸ hj))⟩) _ _ hr
  have hMm : Models C B S w0 n [] ((g, .ghost ((slotsF F).map fun t => a.tmps.getD t undef) (datsF F)) :: σ) (upd η g .nilFunc) (upd φ g []) a w := ⟨hm, fun t => ⟨[a.tmps.getD t undef], by simp [get, RepD, RepC], rfl⟩, hM.defers, hM.size⟩
  have hMp := hMm.perm (sins_perm g (.ghost ((slotsF F).map fun t => a.tmps.getD t undef) (datsF F)) σ)
  have hsame : Later (B ++ blocks (upd φ g []) ((g, Own.ghost ((slotsF F).map fun t => a.tmps.getD t undef) (datsF F)) :: σ)) w (B ++ blocks (upd φ g []) (sins g (.ghost ((slotsF F).map fun t => a.tmps.getD t undef) (datsF F)) σ)) w := ⟨Nat.le_refl _, fun _ _ _ => rfl, fun b hn _ hm => by
    rcases List.mem_append.1 hm with hm | hm
    · exact hn (List.mem_append_left _ hm)
    · obtain ⟨p, hp, hb⟩ := List.mem_flatMap.1 hm
      exact hn (List.mem_append_right _ (List.mem_flatMap.2 ⟨p, (sins_mem _ _ _ _).1 hp, hb⟩))⟩
  have hr2 := RepDss.later (η' := upd η g Value.nilFunc) (I' := ids (sins g (.ghost ((slotsF F).map fun t => a.tmps.getD t undef) (datsF F)) σ)) hsame (fun j hj => ⟨by
    obtain ⟨p, hp, rfl⟩ := List.mem_map.1 hj
    exact mem_ids ((sins_mem _ _ _ _).2 hp), rfl⟩) _ _ hr'
  refine (calls_of_sx hC hf hb hn hk hr2 hl hMp.mem (h _)).mono ?_
  rintro e w' ⟨v, d, σ', η', φ', rfl, hK, hm', hv⟩
  unfold inlineK at hK
  rcases withO_some hK with hK | ⟨o, ho, hK⟩
  · exact hK.elim
  split at hK
  · rename_i us es
    obtain ⟨rfl, hK⟩ := hK
    rw [forceS_eq, forceF_eq, forceN_eq] at hK
    obtain ⟨_, hK⟩ := mentK_ex _ hK
    obtain ⟨_, hK⟩ := mentsK_ex _ hK
    obtain ⟨_, hK⟩ := growK_ex _ hK
    obtain ⟨_, hK⟩ := growK_ex _ hK
    obtain ⟨_, hK⟩ := growK_ex _ hK
    rw [forceS_eq] at hK
    rcases withB_true hK with hK | ⟨hz, hK⟩
    · exact hK.elim
    rw [Bool.and_eq_true] at hz
    obtain ⟨q1, q2, qss, q3, q4⟩ := hm'.own _ (sget_mem ho)
    have hM2 : Models C B S w0 n (zipF (slotsF F) es) σ' η' φ' a w' := ⟨hm', get_zipF _ _ _ q3 q4.symm (fun j t u hj hu => by
      rw [List.getElem?_map, hj] at hu
      simpa using hu), hM.defers, hM.size⟩
    generalize hZ : keepS _ (sdel id g σ') = Z at hz hK
    have hsub : SubS Z σ' := subS_of fun p hp => sget_of_mem hm'.nodup (sdel_id_mem (keepS_mem (hZ ▸ hp)))
    have hlZ : Later (B ++ blocks φ' σ') w' (B ++ blocks φ' Z) w' := ⟨Nat.le_refl _, fun _ _ _ => rfl, fun b hn _ hb => by
      rcases List.mem_append.1 hb with hb | hb
      · exact hn (List.mem_append_left _ hb)
      · obtain ⟨p, hp, hb⟩ := List.mem_flatMap.1 hb
        exact hn (List.mem_append_right _ (mem_blocks (mem_ids (hsub.mem p hp)) hb))⟩
    obtain ⟨cs, v1, v2⟩ := hv
    exact ⟨v, d, _, Z, η', φ', rfl, hK, hM2.only hz.1 hsub, ⟨cs, RepD.only hlZ _ _ hz.2 v1, v2⟩, fun h => by cases h⟩
  · exact hK.elim
theorem ord_ok {l : List Oper} {ks p : List Nat} {K : Fr → Sg → Prop} {B : Prop} (h1 : sxOps C T n l ks K p fr σ) (h2 : B) : sxOps C T n l ks K p fr σ ∧ B := ⟨h1, h2⟩
theorem sl_is (m : Nat) {x : Int} {len : Nat} {K : Nat → Prop} (h : x = m) (hl : m ≤ len) (hK : K m) : ∃ m : Nat, x = m ∧ m ≤ len ∧ K m := ⟨m, h, hl, hK⟩
theorem same_ok {vs : List Value} {K : Prop} (h : K) : vs = vs ∧ K := ⟨rfl, h⟩
/-! ### the same rules with their usual proofs -/
theorem ify {p A B : Prop} (h : A) (hp : p := by first | omega | rfl | assumption | exact ⟨rfl, rfl⟩ | exact ⟨rfl, rfl, rfl⟩ | exact ⟨rfl, rfl, rfl, rfl⟩) : (p → A) ∧ (¬ p → B) := if_yes hp h
theorem ifn {p A B : Prop} (h : B) (hp : ¬ p := by first | omega | assumption | exact fun h => h rfl | exact fun h => h (by assumption) | exact fun h => h ⟨rfl, rfl⟩ | exact fun h => h ⟨rfl, rfl, rfl⟩ | exact fun h => h ⟨rfl, rfl, rfl, rfl⟩) : (p → A) ∧ (¬ p → B) := if_no hp h
theorem i6 {e : Int} {K : Int → Prop} (hK : K e) (h : -9223372036854775808 ≤ e ∧ e ≤ 9223372036854775807 := by omega) : ∃ n, IntKind.i64.wrap e = n ∧ K n := i64_is h hK
theorem ati {α : Type} {f : α → Da} {l : List α} {i : Nat} {n : Int} {x : α} {K : Nat → Da → Prop} (hK : K i (f x)) (hn : n = i := by rfl) (hx : l[i]? = some x := by assumption) : ∃ (j : Nat) (d : Da), n = j ∧ (l.map f)[j]? = some d ∧ K j d := at_is hn hx hK
theorem mst {a b : Nat} {K : Prop} (hK : K) (h : a ≤ 4294967296 := by ((try simp only [List.length_append, List.length_map, List.length_cons, List.length_nil, List.length_take, List.length_drop, List.length_set, List.length_replicate]); omega)) (hb : Nat.ble b 32768 = true := by rfl) (h0 : Nat.blt 0 b = true := by rfl) : a ≤ mostOf b ∧ K := most_ok h hK hb h0
theorem rmd {b : Int} {K : Prop} (hK : K) (h : b ≠ 0 := by first | decide | omega) : b ≠ 0 ∧ K := rem_ok h hK
theorem ibo {p A B : Prop} (h : p → A) (h2 : ¬ p → B) : (p → A) ∧ (¬ p → B) := ⟨h, h2⟩
theorem odw {l : List Oper} {ks p : List Nat} {K : Fr → Sg → Prop} {B : Prop} (h2 : B) (h1 : sxOps C T n l ks K p fr σ := by ((conv => whnf); (repeat' ((first | refine ify ?_ | refine ifn ?_ | refine i6 ?_ | refine ati ?_ | refine mst ?_ | refine rmd ?_ | refine ibo (fun _ => ?_) (fun _ => ?_)) <;> conv => whnf)); (all_goals (repeat' (first | exact trivial | exact rfl | refine And.intro ?_ ?_))))) : sxOps C T n l ks K p fr σ ∧ B := ⟨h1, h2⟩
end
end Go.Sx
