/- The walk is sound: functions, contracts, calls. -/
import Derived.Test.YtlpjdngjmknniaaDoorSxn
namespace Go.Sx
open Go Go.RowKit Go.Reg

section
variable {C : Cx} {T : Tab} {B S : List Nat} {w0 w : World} {n kd : Nat} {fr : Fr} {σ : Sg} {η : Nat → Value} {φ : Nat → List Nat} {a : Act} {v : Value}

theorem asAddr_of_load {P : Program} {t : TypeId} {v u : Value} {w : World} (h : (Instr.loadAt t v).run P w = .ok u w) : (do loadVar t (← asAddr v) : Sem Value).run P w = .ok u w := by
  cases v <;> first | (simp [Instr.loadAt, Instr.sureAddr] at h; done) | skip
  rename_i a
  cases a with
  | none => simp [Instr.loadAt, Instr.sureAddr] at h
  | some a => simpa [Instr.loadAt, Instr.sureAddr, asAddr] using h

def resV (tmps : Array Value) : ResultVar → Sem Value
  | .tmp t => pure (tmps.getD t Go.undef)
  | .cell a t => do loadVar t (← asAddr (tmps.getD a Go.undef))
theorem results_eq (fn : Func) (tmps : Array Value) : results fn tmps = (do let vs ← fn.results.mapM (resV tmps); pure (if h : vs.size = 1 then vs[0] else .tuple vs)) := by
  unfold results
  congr 1

theorem sxRes_ok (hC : C.Ok T) (hM : Models C B S w0 n fr σ η φ a w) : ∀ (rs : List ResultVar) {K : List Dat → Prop}, sxRes T rs fr σ K → ∃ ds vs css, K ds ∧ (rs.mapM (resV a.tmps)).run C.P w = .ok vs w ∧ RepDss η (ids σ) (B ++ blocks φ σ) w ds css ∧ vs = List.zipWith toVD ds css
  | [], K, h => ⟨[], [], [], h, by simp, by simp [RepDss], by simp⟩
  | .tmp t :: rs, K, h => by
    simp only [sxRes] at h
    obtain ⟨ds, vs, css, h1, h2, h3, h4⟩ := sxRes_ok hC hM rs (RD.force h)
    obtain ⟨cs, r1, r2⟩ := hM.fr t
    refine ⟨_, a.tmps.getD t Go.undef :: vs, cs :: css, h1, ?_, ⟨cs, css, rfl, r1, h3⟩, by simp [h4, r2]⟩
    simp only [List.mapM_cons, resV, Sem.run_bind, Sem.run_pure, Result.andThen_ok, h2]
  | .cell t ty :: rs, K, h => by
    simp only [sxRes] at h
    rcases sxLoad_ok hC hM.mem (vx := a.tmps.getD t Go.undef) (hM.fr t) h with h | ⟨d, v, g1, g2, cs, g3, g4⟩
    · exact h.elim
    · obtain ⟨ds, vs, css, h1, h2, h3, h4⟩ := sxRes_ok hC hM rs g1
      refine ⟨_, v :: vs, cs :: css, h1, ?_, ⟨cs, css, rfl, g3, h3⟩, by simp [h4, g4]⟩
      have g5 := asAddr_of_load g2
      simp only [Sem.run_bind] at g5
      simp only [List.mapM_cons, resV, Sem.run_bind, Sem.run_pure, Result.andThen_ok, g5, h2]

theorem allD_rep {ds : List Dat} {xs : List Da} {css : List (List Value)} (h : allD ds = some xs) (hr : RepDss η (ids σ) (B ++ blocks φ σ) w ds css) : RepCss (B ++ blocks φ σ) w xs css ∧ List.zipWith toVD ds css = List.zipWith toV xs css := by
  rw [allD_datas h] at hr ⊢
  exact ⟨datas_rep.1 hr, datas_zip _ _⟩
theorem rd_mkTup {ds : List Dat} {css : List (List Value)} (h : RepDss η (ids σ) (B ++ blocks φ σ) w ds css) : RD B σ η φ w (mkTup ds) (.tuple (List.zipWith toVD ds css).toArray) := by
  unfold mkTup
  split
  · rename_i xs hx
    obtain ⟨h1, h2⟩ := allD_rep hx h
    exact ⟨[_], by simp only [RepD, RepC]; exact ⟨css, h1, by rw [h2]⟩, rfl⟩
  · exact ⟨[_], by simp only [RepD]; exact ⟨css, h, rfl⟩, rfl⟩

/-- what a function leaves -/
def EndK (C : Cx) (B S : List Nat) (w0 : World) (K : Dat → Sg → Prop) (e : Ending) (w' : World) : Prop :=
  ∃ v d σ η φ, e = .returned v ∧ K d σ ∧ Mem C B S w0 σ η φ w' ∧ RD B σ η φ w' d v

theorem end_ok (hC : C.Ok T) {fn : Func} {K : Dat → Sg → Prop} {e : Exit} (h : QK C B S w0 n (sxEnd T fn.results.toList K) e a w) : bodyPost C.P fn (EndK C B S w0 K) e a w := by
  have key : ∀ {fr σ η φ}, Models C B S w0 n fr σ η φ a w → sxRes T fn.results.toList fr σ (fun ds => match ds with
      | [d] => K d σ
      | ds => force (mkTup ds) fun d => K d σ) → a.defers = [] ∧ ∃ v, (results fn a.tmps).run C.P w = .ok v w ∧ EndK C B S w0 K (.returned v) w := by
    intro fr σ η φ hM hr
    obtain ⟨ds, vs, css, h1, h2, h3, h4⟩ := sxRes_ok hC hM _ hr
    refine ⟨hM.defers, ?_⟩
    have hlen : vs.length = ds.length := by
      have : ∀ {ds : List Dat} {css : List (List Value)}, RepDss η (ids σ) (B ++ blocks φ σ) w ds css → css.length = ds.length := by
        intro ds
        induction ds with
        | nil => intro css h; simp only [RepDss] at h; subst h; rfl
        | cons d ds ih => intro css h; simp only [RepDss] at h; obtain ⟨c1, c2, rfl, _, h⟩ := h; simp [ih h]
      rw [h4]; simp [this h3]
    have hmap : (fn.results.mapM (resV a.tmps)).run C.P w = .ok vs.toArray w := by
      rw [Array.mapM_eq_mapM_toList, Sem.run_map, h2]; rfl
    match ds, css, h1, h3, h4, hlen with
    | [d], css, h1, h3, h4, hlen =>
      simp only [RepDss] at h3
      obtain ⟨c1, c2, rfl, r1, rfl⟩ := h3
      simp at h4
      subst h4
      refine ⟨toVD d c1, ?_, _, d, σ, η, φ, rfl, h1, hM.mem, c1, r1, rfl⟩
      rw [results_eq, Sem.run_bind, hmap]
      simp
    | [], css, h1, h3, h4, hlen =>
      have hv : vs = [] := List.eq_nil_of_length_eq_zero hlen
      subst hv
      refine ⟨.tuple #[], ?_, _, _, σ, η, φ, rfl, RD.force h1, hM.mem, ?_⟩
      · rw [results_eq, Sem.run_bind, hmap]
        simp
      · have := rd_mkTup h3; simpa using this
    | d1 :: d2 :: ds, css, h1, h3, h4, hlen =>
      refine ⟨.tuple vs.toArray, ?_, _, _, σ, η, φ, rfl, RD.force h1, hM.mem, ?_⟩
      · rw [results_eq, Sem.run_bind, hmap]
        have : ¬ vs.toArray.size = 1 := by simp; simp at hlen; omega
        simp only [Result.andThen_ok, dif_neg this, Sem.run_pure]
      · have := rd_mkTup h3; rw [h4]; exact this
  cases e with
  | normal => obtain ⟨fr, σ, η, φ, hM, hr⟩ := h; exact key hM hr
  | ret => obtain ⟨fr, σ, η, φ, hM, hr⟩ := h; exact key hM hr
  | exit id => obtain ⟨fr, σ, η, φ, hM, hr⟩ := h; exact hr.elim
  | goto l => obtain ⟨fr, σ, η, φ, hM, hr⟩ := h; exact hr.elim
  | panic ch => exact h.elim
  | outgrown => exact h.elim

/-- a frame at a function's start -/
def params : List Dat → Nat → Fr
  | [], _ => []
  | d :: ds, i => (i, d) :: params ds (i + 1)

theorem params_rep {I O : List Nat} : ∀ {ds : List Dat} {css : List (List Value)} (i : Nat), RepDss η I O w ds css → ∀ (a : Act), (∀ j u, (List.zipWith toVD ds css)[j]? = some u → a.tmps.getD (i + j) Go.undef = u) → ∀ t, ∃ cs, RepD η I O w (get (params ds i) t) cs ∧ a.tmps.getD t Go.undef = toVD (get (params ds i) t) cs
  | [], css, i, h, a, ha, t => ⟨[a.tmps.getD t Go.undef], by simp [params, get, RepD, RepC], rfl⟩
  | d :: ds, css, i, h, a, ha, t => by
    simp only [RepDss] at h
    obtain ⟨c1, c2, rfl, h1, h2⟩ := h
    simp only [params, get]
    rcases beq_cases i t with ⟨hb, e⟩ | ⟨hb, e⟩
    · rw [hb]
      exact ⟨c1, h1, by have := ha 0 _ (by simp; rfl); rw [← e]; simpa using this⟩
    · rw [hb]
      exact params_rep (i + 1) h2 a (fun j u hj => by rw [show i + 1 + j = i + (j + 1) by omega]; exact ha (j + 1) u (by simpa using hj)) t

/-- A FUNCTION, WALKED. -/
theorem calls_of_sx (hC : C.Ok T) {G : List FuncId} {pl : List (Nat × Plan)} {f : FuncId} {fn : Func} {c : Code} (hf : C.P.funcs[f]? = some fn) (hb : fn.body = some c) (hn : fn.ntmps = n) (hk : codeOk C.P G pl c = true) {K : Dat → Sg → Prop}
    {ds : List Dat} {css : List (List Value)} (hr : RepDss η (ids σ) (B ++ blocks φ σ) w ds css) (hl : ds.length ≤ n) (hm : Mem C B S w0 σ η φ w)
    (h : sxCode C T n pl c (sxEnd T fn.results.toList K) (params ds 0) σ) : Calls C.P f (List.zipWith toVD ds css).toArray w (EndK C B S w0 K) := by
  refine calls_of_wp hf hb ?_
  have hlen : (List.zipWith toVD ds css).length = ds.length := by
    have : ∀ {ds : List Dat} {css : List (List Value)}, RepDss η (ids σ) (B ++ blocks φ σ) w ds css → css.length = ds.length := by
      intro ds
      induction ds with
      | nil => intro css h; simp only [RepDss] at h; subst h; rfl
      | cons d ds ih => intro css h; simp only [RepDss] at h; obtain ⟨c1, c2, rfl, _, h⟩ := h; simp [ih h]
    simp [this hr]
  have hM : Models C B S w0 n (params ds 0) σ η φ { tmps := (List.zipWith toVD ds css).toArray ++ Array.replicate (fn.ntmps - (List.zipWith toVD ds css).toArray.size) undef, defers := [] } w := by
    refine ⟨hm, params_rep 0 hr _ (fun j u hj => ?_), rfl, ?_⟩
    · have hlt := (List.getElem?_eq_some_iff.1 hj).1
      simp only [Nat.zero_add, Array.getD_eq_getD_getElem?]
      rw [Array.getElem?_append_left (by simpa using hlt)]
      simp [hj]
    · simp only [Array.size_append, List.size_toArray, Array.size_replicate, hn]; omega
  exact wp_mono (codeSem_iff.1 (sxCode_sound hC c _ _ _ hk h) B S w0 η φ _ w hM) (fun e a w hq => end_ok hC hq)

/-! ### contracts -/
def Glob (C : Cx) (O : List Nat) (w : World) : Prop := ∀ g ∈ C.Γ, Rep O w (.ref g.2) (.pointer (some ⟨g.1, 0, none⟩))

/-- a function that turns nothing that was there: what it answers is among Q -/
def Pure (C : Cx) (f : FuncId) (xs : List Da) (Q : Da → Prop) : Prop :=
  ∀ (O : List Nat) (w : World) (vs : List Value), (∀ b ∈ O, b < w.heap.size) → Glob C O w → Reps O w xs vs →
    (callFunc f vs.toArray).run C.P w = .ok (.enter f vs.toArray) w ∧ Calls C.P f vs.toArray w fun e w' => ∃ v y, e = .returned v ∧ Q y ∧ Rep O w' y v ∧ Tch [] w w'

mutual
/-- tests told by their answers -/
def Da.plain : Da → Da
  | .prop p i => .bool (@decide p i)
  | .agg ds => .agg (plains ds)
  | .tuple ds => .tuple (plains ds)
  | d => d
def plains : List Da → List Da
  | [] => []
  | d :: ds => d.plain :: plains ds
end
theorem toV_plain (d : Da) (cs : List Value) : toV d.plain cs = toV d cs := by cases d <;> rfl
mutual
theorem RepC.plain {O : List Nat} {w : World} : ∀ (d : Da) (cs : List Value), RepC O w d cs → RepC O w d.plain cs
  | .prop p i, cs, h => by simpa only [Da.plain, RepC] using h
  | .agg ds, cs, h => by simp only [Da.plain, RepC] at h ⊢; exact RepCs.plain ds cs h
  | .tuple ds, cs, h => by
    simp only [Da.plain, RepC] at h ⊢
    obtain ⟨css, h1, h2⟩ := h
    obtain ⟨g1, g2⟩ := RepCss.plain ds css h1
    exact ⟨css, g1, by rw [h2, g2]⟩
  | .undef, cs, h => h
  | .int _ _, cs, h => h
  | .bool _, cs, h => h
  | .str _, cs, h => h
  | .nilp, cs, h => h
  | .nils, cs, h => h
  | .nilm, cs, h => h
  | .nilf, cs, h => h
  | .nili, cs, h => h
  | .iface _ _, cs, h => h
  | .ref _, cs, h => h
  | .list _ _, cs, h => h
  | .func _ _ _, cs, h => h
  | .raw _, cs, h => h
theorem RepCs.plain {O : List Nat} {w : World} : ∀ (ds : List Da) (cs : List Value), RepCs O w ds cs → RepCs O w (plains ds) cs
  | [], cs, h => h
  | d :: ds, cs, h => by
    simp only [RepCs, plains] at h ⊢
    obtain ⟨c1, c2, rfl, h1, h2⟩ := h
    exact ⟨c1, c2, rfl, RepC.plain d c1 h1, RepCs.plain ds c2 h2⟩
theorem RepCss.plain {O : List Nat} {w : World} : ∀ (ds : List Da) (css : List (List Value)), RepCss O w ds css → RepCss O w (plains ds) css ∧ List.zipWith toV (plains ds) css = List.zipWith toV ds css
  | [], css, h => ⟨h, rfl⟩
  | d :: ds, css, h => by
    simp only [RepCss, plains] at h ⊢
    obtain ⟨c1, c2, rfl, h1, h2⟩ := h
    obtain ⟨g1, g2⟩ := RepCss.plain ds c2 h2
    exact ⟨⟨c1, c2, rfl, RepC.plain d c1 h1, g1⟩, by simp only [List.zipWith_cons_cons, toV_plain, g2]⟩
end

/-- what stands for a slot's value when all owned things are given up -/
def close (T : Tab) (σ : Sg) : Nat → Dat → Option Da
  | 0, _ => none
  | k + 1, d => match d with
    | .d x => some x
    | .own i => (match sget i σ with
      | some (.slice _ k ds) => some (.list k ds)
      | some (.cells t ds) => (match closeL (close T σ k) ds with
        | some xs => (match tyAt t T with
          | some e => (match e.agg with
            | true => some (.ref (.agg xs))
            | false => (match xs with
              | [x] => some (.ref x)
              | _ => none))
          | none => none)
        | none => none)
      | _ => none)
    | .agg ds => (match closeL (close T σ k) ds with
      | some xs => some (.agg xs)
      | none => none)
    | .tuple ds => (match closeL (close T σ k) ds with
      | some xs => some (.tuple xs)
      | none => none)
    | .iface t d => (match close T σ k d with
      | some x => some (.iface t x)
      | none => none)
    | _ => none
where
  closeL (f : Dat → Option Da) : List Dat → Option (List Da)
    | [] => some []
    | d :: ds => match f d, closeL f ds with
      | some x, some xs => some (x :: xs)
      | _, _ => none

/-- by what value a slot's value stands, whatever blocks are out of sight -/
theorem notIn_B (hm : Mem C B S w0 σ η φ w) {i : Nat} (hi : i ∈ ids σ) {b : Nat} (hb : b ∈ φ i) : b ∉ B := fun h => by
  rcases hm.new i hi b hb with h2 | h2
  · exact h2.2 h
  · have := hm.out b h; omega
theorem later_B (hm : Mem C B S w0 σ η φ w) : Later (B ++ blocks φ σ) w B w := ⟨Nat.le_refl _, fun _ _ _ => rfl, fun b h _ hm => h (List.mem_append_left _ hm)⟩

theorem close_ok (hm : Mem C B S w0 σ η φ w) : ∀ (k : Nat) (d : Dat) {x : Da} {cs : List Value}, close T σ k d = some x → RepD η (ids σ) (B ++ blocks φ σ) w d cs → RepC B w x cs ∧ toVD d cs = toV x cs
  | 0, d, x, cs, h, hr => by simp [close] at h
  | k + 1, d, x, cs, h, hr => by
    have listC : ∀ (ds : List Dat) {xs : List Da} {cs : List Value}, close.closeL (close T σ k) ds = some xs → RepDs η (ids σ) (B ++ blocks φ σ) w ds cs → RepCs B w xs cs := by
      intro ds
      induction ds with
      | nil => intro xs cs h hr; simp [close.closeL] at h; subst h; simpa [RepDs, RepCs] using hr
      | cons d ds ih =>
        intro xs cs h hr
        simp only [close.closeL] at h
        split at h
        · rename_i x xs' h1 h2
          simp at h; subst h
          simp only [RepDs] at hr
          obtain ⟨c1, c2, rfl, r1, r2⟩ := hr
          exact ⟨c1, c2, rfl, (close_ok hm k d h1 r1).1, ih h2 r2⟩
        · cases h
    have listCs : ∀ (ds : List Dat) {xs : List Da} {css : List (List Value)}, close.closeL (close T σ k) ds = some xs → RepDss η (ids σ) (B ++ blocks φ σ) w ds css → RepCss B w xs css ∧ List.zipWith toVD ds css = List.zipWith toV xs css := by
      intro ds
      induction ds with
      | nil => intro xs cs h hr; simp [close.closeL] at h; subst h; simp only [RepDss] at hr; subst hr; simp [RepCss]
      | cons d ds ih =>
        intro xs cs h hr
        simp only [close.closeL] at h
        split at h
        · rename_i x xs' h1 h2
          simp at h; subst h
          simp only [RepDss] at hr
          obtain ⟨c1, c2, rfl, r1, r2⟩ := hr
          obtain ⟨g1, g2⟩ := close_ok hm k d h1 r1
          obtain ⟨g3, g4⟩ := ih h2 r2
          exact ⟨⟨c1, c2, rfl, g1, g3⟩, by simp [g2, g4]⟩
        · cases h
    simp only [close] at h
    split at h
    · simp at h; subst h
      exact ⟨RepC.later (later_B hm) _ _ (by simpa only [RepD] using hr), rfl⟩
    · rename_i i
      simp only [RepD] at hr
      obtain ⟨hi, rfl⟩ := hr
      split at h
      · rename_i E k' ds hg
        simp at h; subst h
        obtain ⟨css, hs, e2, hrr, hk⟩ := own_slice_val hm hg
        have hl := repCss_len hrr
        have hrB := RepCss.later (later_B hm) _ _ hrr
        refine ⟨?_, rfl⟩
        simp only [RepC]
        rcases hs.shape with ⟨he, hn⟩ | ⟨g, cap, he, hc⟩
        · subst hn
          have : ds = [] := List.eq_nil_of_length_eq_zero hl.symm
          subst this
          exact ⟨none, 0, [], by rw [he]; rfl, by simp, by unfold maxLen; omega, by simp [RepCss], by simp, .inl rfl⟩
        · refine ⟨_, cap, css, by rw [he, hl], by omega, ?_, hrB, hk, .inr ⟨g, 0, rfl, ?_, ?_, sl_cells hs he⟩⟩
          · rcases hs.2 with ⟨h1, _⟩ | ⟨_, _, _, h1, _, _, _, h2, _⟩
            · rw [he] at h1; cases h1
            · rw [he] at h1; cases h1; exact h2
          · exact notIn_B hm hi (by rw [e2, he]; simp [Value.ownBlock])
          · exact hs.lt (by rw [he]; rfl)
      · rename_i t ds hg
        split at h
        · rename_i xs hxs
          split at h
          · rename_i e he
            obtain ⟨b, cs, e1, e2, hb, hrr⟩ := own_cells_val hm hg
            have hxr := listC ds hxs hrr
            have hbB := notIn_B hm hi (b := b) (by rw [e2]; simp)
            have hcell : Cells w b 0 cs := fun j u hj => by have := hb.cell hj; simpa using this
            split at h
            · simp at h; subst h
              refine ⟨?_, rfl⟩
              simp only [RepC]
              exact ⟨b, 0, cs, by rw [e1], hbB, hb.lt, hxr, hcell⟩
            · split at h
              · simp at h; subst h
                refine ⟨?_, rfl⟩
                simp only [RepCs] at hxr
                obtain ⟨c1, c2, rfl, r1, rfl⟩ := hxr
                simp only [RepC]
                exact ⟨b, 0, c1, by rw [e1], hbB, hb.lt, r1, by simpa using hcell⟩
              · cases h
          · cases h
        · cases h
      · cases h
    · split at h
      · rename_i xs hxs
        simp at h; subst h
        simp only [RepD] at hr
        exact ⟨by simp only [RepC]; exact listC _ hxs hr, rfl⟩
      · cases h
    · split at h
      · rename_i xs hxs
        simp at h; subst h
        simp only [RepD] at hr
        obtain ⟨css, r1, rfl⟩ := hr
        obtain ⟨g1, g2⟩ := listCs _ hxs r1
        exact ⟨by simp only [RepC]; exact ⟨css, g1, by rw [g2]⟩, rfl⟩
      · cases h
    · split at h
      · rename_i y hy
        simp at h; subst h
        simp only [RepD] at hr
        obtain ⟨c, r1, rfl⟩ := hr
        obtain ⟨g1, g2⟩ := close_ok hm k _ hy r1
        exact ⟨by simp only [RepC]; exact ⟨c, g1, by rw [g2]⟩, rfl⟩
      · cases h
    · cases h

/-- what is to be shown of a function that turns nothing -/
def PureK (T : Tab) (Q : Da → Prop) : Dat → Sg → Prop := fun d σ => withO (close T σ 9 d) False fun y => Q y.plain

theorem mem_start (hO : ∀ b ∈ B, b < w.heap.size) (hg : Glob C B w) (η : Nat → Value) (φ : Nat → List Nat) : Mem C B [] w [] η φ w :=
  ⟨Tch.refl _ _, by simp, by simp [ids], by simp [ids], by simp [ids], hO, by unfold Glob at hg; simpa [blocks] using hg⟩

theorem pure_of (hC : C.Ok T) {G : List FuncId} {pl : List (Nat × Plan)} {f : FuncId} {fn : Func} {c : Code} (hf : C.P.funcs[f]? = some fn) (hb : fn.body = some c) (hn : fn.ntmps = n) (hrun : ∀ (vs : Array Value) (w : World), (callFunc f vs).run C.P w = .ok (.enter f vs) w) (hk : codeOk C.P G pl c = true) {xs : List Da} {Q : Da → Prop} (hl : xs.length ≤ n)
    (h : sxCode C T n pl c (sxEnd T fn.results.toList (PureK T Q)) (params (datas xs) 0) []) : Pure C f xs Q := by
  intro O w vs hO hg hr
  obtain ⟨css, h1, rfl⟩ := hr
  refine ⟨hrun _ _, ?_⟩
  have hr2 : RepDss (fun _ => Go.undef) (ids []) (O ++ blocks (fun _ => []) []) w (datas xs) css := datas_rep.2 (by simpa [blocks] using h1)
  have hlen : (datas xs).length ≤ n := by
    have : ∀ xs : List Da, (datas xs).length = xs.length := fun xs => by induction xs with | nil => rfl | cons x xs ih => simp [datas, ih]
    rw [this]; exact hl
  have := calls_of_sx hC hf hb hn hk hr2 hlen (mem_start hO hg _ _) h
  rw [datas_zip] at this
  refine this.mono ?_
  rintro e w' ⟨v, d, σ, η, φ, rfl, hK, hm, cs, g1, g2⟩
  unfold PureK at hK
  rcases withO_some hK with hK | ⟨y, hy, hQ⟩
  · exact hK.elim
  obtain ⟨q1, q2⟩ := close_ok hm 9 d hy g1
  exact ⟨v, y.plain, rfl, hQ, ⟨cs, RepC.plain y cs q1, g2.trans (q2.trans (toV_plain y cs).symm)⟩, hm.tch⟩

/-- a call of such a function -/
theorem call_pure {q : Bool} {f : FuncId} {args : List Dat} {xs : List Da} {Q : Da → Prop} {K : KD} (ha : allD args = some xs) (hp : Pure C f xs Q) (hK : ∀ y, Q y → K (.d y) fr σ) : SxCall C q f args K fr σ := by
  unfold SxCall
  rintro B S w0 η φ n a w vs hM ⟨css, hr, rfl⟩
  obtain ⟨h1, h2⟩ := allD_rep ha hr
  rw [h2]
  obtain ⟨g1, g2⟩ := hp (B ++ blocks φ σ) w _ hM.mem.lt hM.mem.glob ⟨css, h1, rfl⟩
  refine ⟨g1, g2.mono ?_⟩
  rintro e w' ⟨v, y, rfl, hQ, hv, ht⟩
  exact ⟨v, .d y, fr, σ, η, φ, rfl, hK y hQ, ⟨hM.mem.grow ht, hM.fr.later (Later.same ht _) (fun i hi => ⟨hi, rfl⟩), hM.defers, hM.size⟩, hv, fun _ => ht.ext⟩
end

end Go.Sx
