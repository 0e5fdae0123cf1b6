/- Maps; functions that hand back an owned slice, that turn an owned struct, that turn an owned slice. · Short rules for calls whose answer is known outright. · A function that takes an owned slice and hands back one (in the same block or in a new one): slices.Compact, Delete and their like. · A function that takes an owned slice and hands back one, walked. -/
import Derived.Test.YtlchegpgicdldaaDoorSxt
import Derived.Test.YtlchegpgicdldaaDoorPut
namespace Go.Sx
open Go Go.RowKit Go.Reg

section
variable {C : Cx} {T : Tab} {B S : List Nat} {w0 w w' : World} {n kd : Nat} {fr fr' : Fr} {σ σ' : Sg} {η : Nat → Value} {φ : Nat → List Nat} {a : Act} {i E k : Nat} {ds : List Da}

theorem mk_ok (m : Nat) {x y : Int} {K : Nat → Prop} (hx : x = m) (hy : y = m) (hm : m ≤ 4294967296) (hK : K m) : ∃ m : Nat, x = m ∧ y = m ∧ m ≤ mostLen ∧ K m := ⟨m, hx, hy, hm, hK⟩

/-! ### maps -/
/-- a map's type: keys and values, plain -/
structure MapE (P : Program) (κ ν : Type) [DecidableEq κ] where
  t : TypeId
  kt : TypeId
  et : TypeId
  encK : κ → Value
  encV : ν → Value
  dK : κ → Da
  dV : ν → Da
  z : ν
  ht : P.underlying t = some (.map kt et)
  hk : KeyOk P kt encK
  hz : ∀ w, (zeroValue et).run P w = .ok (encV z) w
  repK : ∀ O w k v, Rep O w (dK k) v → v = encK k
  repV : ∀ O w x v, Rep O w (dV x) v → v = encV x
  ofV : ∀ O w x, Rep O w (dV x) (encV x)

variable {κ ν : Type} [DecidableEq κ]
def MapE.obj {P : Program} (M : MapE P κ ν) (l : List (κ × ν)) : Absn where
  R w v F := ∃ b, v = .map (some b) ∧ F = [b] ∧ MapAt M.encK M.encV w b l
  keep := by rintro S w w' v F ⟨b, rfl, rfl, h⟩ t hd; exact ⟨b, rfl, rfl, h.keep t (hd b (by simp))⟩
  lt := by rintro w v F ⟨b, rfl, rfl, h⟩ x hx; simp at hx; subst hx; exact h.lt
  one := by rintro w v F ⟨b, rfl, rfl, h⟩; rfl

theorem rd_own {d : Dat} {v : Value} (h : RD B σ η φ w d v) (e : d = .own i) : v = η i := by
  subst e
  obtain ⟨cs, h1, rfl⟩ := h
  simp only [RepD] at h1
  obtain ⟨_, rfl⟩ := h1
  rfl
theorem rd_da {d : Dat} {x : Da} {v : Value} (h : RD B σ η φ w d v) (e : d = .d x) : Rep (B ++ blocks φ σ) w x v := by
  subst e
  obtain ⟨cs, h1, rfl⟩ := h
  exact ⟨cs, by simpa only [RepD] using h1, rfl⟩
theorem rd_of {x : Da} {v : Value} (h : Rep (B ++ blocks φ σ) w x v) : RD B σ η φ w (.d x) v := by
  obtain ⟨cs, h1, h2⟩ := h
  exact ⟨cs, by simpa only [RepD] using h1, h2⟩

theorem opSem_read {o : Oper} {K : Fr → Sg → Prop} (hkd : kd = 5 ∨ kd = 3) (hd : dstOk o.dst n = true) (d : Dat)
    (h : ∀ (B S : List Nat) (w0 : World) (η : Nat → Value) (φ : Nat → List Nat) (a : Act) (w : World), Models C B S w0 n fr σ η φ a w → ∃ v, (∀ w2, Ext w w2 → (execOp a.eval o).run C.P w2 = .ok (.value v) w2) ∧ RD B σ η φ w d v) (hK : K (putF o.dst d fr) σ) : OpSem C n kd o K fr σ := by
  rcases hkd with rfl | rfl
  · unfold OpSem
    intro B S w0 η φ a w hM
    obtain ⟨v, h1, h2⟩ := h B S w0 η φ a w hM
    exact ⟨v, h1, good_put hM hd h2 hK⟩
  · refine opSem_val (by decide) (by decide) fun B S w0 η φ a w hM => ⟨fun e => (by cases e), .inl ?_⟩
    obtain ⟨v, h1, h2⟩ := h B S w0 η φ a w hM
    exact ⟨v, w, h1 w (Ext.refl w), good_put hM hd h2 hK⟩

/-- 'm[k]' -/
theorem op_lookup (M : MapE C.P κ ν) (l : List (κ × ν)) (i : Nat) (q : κ) {o : Oper} {K : Fr → Sg → Prop} {x ix : Operand} (ho : o.op = .lookup M.t x ix false) (hx : ev C.Γ fr x = .own i) (hg : sget i σ = some (M.obj l).own) (hix : ev C.Γ fr ix = .d (M.dK q)) (hkd : kd = 5 ∨ kd = 3) (hd : dstOk o.dst n = true)
    (hK : K (putF o.dst (.d (M.dV ((Reg.get l q).getD M.z))) fr) σ) : OpSem C n kd o K fr σ := by
  refine opSem_read hkd hd _ (fun B S w0 η φ a w hM => ?_) hK
  have e1 := rd_own (ev_rep hM x) hx
  have e2 := M.repK _ _ _ _ (rd_da (ev_rep hM ix) hix)
  obtain ⟨b, hb, _, hm⟩ : (M.obj l).R w (η i) (φ i) := hM.mem.own _ (sget_mem hg)
  refine ⟨M.encV ((Reg.get l q).getD M.z), fun w2 he => ?_, rd_of (M.ofV _ _ _)⟩
  simp only [execOp, ho]
  rw [e1, e2, hb]
  exact run_v ((hm.ext he).look M.hk M.ht M.hz q)

theorem Models.newAbs (h : Models C B S w0 n fr σ η φ a w) (t : Tch [] w w') {r : Absn} {v : Value} {F : List Nat} (hF : ∀ b ∈ F, w.heap.size ≤ b) (hr : r.R w' v F) {j : Nat} (hj : j ∉ ids σ) {dst : Option Nat} (hd : dstOk dst n = true) :
    ∃ η' φ', Models C B S w0 n (putF dst (.own j) fr) (sins j r.own σ) η' φ' (a.put dst v) w' :=
  ⟨_, _, (h.add t hj (o := r.own) (v := v) (F := F) hF (fun _O' _hl => hr) hd).perm (sins_perm _ _ _)⟩

/-- 'map[K]V{}' -/
theorem op_makeMap (M : MapE C.P κ ν) (j : Nat) {o : Oper} {K : Fr → Sg → Prop} (ho : o.op = .makeMap M.t none) (hj : sget j σ = none) (hkd : kd = 6 ∨ kd = 3) (hd : dstOk o.dst n = true)
    (hK : forceS (sins j (M.obj []).own σ) fun σ => K (putF o.dst (.own j) fr) σ) : OpSem C n kd o K fr σ := by
  rw [forceS_eq] at hK
  refine opSem_val (by rcases hkd with rfl | rfl <;> decide) (by rcases hkd with rfl | rfl <;> decide) fun B S w0 η φ a w hM => ⟨fun e => (by rcases hkd with rfl | rfl <;> cases e), .inl ?_⟩
  obtain ⟨η', φ', M'⟩ := hM.newAbs (Tch.alloc w (.map #[] 0) []) (r := M.obj []) (v := .map (some w.heap.size)) (F := [w.heap.size]) (by simp) ⟨_, rfl, rfl, MapAt.new _ _ _⟩ (sget_none hj) hd
  refine ⟨_, _, ?_, _, _, _, _, M', hK⟩
  simp only [execOp, ho]
  exact run_v (by rfl)

/-- 'm[k] = v' -/
theorem op_update (M : MapE C.P κ ν) (l : List (κ × ν)) (i : Nat) (q : κ) (y : ν) {o : Oper} {K : Fr → Sg → Prop} {x ix vx : Operand} (ho : o.op = .mapUpdate M.t x ix vx) (hx : ev C.Γ fr x = .own i) (hg : sget i σ = some (M.obj l).own) (hix : ev C.Γ fr ix = .d (M.dK q)) (hv : ev C.Γ fr vx = .d (M.dV y)) (hkd : kd = 3) (hd : dstOk o.dst n = true)
    (hK : forceS (sturn id i (M.obj (put l q y)).own σ) fun σ => K (putF o.dst (.d .undef) fr) σ) : OpSem C n kd o K fr σ := by
  subst hkd
  rw [forceS_eq] at hK
  refine opSem_val (by decide) (by decide) fun B S w0 η φ a w hM => ⟨fun e => (by cases e), .inr ?_⟩
  have e1 := rd_own (ev_rep hM x) hx
  have e2 := M.repK _ _ _ _ (rd_da (ev_rep hM ix) hix)
  have e3 := M.repV _ _ _ _ (rd_da (ev_rep hM vx) hv)
  obtain ⟨b, hb, hF, hm⟩ : (M.obj l).R w (η i) (φ i) := hM.mem.own _ (sget_mem hg)
  obtain ⟨w', hr, hm', ht⟩ := hm.update M.hk M.ht q y
  have hi := mem_ids (sget_mem hg)
  have hX : ∀ c ∈ [b], c ∈ φ i := fun c hc => by rw [hF]; exact hc
  have hl := Later.turn B ht hX hi (F := [b]) (fun c hc => .inl (hX c hc)) id (M.obj (put l q y)).own
  have hmm := hM.mem.turnSame ht hX hi (F := [b]) (fun c hc => .inl (hX c hc)) (o := (M.obj (put l q y)).own) (show (M.obj (put l q y)).R w' (η i) [b] from ⟨b, hb, rfl, hm'⟩)
  have M' : Models C B S w0 n fr _ η _ a w' := ⟨hmm, hM.fr.later hl (fun j hj => ⟨by rw [ids_sturn]; exact hj, rfl⟩), hM.defers, hM.size⟩
  refine ⟨w', ?_, _, _, _, _, M'.put hd ⟨[Go.undef], by simp [RepD, RepC], rfl⟩, hK⟩
  simp only [execOp, ho]
  rw [e1, e2, e3, hb]
  exact run_u hr

/-- 's == nil' of a list that is empty: either -/
theorem op_nilE {o : Oper} {K : Fr → Sg → Prop} {t ty E kk : Nat} {x y : Operand} (ho : o.op = .binOp .eql t x y ty) (hu : C.P.underlying t = some (.slice E)) (hx : ev C.Γ fr x = .d (.list kk [])) (hy : y = .const (.slice none 0 0)) (hkd : kd = 0 ∨ kd = 3) (hd : dstOk o.dst n = true)
    (hK : ∀ b, K (putF o.dst (.d (.bool b)) fr) σ) : OpSem C n kd o K fr σ := by
  refine opSem_calc (by rcases hkd with rfl | rfl <;> decide) (by rcases hkd with rfl | rfl <;> decide) hd fun B S w0 η φ a w hM => ?_
  have h1 := rd_da (ev_rep hM x) hx
  obtain ⟨cs, r, e⟩ := h1
  simp only [RepC] at r
  obtain ⟨p, c, css, rfl, _⟩ := r
  have e1 : a.eval x = .slice p 0 c := e
  subst hy
  have e2 : a.eval (.const (.slice none 0 0)) = .slice none 0 0 := rfl
  have hr := Lib.run_eql_slice_nil (P := C.P) w t E p 0 c 0 0 hu
  refine .inr ⟨_, _, hK p.isNone, ?_, rd_bool _, fun _ => by cases p <;> simp [dynPure, ho, e1, e2, plain2, isEq]⟩
  simp only [execOp, ho, e1, e2]
  refine run_v ?_
  simp [eqGuard, hr]

/-! ### a function that hands back an owned slice -/
def MakeSl (C : Cx) (f : FuncId) (xs : List Da) (E k : Nat) (Q : List Da → Prop) : Prop :=
  ∀ (O : List Nat) (w : World) (us : List Value), (∀ b ∈ O, b < w.heap.size) → Glob C O w → Reps O w xs us →
    (callFunc f us.toArray).run C.P w = .ok (.enter f us.toArray) w ∧ Calls C.P f us.toArray w fun e w' => ∃ v css ds, e = .returned v ∧ Q ds ∧ Sl E k id w' v css ∧ (∀ b, v.ownBlock = some b → w.heap.size ≤ b) ∧
      RepCss (O ++ v.ownBlock.toList) w' ds css ∧ (∀ x ∈ css, RowOk k x) ∧ Tch [] w w'

theorem mksl_add (hM : Models C B S w0 n fr σ η φ a w) {O : List Nat} {j : Nat} (hj : sget j σ = none) {v : Value} {css : List (List Value)} (hs : Sl E k id w' v css) (hb : ∀ b, v.ownBlock = some b → w.heap.size ≤ b)
    (hr : ∀ O', RepCss O' w' ds css ∨ O' ≠ O) (hO : O = B ++ (v.ownBlock.toList ++ blocks φ σ)) (hk : ∀ x ∈ css, RowOk k x) (t : Tch [] w w') {K : KD} (hK : forceS (sins j (.slice E k ds) σ) fun σ => K (.own j) fr σ) :
    ∃ d fr' σ' η' φ', K d fr' σ' ∧ Models C B S w0 n fr' σ' η' φ' a w' ∧ (∃ cs, RepD η' (ids σ') (B ++ blocks φ' σ') w' d cs ∧ v = toVD d cs) := by
  have hj' := sget_none hj
  have hF : ∀ b ∈ v.ownBlock.toList, w.heap.size ≤ b := fun b h => hb b (by simpa using h)
  obtain ⟨hm, hl⟩ := hM.mem.add t hj' hF (o := .slice E k ds) (v := v) (by
    refine ⟨css, hs, rfl, ?_, hk⟩
    rcases hr O with h | h
    · rw [← hO]; exact h
    · exact absurd rfl h)
  have hM' : Models C B S w0 n fr ((j, .slice E k ds) :: σ) (upd η j v) (upd φ j v.ownBlock.toList) a w' := ⟨hm, hM.fr.add hj' hl, hM.defers, hM.size⟩
  have hM2 := hM'.perm (sins_perm j (.slice E k ds) σ)
  rw [forceS_eq] at hK
  have hin : j ∈ ids (sins j (.slice E k ds) σ) := mem_ids ((sins_mem j (.slice E k ds) σ (j, .slice E k ds)).2 (by simp))
  exact ⟨_, fr, _, _, _, hK, hM2, [v], ⟨hin, by rw [upd_eq]⟩, rfl⟩

theorem call_mksl (j : Nat) {q : Bool} {f : FuncId} {args : List Dat} {xs : List Da} {Q : List Da → Prop} {K : KD} (hj : sget j σ = none) (ha : allD args = some xs) (hp : MakeSl C f xs E k Q) (hK : ∀ ds, Q ds → forceS (sins j (.slice E k ds) σ) fun σ => K (.own j) fr σ) : SxCall C q f args K fr σ := by
  unfold SxCall
  rintro B S w0 η φ n a w vs hM ⟨css, hr, rfl⟩
  obtain ⟨h1, h2⟩ := allD_rep ha hr
  rw [h2]
  obtain ⟨g1, g2⟩ := hp (B ++ blocks φ σ) w _ hM.mem.lt hM.mem.glob ⟨css, h1, rfl⟩
  refine ⟨g1, g2.mono ?_⟩
  rintro e w' ⟨v, cs2, ds, rfl, hQ, hs, hb, hr2, hk, ht⟩
  have hin : RepCss (B ++ (v.ownBlock.toList ++ blocks φ σ)) w' ds cs2 := RepCss.later (O := (B ++ blocks φ σ) ++ v.ownBlock.toList) (w := w') ⟨Nat.le_refl _, fun _ _ _ => rfl, fun b hn _ hm => hn (by
    simp only [List.mem_append] at hm ⊢
    rcases hm with h | h | h
    · exact .inl (.inl h)
    · exact .inr h
    · exact .inl (.inr h))⟩ _ _ hr2
  obtain ⟨d, fr', σ', η', φ', x1, x2, x3⟩ := mksl_add hM hj hs hb (O := B ++ (v.ownBlock.toList ++ blocks φ σ)) (fun O' => by
    by_cases e : O' = B ++ (v.ownBlock.toList ++ blocks φ σ)
    · subst e; exact .inl hin
    · exact .inr e) rfl hk ht (hK ds hQ)
  exact ⟨v, d, fr', σ', η', φ', rfl, x1, x2, x3, fun _ => ht.ext⟩

/-- the same, of arguments that are looked at as at plain data; what it hands back points nowhere -/
theorem call_mkslb (T : Tab) (j : Nat) {q : Bool} {f : FuncId} {args : List Dat} {xs : List Da} {Q : List Da → Prop} {K : KD} (hj : sget j σ = none) (ha : close.closeL (close T σ 9) args = some xs) (hp : MakeSl C f xs E k Q) (hfl : ∀ ds, Q ds → flats ds = true) (hK : ∀ ds, Q ds → forceS (sins j (.slice E k ds) σ) fun σ => K (.own j) fr σ) : SxCall C q f args K fr σ := by
  unfold SxCall
  rintro B S w0 η φ n a w vs hM ⟨css, hr, rfl⟩
  obtain ⟨h1, h2⟩ := closeL_ok hM.mem args ha hr
  rw [h2]
  have hgl : Glob C B w := fun g hg => (hM.mem.glob g hg).later (later_B hM.mem)
  obtain ⟨g1, g2⟩ := hp B w _ (fun b hb => hM.mem.lt b (List.mem_append_left _ hb)) hgl ⟨css, h1, rfl⟩
  refine ⟨g1, g2.mono ?_⟩
  rintro e w' ⟨v, cs2, ds, rfl, hQ, hs, hb, hr2, hk, ht⟩
  obtain ⟨d, fr', σ', η', φ', x1, x2, x3⟩ := mksl_add hM hj hs hb (O := B ++ (v.ownBlock.toList ++ blocks φ σ)) (fun O' => .inl (RepCss.flat ds cs2 (hfl ds hQ) hr2)) rfl hk ht (hK ds hQ)
  exact ⟨v, d, fr', σ', η', φ', rfl, x1, x2, x3, fun _ => ht.ext⟩

/-- what is to be shown of a function that hands back an owned slice -/
def MakeSlK (E k : Nat) (Q : List Da → Prop) : Dat → Sg → Prop := fun d σ => match d with
  | .own i => withO (sget i σ) False fun o => (match o with
    | .slice E' k' ds => E' = E ∧ k' = k ∧ Q ds
    | _ => False)
  | .d .nils => Q []
  | _ => False
theorem mksl_of (hC : C.Ok T) {G : List FuncId} {pl : List (Nat × Plan)} {f : FuncId} {fn : Func} {c : Code} (hf : C.P.funcs[f]? = some fn) (hb : fn.body = some c) (hn : fn.ntmps = n) (hrun : ∀ (vs : Array Value) (w : World), (callFunc f vs).run C.P w = .ok (.enter f vs) w) (hk : codeOk C.P G pl c = true) {xs : List Da} {Q : List Da → Prop} (hl : xs.length ≤ n)
    (h : sxCode C T n pl c (sxEnd T fn.results.toList (MakeSlK E k Q)) (params (datas xs) 0) []) : MakeSl C f xs E k Q := by
  intro O w vs hO hg hr
  obtain ⟨css, h1, rfl⟩ := hr
  refine ⟨hrun _ _, ?_⟩
  have hr2 : RepDss (fun _ => Go.undef) (ids []) (O ++ blocks (fun _ => []) []) w (datas xs) css := datas_rep.2 (by simpa [blocks] using h1)
  have hlen : (datas xs).length ≤ n := by
    have : ∀ xs : List Da, (datas xs).length = xs.length := fun xs => by induction xs with | nil => rfl | cons x xs ih => simp [datas, ih]
    rw [this]; exact hl
  have := calls_of_sx hC hf hb hn hk hr2 hlen (mem_start hO hg _ _) h
  rw [datas_zip] at this
  refine this.mono ?_
  rintro e w' ⟨v, d, σ, η, φ, rfl, hK, hm, cs, g1, g2⟩
  unfold MakeSlK at hK
  split at hK
  · rename_i i
    rcases withO_some hK with hK | ⟨o, ho, hK⟩
    · exact hK.elim
    split at hK
    · rename_i E' k' ds
      obtain ⟨rfl, rfl, hQ⟩ := hK
      simp only [RepD] at g1
      obtain ⟨hi, rfl⟩ := g1
      obtain ⟨css, hs, e2, hrr, hkk⟩ := own_slice_val hm ho
      have e3 : v = η i := g2
      subst e3
      have hbl : ∀ b, (η i).ownBlock = some b → b ∈ φ i := fun b hb => by rw [e2, hb]; simp
      refine ⟨_, css, ds, rfl, hQ, hs, fun b hb => ?_, ?_, hkk, hm.tch⟩
      · rcases hm.new i hi b (hbl b hb) with h | h
        · cases h.1
        · exact h
      · refine RepCss.later ⟨Nat.le_refl _, fun _ _ _ => rfl, fun b hn _ hm' => hn ?_⟩ _ _ hrr
        rcases List.mem_append.1 hm' with h | h
        · exact List.mem_append_left _ h
        · exact List.mem_append_right _ (mem_blocks hi (hbl b (by simpa using h)))
    · exact hK.elim
  · simp only [RepD, RepC] at g1
    subst g1
    have e3 : v = .slice none 0 0 := g2
    subst e3
    exact ⟨_, [], [], rfl, hK, Sl.nil _ _ _ _, fun b hb => (by cases hb), by simp [RepCss], by simp, hm.tch⟩
  · exact hK.elim

/-! ### a function that turns an owned slice in its place -/
def TurnSl (C : Cx) (f : FuncId) (E k : Nat) (ds : List Da) (xs : List Da) (Q : Da → List Da → Prop) : Prop :=
  ∀ (O : List Nat) (w : World) (v : Value) (css : List (List Value)) (us : List Value), Sl E k id w v css → (∀ b ∈ v.ownBlock.toList, b ∈ O) → (∀ b ∈ O, b < w.heap.size) → RepCss O w ds css → (∀ x ∈ css, RowOk k x) → Glob C O w → Reps O w xs us →
    (callFunc f (v :: us).toArray).run C.P w = .ok (.enter f (v :: us).toArray) w ∧ Calls C.P f (v :: us).toArray w fun e w' => ∃ u y ds' css', e = .returned u ∧ Q y ds' ∧ Sl E k id w' v css' ∧ RepCss O w' ds' css' ∧ (∀ x ∈ css', RowOk k x) ∧ Rep O w' y u ∧ Tch v.ownBlock.toList w w'
theorem call_tsl {f : FuncId} {args : List Dat} {xs : List Da} {Q : Da → List Da → Prop} {K : KD} (hg : sget i σ = some (.slice E k ds)) (ha : allD args = some xs) (hp : TurnSl C f E k ds xs Q) (hK : ∀ y ds', Q y ds' → forceS (sturn id i (.slice E k ds') σ) fun σ => K (.d y) fr σ) : SxCall C false f (.own i :: args) K fr σ := by
  unfold SxCall
  rintro B S w0 η φ n a w vs hM ⟨css, hr, rfl⟩
  have hi := mem_ids (sget_mem hg)
  simp only [RepDss] at hr
  obtain ⟨c1, c2, rfl, r1, r2⟩ := hr
  obtain ⟨h1, h2⟩ := allD_rep ha r2
  simp only [RepD] at r1
  obtain ⟨_, rfl⟩ := r1
  obtain ⟨cs0, hs, e2, hrr, hkk⟩ := own_slice_val hM.mem hg
  have hbl : ∀ b ∈ (η i).ownBlock.toList, b ∈ φ i := fun b hb => by rw [e2]; exact hb
  have hzip : List.zipWith toVD (.own i :: args) ([η i] :: c2) = η i :: List.zipWith toV xs c2 := by rw [List.zipWith_cons_cons, h2]; rfl
  rw [hzip]
  obtain ⟨g1, g2⟩ := hp (B ++ blocks φ σ) w (η i) cs0 _ hs (fun b hb => List.mem_append_right _ (mem_blocks hi (hbl b hb))) hM.mem.lt hrr hkk hM.mem.glob ⟨c2, h1, rfl⟩
  refine ⟨g1, g2.mono ?_⟩
  rintro e w' ⟨u, y, ds', css', rfl, hQ, hs', hr', hk', hy, ht⟩
  have he : upd φ i (φ i) = φ := by funext j; by_cases e : j = i <;> simp [upd, e]
  have hl := Later.turn B ht hbl hi (F := φ i) (fun b hb => .inl hb) id (.slice E k ds')
  rw [he] at hl
  have hsame : Later (B ++ blocks φ σ) w' (B ++ blocks φ (sturn id i (.slice E k ds') σ)) w' := ⟨Nat.le_refl _, fun _ _ _ => rfl, fun b hn _ hm => hn (by
    rcases List.mem_append.1 hm with hm | hm
    · exact List.mem_append_left _ hm
    · have hm2 : b ∈ blocks (upd φ i (φ i)) (sturn id i (.slice E k ds') σ) := by rw [he]; exact hm
      rcases sturn_blocks (φ i) b hm2 with h | ⟨j, hj, _, h⟩
      · exact List.mem_append_right _ (mem_blocks hi h)
      · exact List.mem_append_right _ (mem_blocks hj h))⟩
  have hm := hM.mem.turnSame ht hbl hi (F := φ i) (fun b hb => .inl hb) (o := .slice E k ds') (by
    rw [he]
    exact ⟨css', hs', e2, RepCss.later hsame _ _ hr', hk'⟩)
  rw [he] at hm
  have hk2 := hK y ds' hQ
  rw [forceS_eq] at hk2
  have hids := ids_sturn id i (.slice E k ds') σ
  obtain ⟨cy, y1, y2⟩ := hy
  refine ⟨u, .d y, fr, _, η, φ, rfl, hk2, ⟨hm, hM.fr.later hl (fun j hj => ⟨by rw [hids]; exact hj, rfl⟩), hM.defers, hM.size⟩, ⟨cy, ?_, y2⟩, fun h => by cases h⟩
  simp only [RepD]
  exact RepC.later hsame _ _ y1

/-! ### a function that turns an owned struct -/
def TurnCells (C : Cx) (f : FuncId) (t : TypeId) (xs args : List Da) (Q : Da → List Da → Prop) : Prop :=
  ∀ (O : List Nat) (w : World) (b : Nat) (cs us : List Value), Blk w b t cs → b ∈ O → (∀ c ∈ O, c < w.heap.size) → RepCs O w xs cs → Glob C O w → Reps O w args us →
    (callFunc f (.pointer (some ⟨b, 0, none⟩) :: us).toArray).run C.P w = .ok (.enter f (.pointer (some ⟨b, 0, none⟩) :: us).toArray) w ∧
    Calls C.P f (.pointer (some ⟨b, 0, none⟩) :: us).toArray w fun e w' => ∃ v y ys cs', e = .returned v ∧ Q y ys ∧ Blk w' b t cs' ∧ RepCs O w' ys cs' ∧ Rep O w' y v ∧ Tch [b] w w'

theorem datas_cs {I O : List Nat} : ∀ {xs : List Da} {cs : List Value}, RepDs η I O w (datas xs) cs ↔ RepCs O w xs cs
  | [], cs => by simp only [datas, RepDs, RepCs]
  | x :: xs, cs => by
    simp only [datas, RepDs, RepCs, RepD]
    constructor
    · rintro ⟨c1, c2, h1, h2, h3⟩; exact ⟨c1, c2, h1, h2, datas_cs.1 h3⟩
    · rintro ⟨c1, c2, h1, h2, h3⟩; exact ⟨c1, c2, h1, h2, datas_cs.2 h3⟩

theorem call_cells {f : FuncId} {t : TypeId} {xs as : List Da} {args ds0 : List Dat} {Q : Da → List Da → Prop} {K : KD} (hg : sget i σ = some (.cells t ds0)) (hds : allD ds0 = some xs) (ha : allD args = some as) (hp : TurnCells C f t xs as Q) (hK : ∀ y ys, Q y ys → forceS (sturn id i (.cells t (datas ys)) σ) fun σ => K (.d y) fr σ) : SxCall C false f (.own i :: args) K fr σ := by
  unfold SxCall
  rintro B S w0 η φ n a w vs hM ⟨css, hr, rfl⟩
  have hi := mem_ids (sget_mem hg)
  simp only [RepDss] at hr
  obtain ⟨c1, c2, rfl, r1, r2⟩ := hr
  obtain ⟨h1, h2⟩ := allD_rep ha r2
  simp only [RepD] at r1
  obtain ⟨_, rfl⟩ := r1
  have hd2 := allD_datas hds
  subst hd2
  obtain ⟨b, cs, e1, e2, hb, hrr⟩ := hM.mem.own _ (sget_mem hg)
  simp only at e1 e2 hrr
  have hrr2 := datas_cs.1 hrr
  have hzip : List.zipWith toVD (.own i :: args) ([η i] :: c2) = .pointer (some ⟨b, 0, none⟩) :: List.zipWith toV as c2 := by rw [List.zipWith_cons_cons, h2, e1]; rfl
  rw [hzip]
  have hbm : b ∈ φ i := by rw [e2]; simp
  obtain ⟨g1, g2⟩ := hp (B ++ blocks φ σ) w b cs _ hb (List.mem_append_right _ (mem_blocks hi hbm)) hM.mem.lt hrr2 hM.mem.glob ⟨c2, h1, rfl⟩
  refine ⟨g1, g2.mono ?_⟩
  rintro e w' ⟨u, y, ys, cs', rfl, hQ, hb', hr', hy, ht⟩
  have hbl : ∀ c ∈ [b], c ∈ φ i := fun c hc => by rw [e2]; exact hc
  have he : upd φ i (φ i) = φ := by funext j; by_cases e : j = i <;> simp [upd, e]
  have hl := Later.turn B ht hbl hi (F := φ i) (fun b hb => .inl hb) id (.cells t (datas ys))
  rw [he] at hl
  have hsame : Later (B ++ blocks φ σ) w' (B ++ blocks φ (sturn id i (.cells t (datas ys)) σ)) w' := ⟨Nat.le_refl _, fun _ _ _ => rfl, fun b hn _ hm => hn (by
    rcases List.mem_append.1 hm with hm | hm
    · exact List.mem_append_left _ hm
    · have hm2 : b ∈ blocks (upd φ i (φ i)) (sturn id i (.cells t (datas ys)) σ) := by rw [he]; exact hm
      rcases sturn_blocks (φ i) b hm2 with h | ⟨j, hj, _, h⟩
      · exact List.mem_append_right _ (mem_blocks hi h)
      · exact List.mem_append_right _ (mem_blocks hj h))⟩
  have hm := hM.mem.turnSame ht hbl hi (F := φ i) (fun b hb => .inl hb) (o := .cells t (datas ys)) (by
    rw [he]
    exact ⟨b, cs', e1, e2, hb', datas_cs.2 (RepCs.later hsame _ _ hr')⟩)
  rw [he] at hm
  have hk2 := hK y ys hQ
  rw [forceS_eq] at hk2
  have hids := ids_sturn id i (.cells t (datas ys)) σ
  obtain ⟨cy, y1, y2⟩ := hy
  refine ⟨u, .d y, fr, _, η, φ, rfl, hk2, ⟨hm, hM.fr.later hl (fun j hj => ⟨by rw [hids]; exact hj, rfl⟩), hM.defers, hM.size⟩, ⟨cy, ?_, y2⟩, fun h => by cases h⟩
  simp only [RepD]
  exact RepC.later hsame _ _ y1

/-- what is to be shown of a function that turns an owned struct (900; 901 keeps its pointer) -/
def TurnCellsK (vs : List Value) (t : TypeId) (Q : Da → List Da → Prop) : Dat → Sg → Prop := fun d σ =>
  ∃ fr1 σ1 y ys, Lo [(0, d)] σ fr1 σ1 ∧ Sx.get fr1 0 = .d y ∧ sget 900 σ1 = some (.cells t (datas ys)) ∧ sget 901 σ1 = some (.ghost vs [.own 900]) ∧ Q y.plain ys
theorem cells_of (hC : C.Ok T) {G : List FuncId} {pl : List (Nat × Plan)} {f : FuncId} {fn : Func} {c : Code} (hf : C.P.funcs[f]? = some fn) (hb : fn.body = some c) (hn : fn.ntmps = n) (hrun : ∀ (vs : Array Value) (w : World), (callFunc f vs).run C.P w = .ok (.enter f vs) w) (hk : codeOk C.P G pl c = true) {t : TypeId} {xs args : List Da} {Q : Da → List Da → Prop} (hl : args.length + 1 ≤ n)
    (h : ∀ vs, sxCode C T n pl c (sxEnd T fn.results.toList (TurnCellsK vs t Q)) (params (.own 900 :: datas args) 0) [(900, .cells t (datas xs)), (901, .ghost vs [.own 900])]) : TurnCells C f t xs args Q := by
  intro O w b cs us hblk hbO hO hcs hg hr
  obtain ⟨css, h1, rfl⟩ := hr
  refine ⟨hrun _ _, ?_⟩
  let vs : List Value := [.pointer (some ⟨b, 0, none⟩)]
  let σ0 : Sg := [(900, .cells t (datas xs)), (901, .ghost vs [.own 900])]
  let η0 : Nat → Value := fun i => match i with | 900 => .pointer (some ⟨b, 0, none⟩) | _ => .nilFunc
  let φ0 : Nat → List Nat := fun i => match i with | 900 => [b] | _ => []
  let B0 := O.filter (fun c => decide (c ≠ b))
  have hbl0 : blocks φ0 σ0 = [b] := rfl
  have hset : ∀ c, c ∈ B0 ++ blocks φ0 σ0 ↔ c ∈ O := fun c => by
    rw [hbl0]
    simp only [List.mem_append, List.mem_filter, List.mem_singleton, decide_eq_true_eq, B0]
    constructor
    · rintro (h | rfl)
      · exact h.1
      · exact hbO
    · intro h
      by_cases e : c = b
      · exact .inr e
      · exact .inl ⟨h, e⟩
  have hsame : Later O w (B0 ++ blocks φ0 σ0) w := ⟨Nat.le_refl _, fun _ _ _ => rfl, fun c hn _ hm => hn ((hset c).1 hm)⟩
  have hm : Mem C B0 [b] w σ0 η0 φ0 w := by
    refine ⟨Tch.refl _ _, ?_, by simp [ids, σ0], ?_, ?_, fun c hc => hO c (List.mem_filter.1 hc).1, fun g hgm => (hg g hgm).later hsame⟩
    · intro p hp
      simp only [σ0, List.mem_cons, List.not_mem_nil, or_false] at hp
      rcases hp with rfl | rfl
      · exact ⟨b, cs, rfl, rfl, hblk, datas_cs.2 (RepCs.later hsame _ _ hcs)⟩
      · exact ⟨rfl, rfl, [[.pointer (some ⟨b, 0, none⟩)]], by simp [RepDss, RepD, ids, σ0, η0], rfl⟩
    · intro i hi j hj hij c hc
      simp only [ids, σ0, List.map_cons, List.map_nil, List.mem_cons, List.not_mem_nil, or_false] at hi hj
      rcases hi with rfl | rfl <;> rcases hj with rfl | rfl <;> simp_all [φ0]
    · intro i hi c hc
      simp only [ids, σ0, List.map_cons, List.map_nil, List.mem_cons, List.not_mem_nil, or_false] at hi
      rcases hi with rfl | rfl
      · left
        simp only [φ0] at hc
        exact ⟨hc, fun hm => by simp [B0] at hm hc; exact hm.2 hc⟩
      · simp [φ0] at hc
  have hr2 : RepDss η0 (ids σ0) (B0 ++ blocks φ0 σ0) w (.own 900 :: datas args) ([.pointer (some ⟨b, 0, none⟩)] :: css) := by
    simp only [RepDss]
    exact ⟨_, _, rfl, by simp [RepD, ids, σ0, η0], datas_rep.2 (RepCss.later hsame _ _ h1)⟩
  have hlen : (Dat.own 900 :: datas args).length ≤ n := by
    have : ∀ xs : List Da, (datas xs).length = xs.length := fun xs => by induction xs with | nil => rfl | cons x xs ih => simp [datas, ih]
    simp only [List.length_cons, this]; exact hl
  have := calls_of_sx hC hf hb hn hk hr2 hlen hm (h vs)
  rw [List.zipWith_cons_cons, datas_zip] at this
  refine this.mono ?_
  rintro e w' ⟨v, d, σ', η', φ', rfl, ⟨fr1, σ1, y, ys, hLo, hy, hg0, hg1, hQ⟩, hm', hv⟩
  have hMf : Models C B0 [b] w 1 [(0, d)] σ' η' φ' { tmps := #[v], defers := [] } w' := ⟨hm', fun s => by
    simp only [Sx.get]
    rcases beq_cases 0 s with ⟨hbq, e⟩ | ⟨hbq, e⟩ <;> rw [hbq]
    · subst e
      obtain ⟨c1, c2, c3⟩ := hv
      exact ⟨c1, c2, by simp [c3]⟩
    · exact ⟨[Array.getD #[v] s undef], by simp [RepD, RepC], rfl⟩, rfl, rfl⟩
  obtain ⟨η', φ', hM1⟩ := hLo.models hMf
  obtain ⟨_, _, qss, q3, q4⟩ := hM1.mem.own _ (sget_mem hg1)
  simp only [RepDss, RepD] at q3
  obtain ⟨_, _, rfl, ⟨_, rfl⟩, rfl⟩ := q3
  have hη : η' 900 = .pointer (some ⟨b, 0, none⟩) := by
    have : vs = [η' 900] := q4
    simp only [vs, List.cons.injEq, and_true] at this
    exact this.symm
  obtain ⟨b', cs', e1, e2, hb', hr'⟩ := hM1.mem.own _ (sget_mem hg0)
  simp only at e1 e2 hr'
  rw [hη] at e1
  simp only [Value.pointer.injEq, Option.some.injEq, Addr.mk.injEq, and_true] at e1
  subst e1
  have hsub : Later (B0 ++ blocks φ' σ1) w' O w' := ⟨Nat.le_refl _, fun _ _ _ => rfl, fun c hn _ hm => hn (by
    by_cases e : c = b
    · subst e; exact List.mem_append_right _ (mem_blocks (mem_ids (sget_mem hg0)) (by rw [e2]; simp))
    · exact List.mem_append_left _ (by simp [B0, hm, e]))⟩
  obtain ⟨cy, y1, y2⟩ := hM1.fr 0
  rw [hy] at y1 y2
  simp only [RepD] at y1
  refine ⟨v, y.plain, ys, cs', rfl, hQ, hb', RepCs.later hsub _ _ (datas_cs.1 hr'), ⟨cy, RepC.plain y cy (RepC.later hsub _ _ y1), ?_⟩, hM1.mem.tch⟩
  rw [toV_plain]
  exact y2
end
end Go.Sx

namespace Go.Sx
open Go Go.RowKit Go.Reg
section
variable {C : Cx} {T : Tab} {fr : Fr} {σ : Sg}
theorem call_eq {q : Bool} {f : FuncId} {args : List Dat} {xs : List Da} {z : Da} {K : KD} (ha : allD args = some xs) (hp : Pure C f xs (fun y => y = z)) (hK : K (.d z) fr σ) : SxCall C q f args K fr σ :=
  call_pure ha hp fun y hy => by subst hy; exact hK
theorem call_eqb {q : Bool} {f : FuncId} {args : List Dat} {xs : List Da} {z : Da} {K : KD} (T : Tab) (ha : close.closeL (close T σ 9) args = some xs) (hp : Pure C f xs (fun y => y = z)) (hfl : z.flat = true) (hK : K (.d z) fr σ) : SxCall C q f args K fr σ :=
  call_borrow T ha hp (fun y hy => by subst hy; exact hfl) fun y hy => by subst hy; exact hK
theorem shr_of {k : IntKind} {a : Int} (b : Nat) (hb : b ≤ 8) (yk : IntKind) : Op.shift .shr k a yk (b : Int) = pure (.int k (a.fdiv (2 ^ b))) := by
  unfold Op.shift
  have h1 : ¬ ((b : Int) < 0) := by omega
  have h2 : min ((b : Int).toNat) k.bits = b := by
    have h3 : 8 ≤ k.bits := by cases k <;> decide
    rw [Int.toNat_natCast]; omega
  rw [if_neg h1, h2]
/-- 'x >> n' -/
theorem op_shr (b : Nat) {n kd : Nat} {o : Oper} {K : Fr → Sg → Prop} {t ty : Nat} {x y : Operand} {k yk : IntKind} {a : Int} (ho : o.op = .binOp .shr t x y ty) (hx : ev C.Γ fr x = .d (.int k a)) (hy : ev C.Γ fr y = .d (.int yk (b : Int))) (hb : b ≤ 8) (hkd : kd = 3) (hd : dstOk o.dst n = true)
    (hK : K (putF o.dst (.d (.int k (a.fdiv (2 ^ b)))) fr) σ) : OpSem C n kd o K fr σ := by
  subst hkd
  refine opSem_calc (by decide) (by decide) hd fun B S w0 η φ a' w hM => ?_
  have e1 := rep_int (rd_da (ev_rep hM x) hx)
  have e2 := rep_int (rd_da (ev_rep hM y) hy)
  refine .inr ⟨_, _, hK, ?_, rd_int _ _, fun h => by cases h⟩
  simp only [execOp, ho]
  rw [e1, e2]
  refine run_v ?_
  simp [eqGuard, binOp, shr_of b hb]
end
end Go.Sx

namespace Go.Sx
open Go Go.RowKit Go.Reg
section
variable {C : Cx} {T : Tab} {fr : Fr} {σ : Sg}
def EatSl (C : Cx) (f : FuncId) (E k : Nat) (ds : List Da) (xs : List Da) (Q : List Da → Prop) : Prop :=
  ∀ (O : List Nat) (w : World) (v : Value) (css : List (List Value)) (us : List Value), Sl E k id w v css → (∀ b ∈ v.ownBlock.toList, b ∈ O) → (∀ b ∈ O, b < w.heap.size) → RepCss O w ds css → (∀ x ∈ css, RowOk k x) → Glob C O w → Reps O w xs us →
    (callFunc f (v :: us).toArray).run C.P w = .ok (.enter f (v :: us).toArray) w ∧ Calls C.P f (v :: us).toArray w fun e w' => ∃ u ds' css', e = .returned u ∧ Q ds' ∧ Sl E k id w' u css' ∧ (∀ b ∈ u.ownBlock.toList, b ∈ v.ownBlock.toList ∨ w.heap.size ≤ b) ∧
      RepCss (O ++ u.ownBlock.toList) w' ds' css' ∧ (∀ x ∈ css', RowOk k x) ∧ Tch v.ownBlock.toList w w'
theorem call_eat {i E k : Nat} {ds : List Da} {f : FuncId} {args : List Dat} {xs : List Da} {Q : List Da → Prop} {K : KD} (hg : sget i σ = some (.slice E k ds)) (ha : allD args = some xs) (hp : EatSl C f E k ds xs Q)
    (hK : ∀ ds', Q ds' → forceF (killF i .undef fr) fun fr => forceS (sturn (killO i .undef) i (.slice E k ds') σ) fun σ => K (.own i) fr σ) : SxCall C false f (.own i :: args) K fr σ := by
  unfold SxCall
  rintro B S w0 η φ n a w vs hM ⟨css, hr, rfl⟩
  have hi := mem_ids (sget_mem hg)
  simp only [RepDss] at hr
  obtain ⟨c1, c2, rfl, r1, r2⟩ := hr
  obtain ⟨h1, h2⟩ := allD_rep ha r2
  simp only [RepD] at r1
  obtain ⟨_, rfl⟩ := r1
  obtain ⟨cs0, hs, e2, hrr, hkk⟩ := own_slice_val hM.mem hg
  have hbl : ∀ b ∈ (η i).ownBlock.toList, b ∈ φ i := fun b hb => by rw [e2]; exact hb
  have hzip : List.zipWith toVD (.own i :: args) ([η i] :: c2) = η i :: List.zipWith toV xs c2 := by rw [List.zipWith_cons_cons, h2]; rfl
  rw [hzip]
  obtain ⟨g1, g2⟩ := hp (B ++ blocks φ σ) w (η i) cs0 _ hs (fun b hb => List.mem_append_right _ (mem_blocks hi (hbl b hb))) hM.mem.lt hrr hkk hM.mem.glob ⟨c2, h1, rfl⟩
  refine ⟨g1, g2.mono ?_⟩
  rintro e w' ⟨u, ds', css', rfl, hQ, hs', hbu, hr', hk', ht⟩
  have hF : ∀ b ∈ u.ownBlock.toList, b ∈ φ i ∨ w.heap.size ≤ b := fun b hb => (hbu b hb).imp (hbl b) id
  have hlt := Later.turn (σ := σ) B ht hbl hi hF (killO i .undef) (.slice E k ds')
  have hsame : Later ((B ++ blocks φ σ) ++ u.ownBlock.toList) w' (B ++ blocks (upd φ i u.ownBlock.toList) (sturn (killO i .undef) i (.slice E k ds') σ)) w' := ⟨Nat.le_refl _, fun _ _ _ => rfl, fun b hn _ hm => hn (by
    rcases List.mem_append.1 hm with hm | hm
    · exact List.mem_append_left _ (List.mem_append_left _ hm)
    · rcases sturn_blocks u.ownBlock.toList b hm with h | ⟨j, hj, _, h⟩
      · exact List.mem_append_right _ h
      · exact List.mem_append_left _ (List.mem_append_right _ (mem_blocks hj h)))⟩
  have hm' := hM.mem.turnKill (o := .slice E k ds') (v := u) ht hbl hi hF ⟨css', hs', rfl, RepCss.later hsame _ _ hr', hk'⟩
  have hfr := hM.fr.kill (x := .undef) rfl hlt (I' := ids (sturn (killO i .undef) i (.slice E k ds') σ)) (η' := upd η i u) (i := i) (fun j hj hne => ⟨by rw [ids_sturn]; exact hj, upd_ne _ _ _ hne⟩) (RepC.undef_ex _ _ _)
  have hk2 := hK ds' hQ
  rw [forceF_eq, forceS_eq] at hk2
  exact ⟨u, .own i, _, _, _, _, rfl, hk2, ⟨hm', hfr, hM.defers, hM.size⟩, ⟨[u], by simp only [RepD]; exact ⟨by rw [ids_sturn]; exact hi, by rw [upd_eq]⟩, rfl⟩, fun h => by cases h⟩
end
theorem Pure.lax {C : Cx} {f : FuncId} {xs ys : List Da} {Q : Da → Prop} (h : LaxAs xs ys) (hp : Pure C f ys Q) : Pure C f xs Q := by
  intro O w us hO hg hr
  obtain ⟨css, h1, e⟩ := hr
  obtain ⟨g1, g2⟩ := RepCss.lax h h1
  exact hp O w us hO hg ⟨css, g1, e.trans g2⟩
end Go.Sx

namespace Go.Sx
open Go Go.RowKit Go.Reg
theorem flats_map {α : Type} (f : α → Da) (h : ∀ x, (f x).flat = true) : ∀ l : List α, flats (l.map f) = true
  | [] => rfl
  | x :: l => by simp [flats, h x, flats_map f h l]
section
variable {C : Cx} {T : Tab} {n E k : Nat}
theorem eatsl_of (hC : C.Ok T) {G : List FuncId} {pl : List (Nat × Plan)} {f : FuncId} {fn : Func} {c : Code} (hf : C.P.funcs[f]? = some fn) (hb : fn.body = some c) (hn : fn.ntmps = n) (hrun : ∀ (vs : Array Value) (w : World), (callFunc f vs).run C.P w = .ok (.enter f vs) w) (hk : codeOk C.P G pl c = true) {ds xs : List Da} {Q : List Da → Prop} (hl : xs.length + 1 ≤ n)
    (h : sxCode C T n pl c (sxEnd T fn.results.toList (MakeSlK E k Q)) (params (.own 900 :: datas xs) 0) [(900, .slice E k ds)]) (hfl : ∀ ds, Q ds → flats ds = true := by (intro _ h; subst h; exact flats_map _ (fun _ => rfl) _)) : EatSl C f E k ds xs Q := by
  intro O w v css us hs hbO hO hcs hk0 hg hr
  obtain ⟨css1, h1, rfl⟩ := hr
  refine ⟨hrun _ _, ?_⟩
  let σ0 : Sg := [(900, .slice E k ds)]
  let η0 : Nat → Value := fun _ => v
  let φ0 : Nat → List Nat := fun _ => v.ownBlock.toList
  let B0 := O.filter (fun c => !decide (c ∈ v.ownBlock.toList))
  have hbl0 : blocks φ0 σ0 = v.ownBlock.toList := by simp [blocks, σ0, φ0]
  have hset : ∀ c, c ∈ B0 ++ blocks φ0 σ0 ↔ c ∈ O := fun c => by
    rw [hbl0]
    simp only [List.mem_append, List.mem_filter, Bool.not_eq_true', decide_eq_false_iff_not, B0]
    constructor
    · rintro (h | h)
      · exact h.1
      · exact hbO c h
    · intro h
      by_cases e : c ∈ v.ownBlock.toList
      · exact .inr e
      · exact .inl ⟨h, e⟩
  have hsame : Later O w (B0 ++ blocks φ0 σ0) w := ⟨Nat.le_refl _, fun _ _ _ => rfl, fun c hn _ hm => hn ((hset c).1 hm)⟩
  have hm : Mem C B0 v.ownBlock.toList w σ0 η0 φ0 w := by
    refine ⟨Tch.refl _ _, ?_, by simp [ids, σ0], ?_, ?_, fun c hc => hO c (List.mem_filter.1 hc).1, fun g hgm => (hg g hgm).later hsame⟩
    · intro p hp
      simp only [σ0, List.mem_singleton] at hp
      subst hp
      exact ⟨css, hs, rfl, RepCss.later hsame _ _ hcs, hk0⟩
    · intro i hi j hj hij c hc
      simp only [ids, σ0, List.map_cons, List.map_nil, List.mem_singleton] at hi hj
      omega
    · intro i hi c hc
      exact .inl ⟨hc, fun hm => by
        simp only [B0, List.mem_filter, Bool.not_eq_true', decide_eq_false_iff_not] at hm
        exact hm.2 hc⟩
  have hr2 : RepDss η0 (ids σ0) (B0 ++ blocks φ0 σ0) w (.own 900 :: datas xs) ([v] :: css1) := by
    simp only [RepDss]
    exact ⟨_, _, rfl, by simp [RepD, ids, σ0, η0], datas_rep.2 (RepCss.later hsame _ _ h1)⟩
  have hlen : (Dat.own 900 :: datas xs).length ≤ n := by
    have : ∀ xs : List Da, (datas xs).length = xs.length := fun xs => by induction xs with | nil => rfl | cons x xs ih => simp [datas, ih]
    simp only [List.length_cons, this]; exact hl
  have := calls_of_sx hC hf hb hn hk hr2 hlen hm h
  rw [List.zipWith_cons_cons, datas_zip] at this
  refine this.mono ?_
  rintro e w' ⟨v', d, σ', η', φ', rfl, hK, hm', cs, g1, g2⟩
  unfold MakeSlK at hK
  split at hK
  · rename_i i
    rcases withO_some hK with hK | ⟨o, ho, hK⟩
    · exact hK.elim
    split at hK
    · rename_i E' k' ds'
      obtain ⟨rfl, rfl, hQ⟩ := hK
      simp only [RepD] at g1
      obtain ⟨hi, rfl⟩ := g1
      obtain ⟨css', hs', e2, hrr, hkk⟩ := own_slice_val hm' ho
      have e3 : v' = η' i := g2
      subst e3
      refine ⟨_, ds', css', rfl, hQ, hs', fun b hb => ?_, RepCss.flat ds' css' (hfl ds' hQ) hrr, hkk, hm'.tch⟩
      rcases hm'.new i hi b (by rw [e2]; exact hb) with h | h
      · exact .inl h.1
      · exact .inr h
    · exact hK.elim
  · simp only [RepD, RepC] at g1
    subst g1
    have e3 : v' = .slice none 0 0 := g2
    subst e3
    exact ⟨_, [], [], rfl, hK, Sl.nil _ _ _ _, fun b hb => (by cases hb), by simp [RepCss], by simp, hm'.tch⟩
  · exact hK.elim
end
section
variable {C : Cx} {T : Tab} {B S : List Nat} {w0 w : World} {fr : Fr} {σ : Sg} {η : Nat → Value} {φ : Nat → List Nat} {i E k : Nat} {ds : List Da}
/-- all but one thing: its blocks are not looked at -/
theorem Mem.rest (h : Mem C B S w0 σ η φ w) (hi : i ∈ ids σ) :
    Mem C (B ++ φ i) (blocks φ σ) w (sdel (killO i .undef) i σ) η φ w ∧ Later (B ++ blocks φ σ) w ((B ++ φ i) ++ blocks φ (sdel (killO i .undef) i σ)) w := by
  have hl : Later (B ++ blocks φ σ) w ((B ++ φ i) ++ blocks φ (sdel (killO i .undef) i σ)) w := by
    refine ⟨Nat.le_refl _, fun _ _ _ => rfl, fun b hn hs hm => ?_⟩
    rcases List.mem_append.1 hm with hm | hm
    · rcases List.mem_append.1 hm with hm | hm
      · exact hn (List.mem_append_left _ hm)
      · exact hn (List.mem_append_right _ (mem_blocks hi hm))
    · obtain ⟨p, hp, hb⟩ := List.mem_flatMap.1 hm
      obtain ⟨q, hq, _, rfl⟩ := mem_sdel hp
      exact hn (List.mem_append_right _ (mem_blocks (mem_ids hq) hb))
  have hd := (h.del (i := i) (x := .undef) rfl (RepC.undef_ex _ _ _)).1
  have hI : ∀ j ∈ ids σ, j ≠ i → j ∈ ids (sdel (killO i .undef) i σ) ∧ η j = η j := fun j hj hne => ⟨by rw [ids_sdel]; exact List.mem_filter.2 ⟨hj, by simpa using hne⟩, rfl⟩
  refine ⟨⟨Tch.refl _ _, ?_, hd.nodup, hd.disj, ?_, ?_, fun g hg => (h.glob g hg).later hl⟩, hl⟩
  · intro p hp
    obtain ⟨q, hq, hne, rfl⟩ := mem_sdel hp
    exact (h.own q hq).kill rfl hl hI (RepC.undef_ex _ _ _) (Tch.refl [] w) (fun _ _ => by simp)
  · intro j hj b hb
    rw [ids_sdel] at hj
    obtain ⟨hj, hne⟩ := List.mem_filter.1 hj
    have hne : j ≠ i := by simpa using hne
    refine .inl ⟨mem_blocks hj hb, fun hm => ?_⟩
    rcases List.mem_append.1 hm with hm | hm
    · rcases h.new j hj b hb with h1 | h1
      · exact h1.2 hm
      · have := h.out b hm; omega
    · exact h.disj j hj i hi hne b hb hm
  · intro b hb
    rcases List.mem_append.1 hb with hb | hb
    · exact h.lt b (List.mem_append_left _ hb)
    · exact h.lt b (List.mem_append_right _ (mem_blocks hi hb))
/-- as 'call_eat'; the other owned things are lent -/
theorem call_eatb (T : Tab) {f : FuncId} {args : List Dat} {xs : List Da} {Q : List Da → Prop} {K : KD} (hg : sget i σ = some (.slice E k ds)) (ha : close.closeL (close T (sdel (killO i .undef) i σ) 9) (kills i .undef args) = some xs) (hp : EatSl C f E k ds xs Q) (hfl : ∀ ds, Q ds → flats ds = true)
    (hK : ∀ ds', Q ds' → forceF (killF i .undef fr) fun fr => forceS (sturn (killO i .undef) i (.slice E k ds') σ) fun σ => K (.own i) fr σ) : SxCall C false f (.own i :: args) K fr σ := by
  unfold SxCall
  rintro B S w0 η φ n a w vs hM ⟨css, hr, rfl⟩
  have hi := mem_ids (sget_mem hg)
  simp only [RepDss] at hr
  obtain ⟨c1, c2, rfl, r1, r2⟩ := hr
  obtain ⟨hm2, hl2⟩ := hM.mem.rest hi
  have hI : ∀ j ∈ ids σ, j ≠ i → j ∈ ids (sdel (killO i .undef) i σ) ∧ η j = η j := fun j hj hne => ⟨by rw [ids_sdel]; exact List.mem_filter.2 ⟨hj, by simpa using hne⟩, rfl⟩
  have r3 := RepDss.kill (i := i) (x := .undef) rfl hl2 hI (RepC.undef_ex _ _ _) args c2 r2
  obtain ⟨h1, h2⟩ := closeL_ok hm2 (kills i .undef args) ha r3
  rw [zip_kills rfl] at h2
  simp only [RepD] at r1
  obtain ⟨_, rfl⟩ := r1
  obtain ⟨cs0, hs, e2, hrr, hkk⟩ := own_slice_val hM.mem hg
  have hbl : ∀ b ∈ (η i).ownBlock.toList, b ∈ φ i := fun b hb => by rw [e2]; exact hb
  have hzip : List.zipWith toVD (.own i :: args) ([η i] :: c2) = η i :: List.zipWith toV xs c2 := by rw [List.zipWith_cons_cons, h2]; rfl
  rw [hzip]
  have hsm : Later (B ++ blocks φ σ) w (B ++ φ i) w := ⟨Nat.le_refl _, fun _ _ _ => rfl, fun b hn _ hm => hn (by
    rcases List.mem_append.1 hm with hm | hm
    · exact List.mem_append_left _ hm
    · exact List.mem_append_right _ (mem_blocks hi hm))⟩
  obtain ⟨g1, g2⟩ := hp (B ++ φ i) w (η i) cs0 _ hs (fun b hb => List.mem_append_right _ (hbl b hb)) hm2.out (RepCss.later hsm _ _ hrr) hkk (fun g hg => (hM.mem.glob g hg).later hsm) ⟨c2, h1, rfl⟩
  refine ⟨g1, g2.mono ?_⟩
  rintro e w' ⟨u, ds', css', rfl, hQ, hs', hbu, hr', hk', ht⟩
  have hF : ∀ b ∈ u.ownBlock.toList, b ∈ φ i ∨ w.heap.size ≤ b := fun b hb => (hbu b hb).imp (hbl b) id
  have hlt := Later.turn (σ := σ) B ht hbl hi hF (killO i .undef) (.slice E k ds')
  have hm' := hM.mem.turnKill (o := .slice E k ds') (v := u) ht hbl hi hF ⟨css', hs', rfl, RepCss.flat _ _ (hfl ds' hQ) hr', hk'⟩
  have hfr := hM.fr.kill (x := .undef) rfl hlt (I' := ids (sturn (killO i .undef) i (.slice E k ds') σ)) (η' := upd η i u) (i := i) (fun j hj hne => ⟨by rw [ids_sturn]; exact hj, upd_ne _ _ _ hne⟩) (RepC.undef_ex _ _ _)
  have hk2 := hK ds' hQ
  rw [forceF_eq, forceS_eq] at hk2
  exact ⟨u, .own i, _, _, _, _, rfl, hk2, ⟨hm', hfr, hM.defers, hM.size⟩, ⟨[u], by simp only [RepD]; exact ⟨by rw [ids_sturn]; exact hi, by rw [upd_eq]⟩, rfl⟩, fun h => by cases h⟩
end
end Go.Sx
