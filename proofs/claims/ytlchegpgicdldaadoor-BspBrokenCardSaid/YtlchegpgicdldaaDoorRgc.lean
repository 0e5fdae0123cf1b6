/- A region that draws its order, walked once: the third part: what each kind of operation looks at; the rule. -/
import Derived.Test.YtlchegpgicdldaaDoorRgb
namespace Go.Reg
open Go Go.RowKit

/-- a value, and nothing looked at -/
def ValOf (s : Sem Next) (P : Program) : Prop := ∀ w n w1, s.run P w = .ok n w1 → ∃ v, n = .value v
theorem val_bind {P : Program} (s : Sem Value) : ValOf (do pure (.value (← s))) P := fun w n w1 h => by
  rw [Sem.run_bind] at h
  cases hs : s.run P w with
  | halt x w' => rw [hs] at h; simp at h
  | ok a w' => rw [hs] at h; simp at h; exact ⟨a, h.1.symm⟩

theorem sane_fix {α β : Type} {P : Program} {s : Sem α} {f : α → Sem β} {d : α} (h : ∀ w, s.run P w = .ok d w) (hf : Sane P (f d)) : Sane P (s >>= f) := by
  intro w b w1 hr
  rw [Sem.run_bind, h w] at hr
  obtain ⟨h1, h2⟩ := hf w b w1 hr
  exact ⟨h1, fun w2 => by rw [Sem.run_bind, h w2]; exact h2 w2⟩
theorem mono_fix {α β : Type} {P : Program} {s : Sem α} {f : α → Sem β} {d : α} (h : ∀ w, s.run P w = .ok d w) (hf : Mono P (f d)) : Mono P (s >>= f) := by
  intro w b w1 hr
  rw [Sem.run_bind, h w] at hr
  obtain ⟨h1, h2⟩ := hf w b w1 hr
  exact ⟨h1, fun w2 he => by rw [Sem.run_bind, h w2]; exact h2 w2 he⟩

theorem sane_intBits {P : Program} (op : BinOp) (k : IntKind) (x y : Int) : Sane P (Op.intBits op k x y) := by
  unfold Op.intBits
  repeat' (first | exact sane_pure _ | exact sane_stuck _ | split | dsimp only [])

theorem sane_unary {P : Program} (op : UnOp) (x : Value) : Sane P (Op.unary op x) := by
  unfold Op.unary
  split <;> first | exact sane_intArith _ _ _ _ | exact sane_intBits _ _ _ _ | exact sane_pure _ | exact sane_unsupported _ | exact sane_stuck _

/-- pairs at which '==' looks at no memory -/
def eqPlain : Value → Value → Bool
  | .bool _, .bool _ | .pointer none, .pointer _ | .pointer (some _), .pointer none | .iface _ _, .nilIface | .nilIface, .nilIface => true
  | .slice none _ _, .slice _ _ _ | .slice (some _) _ _, .slice none _ _ | .map none, .map _ | .map (some _), .map none | .nilFunc, .nilFunc | .func _ _ _, .nilFunc => true
  | _, _ => false

theorem sane_equal {P : Program} (t : TypeId) {x y : Value} (h : eqPlain x y = true) : Sane P (Op.equal t x y) := by
  unfold Op.equal
  rw [show Op.maxDepth = 9999 + 1 from rfl, Op.equalIn]
  refine sane_bind (sane_underlying _) fun d => ?_
  unfold eqPlain at h
  split at h <;> first | (cases h; done) | skip
  · cases d <;> first | exact sane_pure _ | exact sane_stuck _ | exact sane_unsupported _
  · rename_i b
    cases b <;> cases d <;> first | exact sane_pure _ | exact sane_stuck _ | exact sane_unsupported _
  all_goals (cases d <;> first | exact sane_pure _ | exact sane_stuck _ | exact sane_unsupported _ | (rename_i o _ _; cases o <;> first | exact sane_pure _ | exact sane_stuck _ | exact sane_unsupported _) | (rename_i o; cases o <;> first | exact sane_pure _ | exact sane_stuck _ | exact sane_unsupported _))

theorem sane_eqGuard {P : Program} (op : BinOp) (t : TypeId) (x y : Operand) {a b : Value} (h : eqPlain a b = true) (hn : a = .nilIface → b = .nilIface → y = .const .nilIface) : Sane P (eqGuard op t x y a b) := by
  unfold eqPlain at h
  split at h <;> first | (cases h; done) | skip
  · cases op <;> exact sane_pure _
  · cases op <;> exact sane_pure _
  · cases op <;> exact sane_pure _
  · cases op <;> exact sane_pure _
  · rw [hn rfl rfl]
    cases op <;> first | exact sane_pure _ | (unfold eqGuard; simp only [Bool.or_true, if_true]; exact sane_pure _)
  all_goals (cases op <;> exact sane_pure _)

theorem sane_shift {P : Program} (op : BinOp) (k : IntKind) (x : Int) (yk : IntKind) (y : Int) : Sane P (Op.shift op k x yk y) := by
  unfold Op.shift
  split
  · exact sane_panic _
  · dsimp only; split <;> first | exact sane_pure _ | exact sane_stuck _
theorem sane_binOp {P : Program} (op : BinOp) (t : TypeId) (x y : Operand) {a b : Value} (h : plain2 op a b = true ∨ (a = .nilIface ∧ b = .nilIface ∧ y = .const .nilIface ∧ (op = .eql ∨ op = .neq))) :
    Sane P (do eqGuard op t x y a b; binOp op t a b) := by
  have viaEq : ∀ {a b : Value}, eqPlain a b = true → (a = .nilIface → b = .nilIface → y = .const .nilIface) → (op = .eql ∨ op = .neq) →
      (∀ (k k' : IntKind) i j, ¬ (a = .int k i ∧ b = .int k' j)) → Sane P (do eqGuard op t x y a b; binOp op t a b) := fun {a b} he hn hop hni => by
    refine sane_bind (sane_eqGuard op t x y he hn) fun _ => ?_
    rcases hop with rfl | rfl
    · unfold eqPlain at he
      split at he <;> first | (cases he; done) | exact sane_bind (sane_equal t rfl) fun _ => sane_pure _
    · unfold eqPlain at he
      split at he <;> first | (cases he; done) | exact sane_bind (sane_equal t rfl) fun _ => sane_pure _
  have eqOp : isEq op = true → (op = .eql ∨ op = .neq) := fun hh => by
    cases op <;> first | (cases hh; done) | exact Or.inl rfl | exact Or.inr rfl
  rcases h with h | ⟨rfl, rfl, hy, hop⟩
  · unfold plain2 at h
    split at h <;> first | (cases h; done) | skip
    · have g : ∀ (k k' : IntKind) (i j : Int), Sane P (eqGuard op t x y (.int k i) (.int k' j)) := fun _ _ _ _ => by
        cases op <;> exact sane_pure _
      refine sane_bind (g _ _ _ _) fun _ => ?_
      cases op <;> first | (cases h; done) | skip
      all_goals (unfold binOp; dsimp only; first | exact sane_shift _ _ _ _ _ | (split <;> first | exact sane_stuck _ | exact sane_intArith _ _ _ _ | exact sane_intDiv _ _ _ _ | exact sane_intBits _ _ _ _ | exact sane_intCmp _ _ _))
    · have g : ∀ i j, Sane P (eqGuard op t x y (.string i) (.string j)) := fun _ _ => by
        cases op <;> exact sane_pure _
      refine sane_bind (g _ _) fun _ => ?_
      cases op <;> (unfold binOp; dsimp only; first | exact sane_stringOp _ _ _ | exact sane_stuck _)
    all_goals exact viaEq rfl (fun h => by cases h) (eqOp h) (fun _ _ _ _ h => by cases h.1)
  · exact viaEq rfl (fun _ _ => hy) hop (fun _ _ _ _ h => by cases h.1)

theorem sane_val {P : Program} {s : Sem Value} (h : Sane P s) : Sane P (do pure (Next.value (← s))) := sane_bind h fun _ => sane_pure _
theorem mono_pure {α : Type} {P : Program} (a : α) : Mono P (pure a : Sem α) := (sane_pure a).mono
theorem mono_val {P : Program} {s : Sem Value} (h : Mono P s) : Mono P (do pure (Next.value (← s))) := mono_bind h fun _ => mono_pure _

theorem mapM_sane {α β : Type} {P : Program} {f : α → Sem β} (h : ∀ a, Sane P (f a)) (l : Array α) : Sane P (l.mapM f) := by
  rw [Array.mapM_eq_mapM_toList]
  have : ∀ l : List α, Sane P (l.mapM f) := fun l => by
    induction l with
    | nil => simp only [List.mapM_nil]; exact sane_pure _
    | cons x l ih => simp only [List.mapM_cons]; exact sane_bind (h x) fun _ => sane_bind ih fun _ => sane_pure _
  exact sane_bind (this _) fun _ => sane_pure _

theorem sane_build {P : Program} (t : TypeId) {fs : Array Field} (ht : P.underlying t = some (.struct fs)) (parts : Array (Nat × Value)) : Sane P (Instr.build t parts) := by
  unfold Instr.build
  refine sane_bind (sane_zeroValue _) fun z => ?_
  dsimp only
  refine sane_fix (fun w => run_underlying ht w) ?_
  dsimp only
  refine sane_bind (mapM_sane (fun f => sane_bind (sane_sizeOf _) fun _ => sane_pure _) _) fun places => ?_
  split <;> first | exact sane_pure _ | exact sane_stuck _

theorem sane_len {P : Program} {tys : Array TypeId} {t : TypeId} {args : Array Value} (ty : TypeId) (h0 : tys[0]? = some t) (ht : P.underlying t = some .string ∨ ∃ e, P.underlying t = some (.slice e)) : Sane P (Builtin.len_ tys ty args) := by
  unfold Builtin.len_
  rw [h0]
  cases hx : args[0]? with
  | none => exact sane_stuck _
  | some x =>
    dsimp only
    rcases ht with ht | ⟨e, ht⟩
    · refine sane_fix (fun w => run_underlying ht w) ?_
      cases x <;> first | exact sane_pure _ | exact sane_stuck _
    · refine sane_fix (fun w => run_underlying ht w) ?_
      cases x <;> first | exact sane_pure _ | exact sane_stuck _

theorem mono_getObj {P : Program} (r : Nat) : Mono P (getObj r) := fun w o w1 h => by
  simp only [getObj, Sem.run] at h ⊢
  split at h <;> first | (simp at h; done) | skip
  rename_i o' h1 h2
  simp only [Result.ok.injEq] at h
  obtain ⟨rfl, rfl⟩ := h
  refine ⟨rfl, fun w2 he => ?_⟩
  rw [he.of_some h2]
  cases o' <;> first | rfl | exact (h1 _ _ _ rfl).elim

theorem mono_lenMap {P : Program} {tys : Array TypeId} {t k e : TypeId} {args : Array Value} (ty : TypeId) (h0 : tys[0]? = some t) (ht : P.underlying t = some (.map k e)) : Mono P (Builtin.len_ tys ty args) := by
  unfold Builtin.len_
  rw [h0]
  cases hx : args[0]? with
  | none => exact (sane_stuck _).mono
  | some x =>
    dsimp only
    refine mono_fix (fun w => run_underlying ht w) ?_
    cases x <;> first | exact (sane_pure _).mono | exact (sane_stuck _).mono | skip
    rename_i r
    cases r
    · exact (sane_pure _).mono
    · refine mono_bind (mono_getObj _) fun o => ?_
      split <;> first | exact (sane_pure _).mono | exact (sane_stuck _).mono

theorem seen_none {P : Program} {w : World} {x : Addr} {u : TypeId} {k : Addr} {at_ : Bool} (e : w.heap[x.block]? = none) {r} (h : w.seen P x u k at_ = .ok r) : False := by
  unfold World.seen at h
  rw [e] at h
  simp only [bind, Except.bind] at h
  repeat' (first | (cases h; done) | split at h)

theorem viewLoad_ext {P : Program} {w w2 : World} (he : Ext w w2) {x : Addr} {u : TypeId} {k : Addr} {at_ : Bool} {r : Value × List Addr} (h : w.viewLoad P x u k at_ = .ok r) : w2.viewLoad P x u k at_ = .ok r := by
  by_cases hb : x.block < w.heap.size
  · have e : w2.heap[x.block]? = w.heap[x.block]? := he _ hb
    have : w2.seen P x u k at_ = w.seen P x u k at_ := by unfold World.seen; rw [e]
    unfold World.viewLoad at h ⊢
    rw [this]; exact h
  · exfalso
    have e : w.heap[x.block]? = none := by simp; omega
    unfold World.viewLoad at h
    cases hs : w.seen P x u k at_ with
    | error m => rw [hs] at h; cases h
    | ok v => exact seen_none e hs

theorem mono_load {P : Program} (a : Addr) : Mono P (load a) := fun w v w1 h => by
  simp only [load, Sem.run] at h ⊢
  cases hc : w.cell? a with
  | some u =>
    simp only [hc, Result.ok.injEq] at h
    obtain ⟨rfl, rfl⟩ := h
    refine ⟨rfl, fun w2 he => ?_⟩
    have hb : a.block < w.heap.size := by
      unfold World.cell? at hc
      split at hc
      · rename_i h1; exact (Array.getElem?_eq_some_iff.1 h1).1
      · cases hc
    have : w2.cell? a = w.cell? a := by unfold World.cell?; rw [he _ hb]
    rw [this, hc]
  | none =>
    simp only [hc] at h
    unfold World.farLoad at h
    split at h
    · rename_i x hx
      split at hx
      · rename_i at_ u hb
        split at hx
        · rename_i r hv
          cases hx
          simp only [Result.ok.injEq] at h
          obtain ⟨rfl, rfl⟩ := h
          refine ⟨rfl, fun w2 he => ?_⟩
          have hb2 := he.of_some hb
          have hc2 : w2.cell? a = none := by unfold World.cell?; rw [hb2]
          rw [hc2]
          simp only [World.farLoad, hb2, viewLoad_ext he hv]
        · cases hx
      · cases hx
    · simp at h

theorem mono_loadCells {P : Program} (a : Addr) : ∀ (n i : Nat) (acc : Array Value), Mono P (loadCellsFrom a i n acc)
  | 0, _, _ => mono_pure _
  | n + 1, i, acc => by
    unfold loadCellsFrom
    exact mono_bind (mono_load _) fun _ => mono_loadCells a n _ _

theorem mono_loadAt {P : Program} (t : TypeId) (v : Value) : Mono P (Instr.loadAt t v) := by
  unfold Instr.loadAt loadVar
  refine mono_bind (sane_sureAddr _).mono fun a => mono_bind (sane_isAgg _).mono fun b => ?_
  split
  · exact mono_bind (sane_sizeOf _).mono fun n => mono_bind (mono_loadCells a n 0 #[]) fun _ => mono_pure _
  · exact mono_load _

/-! ### what lays a block -/
def Grows {α : Type} (P : Program) (s : Sem α) : Prop := ∀ w a w1, s.run P w = .ok a w1 → Ext w w1 ∧ w.heap.size ≤ w1.heap.size
theorem Sane.grows {α : Type} {P : Program} {s : Sem α} (h : Sane P s) : Grows P s := fun w a w1 hr => by
  obtain ⟨rfl, _⟩ := h w a w1 hr; exact ⟨Ext.refl _, Nat.le_refl _⟩
theorem grows_bind {α β : Type} {P : Program} {s : Sem α} {f : α → Sem β} (h : Grows P s) (hf : ∀ a, Grows P (f a)) : Grows P (s >>= f) := by
  intro w b w1 hr
  rw [Sem.run_bind] at hr
  cases hs : s.run P w with
  | halt x w' => rw [hs] at hr; simp at hr
  | ok a w' =>
    rw [hs] at hr
    obtain ⟨h1, h2⟩ := h w a w' hs
    obtain ⟨h3, h4⟩ := hf a _ b w1 hr
    exact ⟨h1.trans h3 h2, Nat.le_trans h2 h4⟩
theorem grows_newObj {P : Program} (o : Obj) : Grows P (newObj o) := fun w r w1 h => by
  simp only [newObj, Sem.run, Result.ok.injEq] at h
  obtain ⟨_, rfl⟩ := h
  refine ⟨fun k hk => ?_, by simp⟩
  show (w.heap.push o)[k]? = _
  rw [Array.getElem?_push, if_neg (by omega)]
theorem grows_newVar {P : Program} (t : TypeId) (v : Value) : Grows P (newVar t v) := by
  unfold newVar newRow
  exact grows_bind (grows_newObj _) fun _ => (sane_pure _).grows

theorem exec0 {P : Program} {G : List FuncId} {o : Oper} {a : Act} (hk : kindOf P G o = 0) (hd : dynPure a o = true) : Sane P (execOp a.eval o) ∧ ValOf (execOp a.eval o) P := by
  obtain ⟨dst, op, type, pos, after, guard⟩ := o
  cases op <;> simp only [kindOf] at hk <;> first | (cases hk; done) | skip
  case move x => exact ⟨sane_pure _, fun w n w1 h => by simp [execOp] at h; exact ⟨_, h.1.symm⟩⟩
  case assign x => exact ⟨sane_pure _, fun w n w1 h => by simp [execOp] at h; exact ⟨_, h.1.symm⟩⟩
  case pick c x y => exact ⟨sane_bind (sane_asBool _) fun _ => sane_pure _, fun w n w1 h => by
    simp only [execOp, Sem.run_bind] at h
    cases hs : (asBool (a.eval c)).run P w with
    | halt x w' => rw [hs] at h; simp at h
    | ok b w' => rw [hs] at h; simp at h; exact ⟨_, h.1.symm⟩⟩
  case build t parts =>
    split at hk
    · rename_i fs ht; exact ⟨sane_val (sane_build t ht _), val_bind _⟩
    · cases hk
  case nilCheck x =>
    simp only [dynPure] at hd
    unfold execOp
    dsimp only
    cases hx : a.eval x with
    | pointer p => cases p <;> first | exact ⟨sane_panic _, fun w n w1 h => absurd h (never_panic _ w n w1)⟩ | exact ⟨sane_pure _, fun w n w1 h => by simp at h; exact ⟨_, h.1.symm⟩⟩
    | nilIface => exact ⟨sane_panic _, fun w n w1 h => absurd h (never_panic _ w n w1)⟩
    | nilFunc => exact ⟨sane_panic _, fun w n w1 h => absurd h (never_panic _ w n w1)⟩
    | func f u v => rw [hx] at hd; cases hd
    | _ => exact ⟨sane_pure _, fun w n w1 h => by simp at h; exact ⟨_, h.1.symm⟩⟩
  case binOp op t x y yt =>
    simp only [dynPure, Bool.or_eq_true] at hd
    refine ⟨sane_val (sane_binOp op t x y (hd.imp id fun h => ?_)), val_bind _⟩
    unfold nilBoth at h
    split at h
    · rename_i hx
      refine ⟨hx, rfl, rfl, ?_⟩
      cases op <;> first | (cases h; done) | exact Or.inl rfl | exact Or.inr rfl
    · cases h
  case unOp op t x => exact ⟨sane_val (sane_unary op _), val_bind _⟩
  case convert s d x =>
    split at hk
    · rename_i k hd'
      refine ⟨sane_val ?_, val_bind _⟩
      simp only [dynPure] at hd
      cases hx : a.eval x with
      | int j n =>
        unfold Go.convert
        refine sane_bind (sane_underlying _) fun e => sane_fix (fun w => run_underlying hd' w) ?_
        cases e <;> (dsimp only; unfold Conv.intToInt; exact sane_pure _)
      | _ => rw [hx] at hd; cases hd
    · cases hk
  case makeInterface t x => exact ⟨sane_val (sane_makeInterface _ _), val_bind _⟩
  case makeFunc f u v => exact ⟨sane_val (by unfold Instr.makeFunc; exact sane_pure _), val_bind _⟩
  case slice t x l h m => exact ⟨sane_val (sane_sliceAt _ _ _ _ _), val_bind _⟩
  case fieldAddr s x f =>
    split at hk
    · rename_i hs; exact ⟨sane_val (sane_fieldAt hs _ _), val_bind _⟩
    · cases hk
  case field t x f => exact ⟨sane_val (sane_field _ _ _), val_bind _⟩
  case indexAddr t x i => exact ⟨sane_val (sane_indexAt _ _ _), val_bind _⟩
  case index t x i => exact ⟨sane_val (sane_index _ _ _), val_bind _⟩
  case extract t i => exact ⟨sane_val (sane_extract _ _), val_bind _⟩
  case makeMap t r => cases r <;> cases hk
  case call c =>
    cases hc : c.callee with
    | value f => simp only [hc] at hk; cases f <;> simp only at hk <;> first | (cases hk; done) | (split at hk <;> cases hk)
    | invoke r m => simp only [hc] at hk; cases hk
    | builtin b =>
      simp only [hc] at hk
      cases b <;> simp only at hk <;> first | (cases hk; done) | skip
      have e : execOp a.eval { dst := dst, op := .call c, type := type, pos := pos, after := after, guard := guard } = (do pure (Next.value (← Builtin.len_ c.argTypes type (c.args.map a.eval)))) := by
        simp only [execOp, resolve, hc, pure_bind, invoke, builtin]
      rw [e]
      cases h0 : c.argTypes[0]? with
      | none => rw [h0] at hk; cases hk
      | some t =>
        rw [h0] at hk
        simp only [Option.bind_some] at hk
        split at hk <;> first | (cases hk; done) | skip
        · rename_i el ht; exact ⟨sane_val (sane_len _ h0 (Or.inr ⟨_, ht⟩)), val_bind _⟩
        · rename_i ht; exact ⟨sane_val (sane_len _ h0 (Or.inl ht)), val_bind _⟩

theorem exec1 {P : Program} {G : List FuncId} {o : Oper} {a : Act} (hk : kindOf P G o = 1) : Mono P (execOp a.eval o) ∧ ValOf (execOp a.eval o) P := by
  obtain ⟨dst, op, type, pos, after, guard⟩ := o
  cases op <;> simp only [kindOf] at hk <;> first | (cases hk; done) | (split at hk <;> cases hk; done) | skip
  case load t x => exact ⟨mono_val (mono_loadAt _ _), val_bind _⟩
  case makeMap t r => cases r <;> cases hk
  case call c =>
    cases hc : c.callee with
    | value f => simp only [hc] at hk; cases f <;> simp only at hk <;> first | (cases hk; done) | (split at hk <;> cases hk)
    | invoke r m => simp only [hc] at hk; cases hk
    | builtin b =>
      simp only [hc] at hk
      cases b <;> simp only at hk <;> first | (cases hk; done) | skip
      have e : execOp a.eval { dst := dst, op := .call c, type := type, pos := pos, after := after, guard := guard } = (do pure (Next.value (← Builtin.len_ c.argTypes type (c.args.map a.eval)))) := by
        simp only [execOp, resolve, hc, pure_bind, invoke, builtin]
      rw [e]
      cases h0 : c.argTypes[0]? with
      | none => rw [h0] at hk; cases hk
      | some t =>
        rw [h0] at hk
        simp only [Option.bind_some] at hk
        split at hk <;> first | (cases hk; done) | skip
        rename_i k el ht
        exact ⟨mono_val (mono_lenMap _ h0 ht), val_bind _⟩

theorem exec6 {P : Program} {G : List FuncId} {o : Oper} {a : Act} (hk : kindOf P G o = 6) : Grows P (execOp a.eval o) ∧ ValOf (execOp a.eval o) P := by
  obtain ⟨dst, op, type, pos, after, guard⟩ := o
  cases op <;> simp only [kindOf] at hk <;> first | (cases hk; done) | (split at hk <;> cases hk; done) | skip
  case alloc t =>
    refine ⟨grows_bind ?_ fun _ => (sane_pure _).grows, val_bind _⟩
    unfold Instr.alloc
    refine grows_bind (sane_zeroValue _).grows fun z => ?_
    exact grows_bind (grows_newVar _ _) fun _ => (sane_pure _).grows
  case box t x =>
    refine ⟨grows_bind ?_ fun _ => (sane_pure _).grows, val_bind _⟩
    unfold Instr.box
    exact grows_bind (grows_newVar _ _) fun _ => (sane_pure _).grows
  case buildSlice t n parts =>
    refine ⟨grows_bind ?_ fun _ => (sane_pure _).grows, val_bind _⟩
    unfold Instr.buildSlice
    unfold newRow
    dsimp only
    repeat' (first | exact (sane_pure _).grows | exact (sane_stuck _).grows | exact (sane_unsupported _).grows | exact (sane_underlying _).grows | exact (sane_sizeOf _).grows | exact (sane_zeroValue _).grows | exact grows_newObj _ | refine grows_bind ?_ (fun _ => ?_) | split | dsimp only [])
  case makeMap t r =>
    cases r with
    | some x => cases hk
    | none =>
      refine ⟨grows_bind ?_ fun _ => (sane_pure _).grows, val_bind _⟩
      unfold Instr.makeMap
      exact grows_bind (grows_newObj _) fun _ => (sane_pure _).grows
  case call c =>
    cases hc : c.callee with
    | value f => simp only [hc] at hk; cases f <;> simp only at hk <;> first | (cases hk; done) | (split at hk <;> cases hk)
    | invoke r m => simp only [hc] at hk; cases hk
    | builtin b =>
      simp only [hc] at hk
      cases b <;> simp only at hk <;> first | (cases hk; done) | (split at hk <;> cases hk)

/-! ### from the walk to the steps by their classes -/
section
variable {P : Program} {l : List Oper} {ks A : List Nat} {G : List FuncId}

theorem statB_spec {p : List Nat} (h : statB P G l ks p A = true) : (∀ j o, l[j]? = some o → (kindOf P G o = ks.getD j 3 ∨ ks.getD j 3 = 3) ∧ kindOf P G o ≠ 9) ∧ Stat l.toArray A (fun i => p.idxOf i) := by
  have g : ∀ j o, l[j]? = some o → (kindOf P G o = ks.getD j 3 ∨ ks.getD j 3 = 3) ∧ kindOf P G o ≠ 9 ∧ (∀ e ∈ o.after, Region.binds .any e = true → e.on < l.length ∧ p.idxOf e.on < p.idxOf j) ∧
      ∀ i, i < l.length → (A.getD j 0).testBit i = true → ∃ e ∈ o.after, Region.binds .any e = true ∧ (e.on = i ∨ (A.getD e.on 0).testBit i = true) := fun j o hj => by
    have hlt := (List.getElem?_eq_some_iff.1 hj).1
    have h1 := List.all_eq_true.1 h j (List.mem_range.2 hlt)
    simp only [hj, Bool.and_eq_true, Bool.or_eq_true, beq_iff_eq, bne_iff_ne, ne_eq] at h1
    obtain ⟨⟨⟨h1, h2⟩, h3⟩, h4⟩ := h1
    refine ⟨h1, h2, fun e he hb => ?_, fun i hi hb => ?_⟩
    · have := Array.all_eq_true_iff_forall_mem.1 h3 e he
      simpa [hb] using this
    · have h5 := List.all_eq_true.1 h4 i (List.mem_range.2 hi)
      rw [hb] at h5
      simp only [Bool.not_true, Bool.false_or] at h5
      obtain ⟨e, he, h6⟩ := Array.any_eq_true'.1 h5
      simp only [Bool.and_eq_true, Bool.or_eq_true, beq_iff_eq] at h6
      exact ⟨e, he, h6.1, h6.2⟩
  refine ⟨fun j o hj => ⟨(g j o hj).1, (g j o hj).2.1⟩, ⟨fun j o hj e he hb => by simpa using (g j o (by simpa using hj)).2.2.1 e he hb, fun j o hj i hi hb => (g j o (by simpa using hj)).2.2.2 i (by simpa using hi) hb⟩⟩

theorem sel_of_kind {o : Oper} (h : kindOf P G o ≠ 9) (cs : Array SelectCase) (b : Bool) : o.op ≠ .select cs b := fun e => h (by simp [kindOf, e])

theorem pairB_spec {i j : Nat} (h : pairB l ks A i j = true) : PairOk l.toArray (fun i => classOf (ks.getD i 3)) A i j := by
  unfold pairB at h
  split at h
  · rename_i oi oj hi hj
    simp only [Bool.and_eq_true, bne_iff_ne, ne_eq, Bool.or_eq_true] at h
    obtain ⟨⟨h1, h2⟩, h3⟩ := h
    refine ⟨h1, fun o ho e he hb => ?_, h3.imp id fun h4 o o' ho ho' => ?_⟩
    · have : o = oi := by simp [hi] at ho; exact ho.symm
      subst this
      have := Array.all_eq_true_iff_forall_mem.1 h2 e he
      simpa [hb] using this
    · have e1 : o = oi := by simp [hi] at ho; exact ho.symm
      have e2 : o' = oj := by simp [hj] at ho'; exact ho'.symm
      subst e1; subst e2
      exact h4
  · cases h

theorem pairsB_spec : ∀ {p : List Nat}, pairsB l ks A p = true → p.Pairwise (PairOk l.toArray (fun i => classOf (ks.getD i 3)) A)
  | [], _ => List.Pairwise.nil
  | i :: rest, h => by
    simp only [pairsB, Bool.and_eq_true] at h
    exact List.Pairwise.cons (fun j hj => pairB_spec (List.all_eq_true.1 h.1 j hj)) (pairsB_spec h.2)

theorem wp_value {o : Oper} {a : Act} {w : World} {K : Act → World → Prop} (hv : ValOf (execOp a.eval o) P) (h : o.wp P a w K No) : ∃ v w1, (execOp a.eval o).run P w = .ok (.value v) w1 ∧ K (a.put o.dst v) w1 := by
  unfold Oper.wp at h
  cases hr : (execOp a.eval o).run P w with
  | ok n w1 =>
    obtain ⟨v, rfl⟩ := hv w n w1 hr
    rw [hr] at h
    exact ⟨v, w1, rfl, h⟩
  | halt x w1 =>
    rw [hr] at h
    cases x <;> simp only [Oper.upon] at h <;> exact h.elim

theorem wpS_of_wpT {Q : Act → World → Prop} (hs : ∀ j o, l[j]? = some o → (kindOf P G o = ks.getD j 3 ∨ ks.getD j 3 = 3) ∧ kindOf P G o ≠ 9) : ∀ (p : List Nat) (a : Act) (w : World),
    wpT P l ks Q p a w → wpS P l.toArray (fun i => classOf (ks.getD i 3)) Q p a w
  | [], _, _, h => h
  | i :: rest, a, w, h => by
    have ih := wpS_of_wpT (Q := Q) hs rest
    simp only [wpT, wpS] at h ⊢
    cases hi : l[i]? with
    | none => simp [hi] at h
    | some o =>
      have hi' : l.toArray[i]? = some o := by simpa using hi
      simp only [hi, hi'] at h ⊢
      obtain ⟨hk0', h9⟩ := hs i o hi
      have hk : ∀ n, ks.getD i 3 = n → n ≠ 3 → kindOf P G o = n := fun n e hn => by
        rcases hk0' with h' | h'
        · exact h'.trans e
        · exact absurd (e.symm.trans h') hn
      by_cases hw : Region.wanted o (yielded l.toArray a.tmps) = true
      · simp only [hw, if_true] at h
        split at h
        · rename_i hk0
          obtain ⟨hd, h⟩ := h
          obtain ⟨hS, hV⟩ := exec0 (a := a) (hk _ hk0 (by decide)) hd
          obtain ⟨v, w1, hr, hK⟩ := wp_value hV h
          obtain ⟨rfl, h2⟩ := hS _ _ _ hr
          simp only [hk0, classOf, stS]
          exact ⟨v, .inl ⟨hw, h2⟩, ih _ _ hK⟩
        · rename_i hk5
          obtain ⟨v, hv, hK⟩ := h
          simp only [hk5, classOf, stS]
          exact ⟨v, .inl ⟨hw, hv⟩, ih _ _ hK⟩
        · rename_i hk2
          simp only [hk2, classOf, stS, stO, hw, if_true]
          exact Oper.wp_imp (fun a' w' h => ⟨h.1, ih _ _ h.2⟩) h
        · rename_i n0 n5 n2
          have any3 : stS P l.toArray 3 o (wpS P l.toArray (fun i => classOf (ks.getD i 3)) Q rest) a w := by
            simp only [stS, stO, hw, if_true]; exact Oper.wp_imp ih h
          by_cases h1 : ks.getD i 3 = 1
          · obtain ⟨hM, hV⟩ := exec1 (a := a) (hk _ h1 (by decide))
            obtain ⟨v, w1, hr, hK⟩ := wp_value hV h
            obtain ⟨rfl, h2⟩ := hM _ _ _ hr
            simp only [h1, classOf, stS]
            exact ⟨v, .inl ⟨hw, h2⟩, ih _ _ hK⟩
          · by_cases h6 : ks.getD i 3 = 6
            · obtain ⟨hG, hV⟩ := exec6 (a := a) (hk _ h6 (by decide))
              obtain ⟨v, w1, hr, hK⟩ := wp_value hV h
              simp only [h6, classOf, stS, stO, hw, if_true, Oper.wp, hr, Oper.upon]
              exact ⟨(hG _ _ _ hr).1, ih _ _ hK⟩
            · have : classOf (ks.getD i 3) = 3 := by
                unfold classOf
                split <;> simp_all
              rw [this]; exact any3
      · simp only [hw] at h
        have hw' : Region.wanted o (yielded l.toArray a.tmps) = false := by simpa using hw
        have hK := ih _ _ h
        have hc := classLe (ks.getD i 3)
        have : classOf (ks.getD i 3) = 0 ∨ classOf (ks.getD i 3) = 1 ∨ classOf (ks.getD i 3) = 2 ∨ classOf (ks.getD i 3) = 3 := by omega
        rcases this with h0 | h0 | h0 | h0 <;> rw [h0] <;> simp only [stS]
        · exact ⟨undef, .inr ⟨hw', rfl⟩, hK⟩
        · exact ⟨undef, .inr ⟨hw', rfl⟩, hK⟩
        · simp only [stO, hw', Bool.false_eq_true, if_false]; exact ⟨Ext.refl _, hK⟩
        · simp only [stO, hw', Bool.false_eq_true, if_false]; exact hK

theorem any_of_T {Q : Exit → Act → World → Prop} {a : Act} {w : World} (G : List FuncId) (ks p A : List Nat) (hB : okAny P G l ks p A = true)
    (h : wpT P l ks (fun a w => Q .normal a w) p a w) : wpAny P .any l.toArray Q l.toArray.size (Array.replicate l.toArray.size false) a w := by
  simp only [okAny, Bool.and_eq_true, beq_iff_eq, List.all_eq_true, decide_eq_true_eq, List.mem_range] at hB
  obtain ⟨⟨⟨⟨h1, h2⟩, h3⟩, h4⟩, h5⟩ := hB
  obtain ⟨hs, S⟩ := statB_spec h1
  have hp := pairsB_spec h2
  have e : l.toArray.size = p.length := by simp [h3]
  rw [e]
  refine any_of_S (cls := fun i => classOf (ks.getD i 3)) (A := A) (fun i => classLe _) (fun j o cs b hj => sel_of_kind (P := P) (G := G) (hs j o (by simpa using hj)).2 cs b) S (fun a w h => h) p.length p _ a _ rfl ?_ (wpS_of_wpT hs p a _ h)
  refine ⟨by simp [h3], fun j oj _ hl => ?_, fun i hi => ?_, fun i hi => by simpa using h4 i hi, hp⟩
  · have : ∀ (m j : Nat), (Array.replicate m false).getD j false = false := fun m j => by
      rcases Nat.lt_or_ge j m with h | h <;> simp [h]
    rw [this] at hl; cases hl
  · have hi' : i < l.length := by simpa using hi
    have hm := h5 i hi'
    have hip : i < p.length := by omega
    have e2 : (Array.replicate p.length false).getD i true = false := by simp [hip]
    rw [e2]
    simpa using hm
/-- A REGION THAT DRAWS ITS ORDER, WALKED IN ONE ORDER p. -/
theorem wp_region_t {id : Nat} {Q : Exit → Act → World → Prop} {a : Act} {w : World} (G : List FuncId) (ks p A : List Nat) (hm : P.follows .mixedOrders = true) (hB : okAny P G l ks p A = true)
    (h : wpT P l ks (fun a w => Q .normal a w) p a w.drew) : (Code.region id l.toArray true).wp P Q a w :=
  wp_region_any hm (any_of_T G ks p A hB h)
end

end Go.Reg
