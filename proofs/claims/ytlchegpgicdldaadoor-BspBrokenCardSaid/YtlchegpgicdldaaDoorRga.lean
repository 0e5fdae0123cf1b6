/- A region that draws its order, walked once: a condition on the operations' kinds and on the edges, under which one order serves all. -/
import Derived.WalkKit
namespace Go.Reg
open Go Go.RowKit

/-! ### what a run may look at -/
def Ext (w w' : World) : Prop := ∀ k, k < w.heap.size → w'.heap[k]? = w.heap[k]?
theorem Ext.refl (w : World) : Ext w w := fun _ _ => rfl
theorem Ext.of_some {w w' : World} (h : Ext w w') {k : Nat} {o : Obj} (hk : w.heap[k]? = some o) : w'.heap[k]? = some o := by
  rw [h k (Array.getElem?_eq_some_iff.1 hk).1]; exact hk
theorem Ext.of_below {w w' : World} (h : Below w.heap.size w w') : Ext w w' := fun k hk => h.block k hk
theorem Ext.trans {a b c : World} (h : Ext a b) (k : Ext b c) (hs : a.heap.size ≤ b.heap.size) : Ext a c :=
  fun i hi => (k i (by omega)).trans (h i hi)

def Sane {α : Type} (P : Program) (s : Sem α) : Prop := ∀ w a w1, s.run P w = .ok a w1 → w1 = w ∧ ∀ w2, s.run P w2 = .ok a w2
def Mono {α : Type} (P : Program) (s : Sem α) : Prop := ∀ w a w1, s.run P w = .ok a w1 → w1 = w ∧ ∀ w2, Ext w w2 → s.run P w2 = .ok a w2

theorem Sane.mono {α : Type} {P : Program} {s : Sem α} (h : Sane P s) : Mono P s := fun w a w1 hr => ⟨(h w a w1 hr).1, fun w2 _ => (h w a w1 hr).2 w2⟩

theorem sane_pure {α : Type} {P : Program} (a : α) : Sane P (pure a : Sem α) := fun w b w1 h => by
  simp at h; obtain ⟨rfl, rfl⟩ := h; exact ⟨rfl, fun w2 => by simp⟩
theorem sane_halt {α : Type} {P : Program} (h : Halt) : Sane P (Sem.halt h : Sem α) := fun w b w1 hr => by simp [Sem.run] at hr
theorem sane_program {P : Program} : Sane P program := fun w b w1 h => by
  simp [program, Sem.run] at h; obtain ⟨rfl, rfl⟩ := h; exact ⟨rfl, fun w2 => by simp [program, Sem.run]⟩
theorem sane_bind {α β : Type} {P : Program} {s : Sem α} {f : α → Sem β} (h : Sane P s) (hf : ∀ a, Sane P (f a)) : Sane P (s >>= f) := by
  intro w b w1 hr
  rw [Sem.run_bind] at hr
  cases hs : s.run P w with
  | halt x w' => rw [hs] at hr; simp at hr
  | ok a w' =>
    rw [hs] at hr
    obtain ⟨rfl, h2⟩ := h w a w' hs
    obtain ⟨rfl, h3⟩ := hf a _ b w1 hr
    exact ⟨rfl, fun w2 => by rw [Sem.run_bind, h2 w2]; exact h3 w2⟩
theorem mono_bind {α β : Type} {P : Program} {s : Sem α} {f : α → Sem β} (h : Mono P s) (hf : ∀ a, Mono P (f a)) : Mono P (s >>= f) := by
  intro w b w1 hr
  rw [Sem.run_bind] at hr
  cases hs : s.run P w with
  | halt x w' => rw [hs] at hr; simp at hr
  | ok a w' =>
    rw [hs] at hr
    obtain ⟨rfl, h2⟩ := h w a w' hs
    obtain ⟨rfl, h3⟩ := hf a _ b w1 hr
    exact ⟨rfl, fun w2 he => by rw [Sem.run_bind, h2 w2 he]; exact h3 w2 he⟩
theorem sane_ite {α : Type} {P : Program} {c : Prop} [Decidable c] {s t : Sem α} (hs : Sane P s) (ht : Sane P t) : Sane P (if c then s else t) := by
  split <;> assumption
theorem sane_never {α : Type} {P : Program} {s : Sem α} (h : ∀ w a w1, s.run P w ≠ .ok a w1) : Sane P s := fun w a w1 hr => absurd hr (h w a w1)

theorem sane_stuck {α : Type} {P : Program} (m : String) : Sane P (stuck m : Sem α) := sane_halt _
theorem sane_unsupported {α : Type} {P : Program} (m : Unsupported) : Sane P (unsupported m : Sem α) := sane_halt _

theorem never_bind {α β : Type} {P : Program} {s : Sem α} {f : α → Sem β} (hf : ∀ a w b w1, (f a).run P w ≠ .ok b w1) : ∀ w b w1, (s >>= f).run P w ≠ .ok b w1 := by
  intro w b w1 hr
  rw [Sem.run_bind] at hr
  cases hs : s.run P w with
  | halt x w' => rw [hs] at hr; simp at hr
  | ok a w' => rw [hs] at hr; exact hf a _ b w1 hr
theorem never_panic {α : Type} {P : Program} (e : RuntimeError) : ∀ w (a : α) w1, (runtimePanic e : Sem α).run P w ≠ .ok a w1 := by
  unfold runtimePanic
  apply never_bind
  intro p w a w1 hr
  have g : ∀ (v : Value) w (a : α) w1, (goPanic v : Sem α).run P w ≠ .ok a w1 := fun v w a w1 hh => by simp [goPanic] at hh
  cases e <;> dsimp only at hr
  all_goals first
    | exact g _ _ _ _ hr
    | exact never_bind (fun _ => g _) w a w1 hr
    | exact never_bind (fun _ => never_bind (fun _ => g _)) w a w1 hr
theorem sane_panic {α : Type} {P : Program} (e : RuntimeError) : Sane P (runtimePanic e : Sem α) := sane_never (never_panic e)
theorem sane_bounds {α : Type} {P : Program} (k : IntKind) (x y : Int) (c : BoundsCode) : Sane P (boundsPanic k x y c : Sem α) :=
  sane_never (by unfold boundsPanic; dsimp only; split <;> exact never_bind (fun _ => never_panic _))

theorem sane_typeInfo {P : Program} (t : TypeId) : Sane P (typeInfo t) := by
  unfold typeInfo
  refine sane_bind sane_program fun p => ?_
  split
  · exact sane_pure _
  · exact sane_stuck _
theorem sane_underlying {P : Program} (t : TypeId) : Sane P (underlying t) := by
  unfold underlying
  refine sane_bind sane_program fun p => ?_
  split
  · exact sane_pure _
  · exact sane_stuck _
theorem sane_sizeOf {P : Program} (t : TypeId) : Sane P (sizeOf t) := by
  unfold sizeOf; exact sane_bind (sane_typeInfo _) fun _ => sane_pure _
theorem sane_zeroValue {P : Program} (t : TypeId) : Sane P (zeroValue t) := by
  unfold zeroValue
  refine sane_bind (sane_typeInfo _) fun i => ?_
  split
  · exact sane_pure _
  · exact sane_unsupported _
theorem sane_isAgg {P : Program} (t : TypeId) : Sane P (isAgg t) := by
  unfold isAgg
  refine sane_bind (sane_underlying _) fun d => ?_
  split <;> exact sane_pure _
theorem sane_asIntOf {P : Program} (v : Value) : Sane P (asIntOf v) := by
  unfold asIntOf; split
  · exact sane_pure _
  · exact sane_unsupported _
  · exact sane_stuck _
theorem sane_asBool {P : Program} (v : Value) : Sane P (asBool v) := by
  unfold asBool; split
  · exact sane_pure _
  · exact sane_stuck _
theorem sane_asAgg {P : Program} (v : Value) : Sane P (asAgg v) := by
  unfold asAgg; split
  · exact sane_pure _
  · exact sane_stuck _
theorem sane_sureAddr {P : Program} (v : Value) : Sane P (Instr.sureAddr v) := by
  unfold Instr.sureAddr; split
  · exact sane_pure _
  · exact sane_stuck _
theorem sane_asAddr {P : Program} (v : Value) : Sane P (asAddr v) := by
  unfold asAddr; split
  · exact sane_pure _
  · exact sane_panic _
  · exact sane_stuck _
theorem sane_part {P : Program} (t : TypeId) (cs : Array Value) (off : Nat) : Sane P (part t cs off) := by
  unfold part
  refine sane_bind (sane_isAgg _) fun b => ?_
  split
  · exact sane_bind (sane_sizeOf _) fun _ => sane_pure _
  · split
    · exact sane_pure _
    · exact sane_stuck _

/-- all fields of a struct type take room -/
def fieldsRoom (P : Program) (s : TypeId) : Bool :=
  match P.underlying s with
  | some (.struct fields) => fields.all fun f => match P.info? f.type with | some i => i.size != 0 | none => false
  | _ => false

theorem sane_fieldAt {P : Program} {s : TypeId} (hs : fieldsRoom P s = true) (x : Value) (n : Nat) : Sane P (Instr.fieldAt s x n) := by
  intro w a w1 hr
  have key : Sane P (Instr.fieldAt s x n) := by
    unfold fieldsRoom at hs
    cases hu : P.underlying s with
    | none => simp [hu] at hs
    | some d =>
      cases d with
      | struct fields =>
        simp [hu] at hs
        unfold Instr.fieldAt
        intro w a w1 hr
        have eu : ∀ w, (underlying s).run P w = .ok (.struct fields) w := fun w => run_underlying hu w
        simp only [Sem.run_bind, eu, Result.andThen_ok] at hr ⊢
        cases hf : fields[n]? with
        | none => simp [hf, stuck] at hr
        | some f =>
          simp only [hf] at hr ⊢
          have hroom := hs n (Array.getElem?_eq_some_iff.1 hf).1
          have hfe : fields[n]'(Array.getElem?_eq_some_iff.1 hf).1 = f := (Array.getElem?_eq_some_iff.1 hf).2
          rw [hfe] at hroom
          cases hi : P.info? f.type with
          | none => simp [hi] at hroom
          | some i =>
            simp [hi] at hroom
            have es : ∀ w, (sizeOf f.type).run P w = .ok i.size w := fun w => by simp [sizeOf, typeInfo, program, Sem.run, hi]
            have hp : ∀ (b : Addr), Sane P (fieldPlace b f) := fun b w a w1 hr => by
              unfold fieldPlace at hr ⊢
              simp only [Sem.run_bind, es, Result.andThen_ok, if_neg hroom, Sem.run_pure] at hr ⊢
              cases hr; exact ⟨rfl, fun _ => rfl⟩
            exact sane_bind (sane_sureAddr x) (fun b => sane_bind (hp b) fun c => sane_pure _) w a w1 hr
      | _ => simp [hu] at hs
  exact key w a w1 hr


theorem sane_indexAt {P : Program} (t : TypeId) (x ix : Value) : Sane P (Instr.indexAt t x ix) := by
  unfold Instr.indexAt
  repeat' (first | exact sane_pure _ | exact sane_stuck _ | exact sane_unsupported _ | exact sane_panic _ | exact sane_bounds _ _ _ _ | exact sane_asIntOf _ | exact sane_asBool _ | exact sane_asAgg _ | exact sane_asAddr _ | exact sane_sureAddr _ | exact sane_sizeOf _ | exact sane_underlying _ | exact sane_part _ _ _ | refine sane_bind ?_ (fun _ => ?_) | split | dsimp only [])

theorem sane_field {P : Program} (t : TypeId) (x : Value) (n : Nat) : Sane P (Instr.field t x n) := by
  unfold Instr.field
  repeat' (first | exact sane_pure _ | exact sane_stuck _ | exact sane_unsupported _ | exact sane_panic _ | exact sane_bounds _ _ _ _ | exact sane_asIntOf _ | exact sane_asBool _ | exact sane_asAgg _ | exact sane_asAddr _ | exact sane_sureAddr _ | exact sane_sizeOf _ | exact sane_underlying _ | exact sane_part _ _ _ | refine sane_bind ?_ (fun _ => ?_) | split | dsimp only [])

theorem sane_index {P : Program} (t : TypeId) (x ix : Value) : Sane P (Instr.index t x ix) := by
  unfold Instr.index
  repeat' (first | exact sane_pure _ | exact sane_stuck _ | exact sane_unsupported _ | exact sane_panic _ | exact sane_bounds _ _ _ _ | exact sane_asIntOf _ | exact sane_asBool _ | exact sane_asAgg _ | exact sane_asAddr _ | exact sane_sureAddr _ | exact sane_sizeOf _ | exact sane_underlying _ | exact sane_part _ _ _ | refine sane_bind ?_ (fun _ => ?_) | split | dsimp only [])

theorem sane_extract {P : Program} (t : Value) (n : Nat) : Sane P (Instr.extract t n) := by
  unfold Instr.extract
  repeat' (first | exact sane_pure _ | exact sane_stuck _ | exact sane_unsupported _ | exact sane_panic _ | exact sane_bounds _ _ _ _ | exact sane_asIntOf _ | exact sane_asBool _ | exact sane_asAgg _ | exact sane_asAddr _ | exact sane_sureAddr _ | exact sane_sizeOf _ | exact sane_underlying _ | exact sane_part _ _ _ | refine sane_bind ?_ (fun _ => ?_) | split | dsimp only [])

theorem sane_makeInterface {P : Program} (t : TypeId) (x : Value) : Sane P (Instr.makeInterface t x) := by
  unfold Instr.makeInterface
  repeat' (first | exact sane_pure _ | exact sane_stuck _ | exact sane_unsupported _ | exact sane_panic _ | exact sane_bounds _ _ _ _ | exact sane_asIntOf _ | exact sane_asBool _ | exact sane_asAgg _ | exact sane_asAddr _ | exact sane_sureAddr _ | exact sane_sizeOf _ | exact sane_underlying _ | exact sane_part _ _ _ | refine sane_bind ?_ (fun _ => ?_) | split | dsimp only [])

theorem sane_sliceBound {P : Program} (x : Value) (y : Nat) (c : BoundsCode) : Sane P (Instr.sliceBound x y c) := by
  unfold Instr.sliceBound
  repeat' (first | exact sane_pure _ | exact sane_stuck _ | exact sane_unsupported _ | exact sane_panic _ | exact sane_bounds _ _ _ _ | exact sane_asIntOf _ | exact sane_asBool _ | exact sane_asAgg _ | exact sane_asAddr _ | exact sane_sureAddr _ | exact sane_sizeOf _ | exact sane_underlying _ | exact sane_part _ _ _ | refine sane_bind ?_ (fun _ => ?_) | split | dsimp only [])
theorem sane_sliceBounds {P : Program} (s : Bool) (n c : Nat) (l h m : Option Value) : Sane P (Instr.sliceBounds s n c l h m) := by
  unfold Instr.sliceBounds
  repeat' (first | exact sane_pure _ | exact sane_stuck _ | exact sane_unsupported _ | exact sane_panic _ | exact sane_bounds _ _ _ _ | exact sane_asIntOf _ | exact sane_asBool _ | exact sane_asAgg _ | exact sane_asAddr _ | exact sane_sureAddr _ | exact sane_sizeOf _ | exact sane_underlying _ | exact sane_part _ _ _ | exact sane_sliceBound _ _ _ | refine sane_bind ?_ (fun _ => ?_) | split | dsimp only [])
theorem sane_slice {P : Program} (t : TypeId) (x : Value) (l h m : Option Value) : Sane P (Instr.slice t x l h m) := by
  unfold Instr.slice
  repeat' (first | exact sane_pure _ | exact sane_stuck _ | exact sane_unsupported _ | exact sane_panic _ | exact sane_bounds _ _ _ _ | exact sane_asIntOf _ | exact sane_asBool _ | exact sane_asAgg _ | exact sane_asAddr _ | exact sane_sureAddr _ | exact sane_sizeOf _ | exact sane_underlying _ | exact sane_part _ _ _ | exact sane_sliceBound _ _ _ | exact sane_sliceBounds _ _ _ _ _ _ | refine sane_bind ?_ (fun _ => ?_) | split | dsimp only [])
theorem sane_sliceAt {P : Program} (t : TypeId) (x : Value) (l h m : Option Value) : Sane P (Instr.sliceAt t x l h m) := by
  unfold Instr.sliceAt
  repeat' (first | exact sane_pure _ | exact sane_stuck _ | exact sane_unsupported _ | exact sane_panic _ | exact sane_bounds _ _ _ _ | exact sane_asIntOf _ | exact sane_asBool _ | exact sane_asAgg _ | exact sane_asAddr _ | exact sane_sureAddr _ | exact sane_sizeOf _ | exact sane_underlying _ | exact sane_part _ _ _ | exact sane_sliceBound _ _ _ | exact sane_sliceBounds _ _ _ _ _ _ | exact sane_slice _ _ _ _ _ | refine sane_bind ?_ (fun _ => ?_) | split | dsimp only [])

theorem sane_intArith {P : Program} (op : BinOp) (k : IntKind) (x y : Int) : Sane P (Op.intArith op k x y) := by
  unfold Op.intArith; split <;> first | exact sane_pure _ | exact sane_stuck _
theorem sane_intCmp {P : Program} (op : BinOp) (x y : Int) : Sane P (Op.intCmp op x y) := by
  unfold Op.intCmp; split <;> first | exact sane_pure _ | exact sane_stuck _
theorem sane_intDiv {P : Program} (op : BinOp) (k : IntKind) (x y : Int) : Sane P (Op.intDiv op k x y) := by
  unfold Op.intDiv
  repeat' (first | exact sane_pure _ | exact sane_stuck _ | exact sane_unsupported _ | exact sane_panic _ | exact sane_bounds _ _ _ _ | exact sane_asIntOf _ | exact sane_asBool _ | exact sane_asAgg _ | exact sane_asAddr _ | exact sane_sureAddr _ | exact sane_sizeOf _ | exact sane_underlying _ | exact sane_part _ _ _ | refine sane_bind ?_ (fun _ => ?_) | split | dsimp only [])
theorem sane_stringOp {P : Program} (op : BinOp) (x y : ByteArray) : Sane P (Op.stringOp op x y) := by
  unfold Op.stringOp
  repeat' (first | exact sane_pure _ | exact sane_stuck _ | exact sane_unsupported _ | exact sane_panic _ | exact sane_bounds _ _ _ _ | exact sane_asIntOf _ | exact sane_asBool _ | exact sane_asAgg _ | exact sane_asAddr _ | exact sane_sureAddr _ | exact sane_sizeOf _ | exact sane_underlying _ | exact sane_part _ _ _ | refine sane_bind ?_ (fun _ => ?_) | split | dsimp only [])

/-! ### the operations' kinds -/
def isEq : BinOp → Bool
  | .eql | .neq => true
  | _ => false
def notShift : BinOp → Bool
  | .shl | .shr => false
  | _ => true
/-- operands at which '==' and the like look at no memory -/
def plain2 (op : BinOp) : Value → Value → Bool
  | .int _ _, .int _ _ => true
  | .string _, .string _ => true
  | .bool _, .bool _ => isEq op
  | .pointer none, .pointer _ => isEq op
  | .pointer (some _), .pointer none => isEq op
  | .iface _ _, .nilIface => isEq op
  | .slice none _ _, .slice _ _ _ => isEq op
  | .slice (some _) _ _, .slice none _ _ => isEq op
  | .map none, .map _ => isEq op
  | .map (some _), .map none => isEq op
  | .nilFunc, .nilFunc => isEq op
  | .func _ _ _, .nilFunc => isEq op
  | _, _ => false
def nilBoth (op : BinOp) (x : Value) (y : Operand) : Bool :=
  match x, y with
  | .nilIface, .const .nilIface => isEq op
  | _, _ => false

def dynPure (a : Act) (o : Oper) : Bool :=
  match o.op with
  | .nilCheck x => (match a.eval x with | .func .. => false | _ => true)
  | .binOp op _ x y _ => plain2 op (a.eval x) (a.eval y) || nilBoth op (a.eval x) y
  | .convert _ _ x => (match a.eval x with | .int .. => true | _ => false)
  | _ => true

/-- 0: looks at no memory · 1: reads · 2: a call that lays new blocks alone (to be shown) · 3: whatever · 5: reads (to be shown) · 6: lays a block · 9: not served -/
def kindOf (P : Program) (G : List FuncId) (o : Oper) : Nat :=
  match o.op with
  | .move _ | .assign _ | .pick .. | .nilCheck _ | .binOp .. | .unOp .. | .makeInterface .. | .makeFunc .. | .slice .. | .field .. | .index .. | .indexAddr .. | .extract .. => 0
  | .build t _ => (match P.underlying t with | some (.struct _) => 0 | _ => 3)
  | .fieldAddr s _ _ => if fieldsRoom P s then 0 else 3
  | .convert _ d _ => (match P.underlying d with | some (.int _) => 0 | _ => 3)
  | .load .. => 1
  | .lookup .. => 5
  | .call c => (match c.callee with
    | .builtin .len => (match (c.argTypes[0]?).bind P.underlying with | some (.slice _) | some .string => 0 | some (.map _ _) => 1 | _ => 9)
    | .value (.func f) => if G.contains f then 2 else 3
    | _ => 3)
  | .alloc _ | .box .. | .buildSlice .. | .makeMap _ none => 6
  | .makeSlice .. => 2
  | .select .. | .defer _ | .go _ => 9
  | _ => 3

def classOf : Nat → Nat
  | 0 => 0 | 1 => 1 | 5 => 1 | 2 => 2 | 6 => 2 | _ => 3

def No : Exit → Act → World → Prop := fun _ _ _ => False

section
variable {P : Program} {ops : Array Oper}

def stO (P : Program) (ops : Array Oper) (o : Oper) (K : Act → World → Prop) (a : Act) (w : World) : Prop :=
  if Region.wanted o (yielded ops a.tmps) then o.wp P a w K No else K (a.put o.dst undef) w

def YR (P : Program) (ops : Array Oper) (o : Oper) (v : Value) (a : Act) (w : World) : Prop :=
  (Region.wanted o (yielded ops a.tmps) = true ∧ ∀ w2, Ext w w2 → (execOp a.eval o).run P w2 = .ok (.value v) w2) ∨
  (Region.wanted o (yielded ops a.tmps) = false ∧ v = undef)

theorem yR_of_yields {o : Oper} {v : Value} {a : Act} (w : World) (h : Yields P ops o v a) : YR P ops o v a w :=
  h.imp (fun ⟨h1, h2⟩ => ⟨h1, fun w2 _ => h2 w2⟩) id

/-- the step by its class -/
def stS (P : Program) (ops : Array Oper) (c : Nat) (o : Oper) (K : Act → World → Prop) (a : Act) (w : World) : Prop :=
  match c with
  | 0 => ∃ v, Yields P ops o v a ∧ K (a.put o.dst v) w
  | 1 => ∃ v, YR P ops o v a w ∧ K (a.put o.dst v) w
  | 2 => stO P ops o (fun a' w' => Ext w w' ∧ K a' w') a w
  | _ => stO P ops o K a w

theorem Oper.wp_imp {o : Oper} {a : Act} {w : World} {K K' : Act → World → Prop} {Q : Exit → Act → World → Prop} (h : ∀ a w, K a w → K' a w) (hh : o.wp P a w K No) : o.wp P a w K' Q := by
  unfold Oper.wp at *
  generalize (execOp a.eval o).run P w = r at *
  cases r with
  | ok n w' =>
    cases n <;> simp only [Oper.upon] at hh ⊢ <;>
      first
        | exact h _ _ hh
        | exact Calls.mono hh (fun e w'' he => by cases e with | returned v => exact h _ _ he | panicked c => exact he.elim | outgrown => obtain ⟨_, _, f⟩ := he; exact f.elim)
        | exact Rows.mono hh (fun _ _ he => h _ _ he)
  | halt x w' => cases x <;> simp only [Oper.upon] at hh ⊢ <;> exact hh.elim

theorem stO_mono {o : Oper} {a : Act} {w : World} {K K' : Act → World → Prop} (h : ∀ a w, K a w → K' a w) (hh : stO P ops o K a w) : stO P ops o K' a w := by
  unfold stO at *
  split
  · rename_i hw; rw [if_pos hw] at hh; exact Oper.wp_imp h hh
  · rename_i hw; rw [if_neg hw] at hh; exact h _ _ hh

theorem stS_mono {c : Nat} {o : Oper} {a : Act} {w : World} {K K' : Act → World → Prop} (h : ∀ a w, K a w → K' a w) (hh : stS P ops c o K a w) : stS P ops c o K' a w := by
  unfold stS at *
  split at hh
  · obtain ⟨v, h1, h2⟩ := hh; exact ⟨v, h1, h _ _ h2⟩
  · obtain ⟨v, h1, h2⟩ := hh; exact ⟨v, h1, h _ _ h2⟩
  · exact stO_mono (fun a' w' ⟨h1, h2⟩ => ⟨h1, h _ _ h2⟩) hh
  · exact stO_mono h hh

/-- the frame after a step: what the step may have turned -/
def Rel (o : Oper) (a a' : Act) : Prop := ∃ u ds, a' = ({ a with defers := ds } : Act).put o.dst u

theorem wp_rel {o : Oper} {a : Act} {w : World} {K : Act → World → Prop} (hh : o.wp P a w K No) : o.wp P a w (fun a' w' => Rel o a a' ∧ K a' w') No := by
  unfold Oper.wp at *
  generalize (execOp a.eval o).run P w = r at *
  cases r with
  | ok n w' =>
    cases n <;> simp only [Oper.upon] at hh ⊢
    case value v => exact ⟨⟨v, _, rfl⟩, hh⟩
    case skip => exact ⟨⟨_, _, rfl⟩, hh⟩
    case defer d => exact ⟨⟨_, _, rfl⟩, hh⟩
    case enter f args => exact Calls.mono hh (fun e w'' he => by cases e with | returned v => exact ⟨⟨v, _, rfl⟩, he⟩ | panicked c => exact he.elim | outgrown => exact he)
    case row row args => exact Rows.mono hh (fun v _ he => ⟨⟨v, _, rfl⟩, he⟩)
  | halt x w' => cases x <;> simp only [Oper.upon] at hh ⊢ <;> exact hh

theorem stO_rel {o : Oper} {a : Act} {w : World} {K : Act → World → Prop} (hh : stO P ops o K a w) : stO P ops o (fun a' w' => Rel o a a' ∧ K a' w') a w := by
  unfold stO at *
  split
  · rename_i hw; rw [if_pos hw] at hh; exact wp_rel hh
  · rename_i hw; rw [if_neg hw] at hh; exact ⟨⟨_, _, rfl⟩, hh⟩

theorem wp_some {o : Oper} {a : Act} {w : World} {K : Act → World → Prop} (hh : o.wp P a w K No) : ∃ a' w', K a' w' := by
  unfold Oper.wp at *
  generalize (execOp a.eval o).run P w = r at *
  cases r with
  | ok n w' =>
    cases n <;> simp only [Oper.upon] at hh
    case value v => exact ⟨_, _, hh⟩
    case skip => exact ⟨_, _, hh⟩
    case defer d => exact ⟨_, _, hh⟩
    case enter f args =>
      obtain ⟨e, w', fr, hR, _⟩ := hh []
      cases e with
      | returned v => exact ⟨_, _, hR⟩
      | panicked c => exact hR.elim
      | outgrown => obtain ⟨_, _, f⟩ := hR; exact f.elim
    case row row args =>
      obtain ⟨v, w', hR, _⟩ := hh default []
      exact ⟨_, _, hR⟩
  | halt x w' => cases x <;> simp only [Oper.upon] at hh <;> exact hh.elim

theorem stO_some {o : Oper} {a : Act} {w : World} {K : Act → World → Prop} (hh : stO P ops o K a w) : ∃ a' w', K a' w' := by
  unfold stO at hh
  split at hh
  · exact wp_some hh
  · exact ⟨_, _, hh⟩

theorem apart_spec' {x y : Oper} (h : x.apart ops y = true) :
    (∀ d, x.dst = some d → d ∉ y.looksAt ops) ∧ (∀ d, x.dst = some d → y.dst ≠ some d) ∧ (∀ d, y.dst = some d → d ∉ x.looksAt ops) := Oper.apart_spec h

section swap
variable {oi oj : Oper} (hsi : ∀ cs b, oi.op ≠ .select cs b) (hsj : ∀ cs b, oj.op ≠ .select cs b)

theorem exec_rel (hsi : ∀ cs b, oi.op ≠ .select cs b) (h3 : ∀ d, oj.dst = some d → d ∉ oi.looksAt ops) {a a' : Act} (hr : Rel oj a a') : execOp a'.eval oi = execOp a.eval oi := by
  obtain ⟨u, ds, rfl⟩ := hr
  exact execOp_put oi hsi _ oj.dst u h3
theorem wanted_rel (h3 : ∀ d, oj.dst = some d → d ∉ oi.looksAt ops) {a a' : Act} (hr : Rel oj a a') : Region.wanted oi (yielded ops a'.tmps) = Region.wanted oi (yielded ops a.tmps) := by
  obtain ⟨u, ds, rfl⟩ := hr
  exact wanted_put oi _ oj.dst u h3

theorem yields_rel (hsi : ∀ cs b, oi.op ≠ .select cs b) (h3 : ∀ d, oj.dst = some d → d ∉ oi.looksAt ops) {a a' : Act} {v : Value} (hr : Rel oj a a') : Yields P ops oi v a' ↔ Yields P ops oi v a := by
  unfold Yields; rw [exec_rel hsi h3 hr, wanted_rel h3 hr]
theorem yR_rel (hsi : ∀ cs b, oi.op ≠ .select cs b) (h3 : ∀ d, oj.dst = some d → d ∉ oi.looksAt ops) {a a' : Act} {v : Value} {w : World} (hr : Rel oj a a') : YR P ops oi v a' w ↔ YR P ops oi v a w := by
  unfold YR; rw [exec_rel hsi h3 hr, wanted_rel h3 hr]

theorem rel_put (o : Oper) (a : Act) (v : Value) : Rel o a (a.put o.dst v) := ⟨v, a.defers, rfl⟩

/-- a step behind another's value is the step ahead of it -/
theorem stO_put (hsj : ∀ cs b, oj.op ≠ .select cs b) (h1 : ∀ d, oi.dst = some d → d ∉ oj.looksAt ops) (h2 : ∀ d, oi.dst = some d → oj.dst ≠ some d) {K : Act → World → Prop} {a : Act} {w : World} {v : Value} :
    stO P ops oj K (a.put oi.dst v) w ↔ stO P ops oj (fun a' w' => K (a'.put oi.dst v) w') a w := by
  have c : ∀ (b : Act) (u : Value), (b.put oj.dst u).put oi.dst v = (b.put oi.dst v).put oj.dst u := fun b u => (Act.put_comm b v u h2).symm
  unfold stO
  rw [wanted_put oj a oi.dst v h1]
  split
  · unfold Oper.wp
    rw [execOp_put oj hsj a oi.dst v h1]
    generalize (execOp a.eval oj).run P w = r
    cases r with
    | ok n w' =>
      cases n <;> simp only [Oper.upon]
      case value u => rw [c]
      case skip => rw [c]
      case defer d =>
        have e : (({ a.put oi.dst v with defers := d :: (a.put oi.dst v).defers } : Act).put oj.dst undef) = (({ a with defers := d :: a.defers } : Act).put oj.dst undef).put oi.dst v := by rw [c, Act.put_defers]
        rw [← e]
      case enter f args =>
        constructor
        · intro h
          refine Calls.mono h fun e w'' he => ?_
          cases e with
          | returned u => show K _ _; rw [c]; exact he
          | panicked c => exact he
          | outgrown => exact he
        · intro h
          refine Calls.mono h fun e w'' he => ?_
          cases e with
          | returned u => show K _ _; rw [← c]; exact he
          | panicked c => exact he
          | outgrown => exact he
      case row row args =>
        constructor
        · intro h
          refine Rows.mono h fun u w'' he => ?_
          show K _ _
          rw [c]; exact he
        · intro h
          refine Rows.mono h fun u w'' he => ?_
          show K _ _
          rw [← c]; exact he
    | halt x w' => cases x <;> simp only [Oper.upon] <;> exact Iff.rfl
  · show K _ _ ↔ K _ _
    rw [c]

theorem yields_fun {o : Oper} {a : Act} {u v : Value} (h : Yields P ops o u a) (h' : Yields P ops o v a) : u = v := by
  rcases h with ⟨hw, h⟩ | ⟨hw, rfl⟩ <;> rcases h' with ⟨hw', h'⟩ | ⟨hw', rfl⟩
  · have := (h default).symm.trans (h' default); simpa using this
  · rw [hw] at hw'; cases hw'
  · rw [hw] at hw'; cases hw'
  · rfl

def freeC (ci cj : Nat) : Bool := ci == 0 || cj == 0 || (ci == 1 && (cj == 1 || cj == 2))

theorem classLe (k : Nat) : classOf k ≤ 3 := by unfold classOf; split <;> omega

theorem swap (hsi : ∀ cs b, oi.op ≠ .select cs b) (hsj : ∀ cs b, oj.op ≠ .select cs b) (hap : oi.apart ops oj = true) {ci cj : Nat} (hi3 : ci ≤ 3) (hj3 : cj ≤ 3) (hf : freeC ci cj = true) {K : Act → World → Prop} {a : Act} {w : World}
    (h : stS P ops ci oi (stS P ops cj oj K) a w) : stS P ops cj oj (stS P ops ci oi K) a w := by
  obtain ⟨h1, h2, h3⟩ := apart_spec' hap
  have h2' : ∀ d, oj.dst = some d → oi.dst ≠ some d := fun d hd he => h2 d he hd
  have comm : ∀ (b : Act) (u v : Value), (b.put oi.dst v).put oj.dst u = (b.put oj.dst u).put oi.dst v := fun b u v => Act.put_comm b v u h2
  -- a step of j behind i's value
  have back : ∀ (v : Value) (K' : Act → World → Prop), stO P ops oj K' (a.put oi.dst v) w → stO P ops oj (fun a' w' => Rel oj a a' ∧ K' (a'.put oi.dst v) w') a w := fun v K' hh => stO_rel ((stO_put hsj h1 h2).1 hh)
  -- a step of i ahead of j's value
  have fore : ∀ (K' : Act → World → Prop), stO P ops oi (fun a' w' => ∃ v, Yields P ops oj v a' ∧ K' (a'.put oj.dst v) w') a w → ∃ v, Yields P ops oj v a ∧ stO P ops oi K' (a.put oj.dst v) w := fun K' hh => by
    have hh' := stO_rel hh
    obtain ⟨a', w', hr, v, hy, _⟩ := stO_some hh'
    have hy0 := (yields_rel hsj h1 hr).1 hy
    refine ⟨v, hy0, (stO_put hsi h3 h2').2 (stO_mono ?_ hh')⟩
    rintro a'' w'' ⟨hr'', u, hu, hk⟩
    have : u = v := yields_fun ((yields_rel hsj h1 hr'').1 hu) hy0
    subst this
    exact hk
  have foreR : ∀ (K' : Act → World → Prop), stO P ops oi (fun a' w' => ∃ v, Yields P ops oj v a' ∧ K' (a'.put oj.dst v) w') a w → ∃ v, Yields P ops oj v a ∧ stO P ops oi K' (a.put oj.dst v) w := fore
  have i0 : ci = 0 ∨ ci = 1 ∨ ci = 2 ∨ ci = 3 := by omega
  have j0 : cj = 0 ∨ cj = 1 ∨ cj = 2 ∨ cj = 3 := by omega
  rcases i0 with rfl | rfl | rfl | rfl <;> rcases j0 with rfl | rfl | rfl | rfl <;> first | (exfalso; revert hf; decide) | skip
  all_goals simp only [stS] at h ⊢
  -- 0 0
  · obtain ⟨v, hv, u, hu, hk⟩ := h
    exact ⟨u, (yields_rel hsj h1 (rel_put oi a v)).1 hu, v, (yields_rel hsi h3 (rel_put oj a u)).2 hv, by rw [← comm]; exact hk⟩
  -- 0 1
  · obtain ⟨v, hv, u, hu, hk⟩ := h
    exact ⟨u, (yR_rel hsj h1 (rel_put oi a v)).1 hu, v, (yields_rel hsi h3 (rel_put oj a u)).2 hv, by rw [← comm]; exact hk⟩
  -- 0 2
  · obtain ⟨v, hv, hk⟩ := h
    exact stO_mono (fun a' w' ⟨hr, he, hk⟩ => ⟨he, v, (yields_rel hsi h3 hr).2 hv, hk⟩) (back v _ hk)
  -- 0 3
  · obtain ⟨v, hv, hk⟩ := h
    exact stO_mono (fun a' w' ⟨hr, hk⟩ => ⟨v, (yields_rel hsi h3 hr).2 hv, hk⟩) (back v _ hk)
  -- 1 0
  · obtain ⟨v, hv, u, hu, hk⟩ := h
    exact ⟨u, (yields_rel hsj h1 (rel_put oi a v)).1 hu, v, (yR_rel hsi h3 (rel_put oj a u)).2 hv, by rw [← comm]; exact hk⟩
  -- 1 1
  · obtain ⟨v, hv, u, hu, hk⟩ := h
    exact ⟨u, (yR_rel hsj h1 (rel_put oi a v)).1 hu, v, (yR_rel hsi h3 (rel_put oj a u)).2 hv, by rw [← comm]; exact hk⟩
  -- 1 2
  · obtain ⟨v, hv, hk⟩ := h
    refine stO_mono (fun a' w' ⟨hr, he, hk⟩ => ⟨he, v, (yR_rel hsi h3 hr).2 ?_, hk⟩) (back v _ hk)
    rcases hv with ⟨hw, hv⟩ | hv
    · refine .inl ⟨hw, fun w2 h2 => hv w2 ?_⟩
      intro k hk
      rw [h2 k, he k hk]
      have := he k hk
      rw [Array.getElem?_eq_getElem hk] at this
      exact (Array.getElem?_eq_some_iff.1 this).1
    · exact .inr hv
  -- 2 0
  · exact (fore (fun a' w' => Ext w w' ∧ K a' w') (stO_mono (fun a' w' ⟨he, v, hv, hk⟩ => ⟨v, hv, he, hk⟩) h))
  -- 3 0
  · exact fore K h
end swap

end
end Go.Reg
