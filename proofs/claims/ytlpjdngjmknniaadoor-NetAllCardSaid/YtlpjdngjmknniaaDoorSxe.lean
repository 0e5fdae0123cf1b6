/- The walk as a function from code to what is to be shown: operations, regions, code. -/
import Derived.Test.YtlpjdngjmknniaaDoorSxd
namespace Go.Sx
open Go Go.RowKit Go.Reg

def Good (C : Cx) (B S : List Nat) (w0 : World) (n : Nat) (K : Fr → Sg → Prop) (a : Act) (w : World) : Prop :=
  ∃ fr σ η φ, Models C B S w0 n fr σ η φ a w ∧ K fr σ

/-- what an operation owes, told in the model's own words -/
def OpSem (C : Cx) (n kd : Nat) (o : Oper) (K : Fr → Sg → Prop) (fr : Fr) (σ : Sg) : Prop :=
  ∀ (B S : List Nat) (w0 : World) (η : Nat → Value) (φ : Nat → List Nat) (a : Act) (w : World), Models C B S w0 n fr σ η φ a w → match kd with
    | 0 => dynPure a o = true ∧ o.wp C.P a w (Good C B S w0 n K) No
    | 5 => ∃ v, (∀ w2, Ext w w2 → (execOp a.eval o).run C.P w2 = .ok (.value v) w2) ∧ Good C B S w0 n K (a.put o.dst v) w
    | 2 => o.wp C.P a w (fun a' w' => Ext w w' ∧ Good C B S w0 n K a' w') No
    | _ => o.wp C.P a w (Good C B S w0 n K) No

/-- what a call of a function owes -/
def SxCall (C : Cx) (quiet : Bool) (f : FuncId) (args : List Dat) (K : KD) (fr : Fr) (σ : Sg) : Prop :=
  ∀ (B S : List Nat) (w0 : World) (η : Nat → Value) (φ : Nat → List Nat) (n : Nat) (a : Act) (w : World) (vs : List Value), Models C B S w0 n fr σ η φ a w →
    (∃ css, RepDss η (ids σ) (B ++ blocks φ σ) w args css ∧ vs = List.zipWith toVD args css) →
    (callFunc f vs.toArray).run C.P w = .ok (.enter f vs.toArray) w ∧ Calls C.P f vs.toArray w fun e w' => ∃ v d fr' σ' η' φ', e = .returned v ∧ K d fr' σ' ∧ Models C B S w0 n fr' σ' η' φ' a w' ∧ (∃ cs, RepD η' (ids σ') (B ++ blocks φ' σ') w' d cs ∧ v = toVD d cs) ∧ (quiet = true → Ext w w')

/-- what code owes, in the model's own words -/
def CodeSem (C : Cx) (n : Nat) (c : Code) (K : Exit → Fr → Sg → Prop) (fr : Fr) (σ : Sg) : Prop :=
  ∀ (B S : List Nat) (w0 : World) (η : Nat → Value) (φ : Nat → List Nat) (a : Act) (w : World), Models C B S w0 n fr σ η φ a w →
    c.wp C.P (fun e a' w' => match e with
      | .panic _ => False
      | .outgrown => False
      | e => Good C B S w0 n (K e) a' w') a w
attribute [irreducible] OpSem SxCall CodeSem

def putF (t : Option Nat) (d : Dat) (fr : Fr) : Fr := match t with
  | some t => (t, d) :: fr
  | none => fr
def dstOk (t : Option Nat) (n : Nat) : Bool := match t with
  | some t => Nat.blt t n
  | none => true

def sxSlice (T : Tab) (t : TypeId) (x : Dat) (lo hi mx : Option Dat) (K : Dat → Prop) (no : Prop) : Prop := withTy T t no fun e => withTy T e.elem no fun ee => withB (Nat.beq e.kd 2) no <| match x, mx with
  | .d (.list k ds), none => withB (Nat.beq k ee.size) no (match lo, hi with
    | none, none => K (.d (.list k ds))
    | some (.d (.int _ l)), none => ∃ j : Nat, l = j ∧ j ≤ ds.length ∧ K (.d (.list k (ds.drop j)))
    | none, some (.d (.int _ h)) => ∃ m : Nat, h = m ∧ m ≤ ds.length ∧ K (.d (.list k (ds.take m)))
    | some (.d (.int _ l)), some (.d (.int _ h)) => ∃ j m : Nat, l = j ∧ h = m ∧ j ≤ m ∧ m ≤ ds.length ∧ K (.d (.list k ((ds.take m).drop j)))
    | _, _ => no)
  | .d .nils, none => (match lo, hi with
    | none, none => K (.d .nils)
    | some (.d (.int _ l)), none => l = 0 ∧ K (.d .nils)
    | none, some (.d (.int _ h)) => h = 0 ∧ K (.d .nils)
    | some (.d (.int _ l)), some (.d (.int _ h)) => l = 0 ∧ h = 0 ∧ K (.d .nils)
    | _, _ => no)
  | _, _ => no

/-- one operation -/
def sxOper (C : Cx) (T : Tab) (n kd : Nat) (o : Oper) (K : Fr → Sg → Prop) (fr : Fr) (σ : Sg) : Prop :=
  withB (dstOk o.dst n) (OpSem C n kd o K fr σ) <| match o.op with
  | .move x => force (ev C.Γ fr x) fun d => K (putF o.dst d fr) σ
  | .assign x => force (ev C.Γ fr x) fun d => K (putF o.dst d fr) σ
  | .pick c x y => sxIf (ev C.Γ fr c) (fun _ => force (ev C.Γ fr x) fun d => K (putF o.dst d fr) σ) (fun _ => force (ev C.Γ fr y) fun d => K (putF o.dst d fr) σ) (OpSem C n kd o K fr σ)
  | .alloc t => withTy T t (OpSem C n kd o K fr σ) fun e => withO o.dst (OpSem C n kd o K fr σ) fun d => fresh d σ (fun i => forceS (sins i (.cells t (Dat.cellsOf (.d e.zero))) σ) fun σ => K (putF o.dst (.own i) fr) σ) (OpSem C n kd o K fr σ)
  | .box t x => withB (ev C.Γ fr x).stor (OpSem C n kd o K fr σ) <| withO o.dst (OpSem C n kd o K fr σ) fun d => fresh d σ (fun i => force (ev C.Γ fr x) fun y => forceS (sins i (.cells t y.cellsOf) σ) fun σ => K (putF o.dst (.own i) fr) σ) (OpSem C n kd o K fr σ)
  | .build t ps => withTy T t (OpSem C n kd o K fr σ) fun e => withB (e.agg && partsFit T e ps.toList (ev C.Γ fr) (Dat.cellsOf (.d e.zero))) (OpSem C n kd o K fr σ) <| force (mkAgg (setParts ps.toList (ev C.Γ fr) (Dat.cellsOf (.d e.zero)))) fun d => K (putF o.dst d fr) σ
  | .buildSlice t m ps => withTy T t (OpSem C n kd o K fr σ) fun e => withTy T e.elem (OpSem C n kd o K fr σ) fun ee => withB (Nat.beq e.kd 2 && Nat.beq m ps.size && decide (m ≤ 1000) && decide (ee.size ≤ 1000) && ((ps.toList.map (·.1)) == List.range m) && ps.toList.all (fun p => (ev C.Γ fr p.2).fits ee && (ev C.Γ fr p.2).stor)) (OpSem C n kd o K fr σ) <|
      withO (allD (ps.toList.map fun p => ev C.Γ fr p.2)) (OpSem C n kd o K fr σ) fun xs => withO o.dst (OpSem C n kd o K fr σ) fun d => fresh d σ (fun i => forceS (sins i (.slice e.elem ee.size xs) σ) fun σ => K (putF o.dst (.own i) fr) σ) (OpSem C n kd o K fr σ)
  | .makeSlice t l c => withTy T t (OpSem C n kd o K fr σ) fun e => withTy T e.elem (OpSem C n kd o K fr σ) fun ee => withB (Nat.beq e.kd 2 && ee.zero.stor && decide (ee.bytes ≤ 1000)) (OpSem C n kd o K fr σ) (match ev C.Γ fr l, ev C.Γ fr c with
    | .d (.int _ x), .d (.int _ y) => ∃ m : Nat, x = m ∧ y = m ∧ m ≤ mostLen ∧ withO o.dst (OpSem C n kd o K fr σ) fun d => fresh d σ (fun i => forceS (sins i (.slice e.elem ee.size (List.replicate m ee.zero)) σ) fun σ => K (putF o.dst (.own i) fr) σ) (OpSem C n kd o K fr σ)
    | _, _ => OpSem C n kd o K fr σ)
  | .load t x => sxLoad T t (ev C.Γ fr x) σ (fun d => K (putF o.dst d fr) σ) (OpSem C n kd o K fr σ)
  | .store t x v => sxStore T t (ev C.Γ fr x) (ev C.Γ fr v) σ (fun σ' => forceS σ' fun σ' => K (putF o.dst (.d .undef) fr) σ') (OpSem C n kd o K fr σ)
  | .nilCheck x => force (ev C.Γ fr x) fun d => (match d with
    | .d (.ref _) => K (putF o.dst d fr) σ
    | .at_ _ _ => K (putF o.dst d fr) σ
    | .el _ _ _ _ => K (putF o.dst d fr) σ
    | .own i => withO (sget i σ) (OpSem C n kd o K fr σ) fun ow => (match ow with
      | .cells _ _ => K (putF o.dst d fr) σ
      | _ => OpSem C n kd o K fr σ)
    | _ => OpSem C n kd o K fr σ)
  | .binOp op t x y _ => (match (ev C.Γ fr x).parts, (ev C.Γ fr y).parts with
    | some dx, some dy => withTy T t (OpSem C n kd o K fr σ) fun e => withB (e.cmp && !(Nat.beq kd 0)) (OpSem C n kd o K fr σ) <| withO (eqFlds T dx dy e.flds 0) (OpSem C n kd o K fr σ) fun p => sxEq op p (fun d => K (putF o.dst d fr) σ) (OpSem C n kd o K fr σ)
    | _, _ => sxBin T t op (isNilC y) (ev C.Γ fr x) (ev C.Γ fr y) σ (fun d => K (putF o.dst d fr) σ) (OpSem C n kd o K fr σ))
  | .unOp op _ x => sxUn op (ev C.Γ fr x) (fun d => K (putF o.dst d fr) σ) (OpSem C n kd o K fr σ)
  | .convert s t x => withTy T t (OpSem C n kd o K fr σ) fun e => withTy T s (OpSem C n kd o K fr σ) fun _ => (match e.ik, ev C.Γ fr x with
    | some k, .d (.int _ a) => SxI k a fun b => K (putF o.dst (.d (.int k b)) fr) σ
    | _, _ => OpSem C n kd o K fr σ)
  | .makeInterface t x => withTy T t (OpSem C n kd o K fr σ) fun e => withB (!(Nat.beq e.kd 5)) (OpSem C n kd o K fr σ) <| force (mkIface t (ev C.Γ fr x)) fun d => K (putF o.dst d fr) σ
  | .makeFunc f p q => force (mkFunc f (evs C.Γ fr p.toList) (evs C.Γ fr q.toList)) fun d => K (putF o.dst d fr) σ
  | .fieldAddr t x m => sxFieldAddr T t (ev C.Γ fr x) m σ (fun d => K (putF o.dst d fr) σ) (OpSem C n kd o K fr σ)
  | .indexAddr t x ix => sxIndexAddr T t (ev C.Γ fr x) (ev C.Γ fr ix) σ (fun d => K (putF o.dst d fr) σ) (OpSem C n kd o K fr σ)
  | .index t x ix => withTy T t (OpSem C n kd o K fr σ) fun e => withB (Nat.beq e.kd 7) (OpSem C n kd o K fr σ) (match ev C.Γ fr x, ev C.Γ fr ix with
    | .d (.str s), .d (.int _ i) => ∃ j : Nat, i = j ∧ ∃ h : j < s.size, K (putF o.dst (.d (.int .u8 (s[j]'h).toNat)) fr) σ
    | _, _ => OpSem C n kd o K fr σ)
  | .field t x m => sxField T t (ev C.Γ fr x) m (fun d => K (putF o.dst d fr) σ) (OpSem C n kd o K fr σ)
  | .slice t x lo hi mx => sxSlice T t (ev C.Γ fr x) (lo.map (ev C.Γ fr)) (hi.map (ev C.Γ fr)) (mx.map (ev C.Γ fr)) (fun d => K (putF o.dst d fr) σ) (OpSem C n kd o K fr σ)
  | .extract x m => (match ev C.Γ fr x with
    | .d (.tuple ds) => withO (dfieldOf m ds) (OpSem C n kd o K fr σ) fun d => K (putF o.dst (.d d) fr) σ
    | .tuple ds => withO (fieldOf m ds) (OpSem C n kd o K fr σ) fun d => force d fun d => K (putF o.dst d fr) σ
    | _ => OpSem C n kd o K fr σ)
  | .call c => (match c.callee with
    | .builtin .len => (match c.args.toList, c.argTypes.toList with
      | [x], [t] => sxLen T t (ev C.Γ fr x) σ (fun d => K (putF o.dst d fr) σ) (OpSem C n kd o K fr σ)
      | _, _ => OpSem C n kd o K fr σ)
    | .builtin .append => (match c.args.toList, c.argTypes.toList with
      | [x, y], [t, t'] => withB (Nat.beq t t') (OpSem C n kd o K fr σ) <| sxAppend T t (ev C.Γ fr x) (ev C.Γ fr y) o.dst fr σ (fun d fr σ => K (putF o.dst d fr) σ) (OpSem C n kd o K fr σ)
      | _, _ => OpSem C n kd o K fr σ)
    | .builtin .min => (match c.args.toList.map (ev C.Γ fr) with
      | [.d (.int k x), .d (.int _ y)] => K (putF o.dst (.d (.int k (min x y))) fr) σ
      | _ => OpSem C n kd o K fr σ)
    | .builtin .max => (match c.args.toList.map (ev C.Γ fr) with
      | [.d (.int k x), .d (.int _ y)] => K (putF o.dst (.d (.int k (max x y))) fr) σ
      | _ => OpSem C n kd o K fr σ)
    | .value f => (match ev C.Γ fr f with
      | .d (.func (.func g) fs cs) => SxCall C (Nat.beq kd 2) g (datas fs ++ (evs C.Γ fr c.args.toList ++ datas cs)) (fun d fr σ => K (putF o.dst d fr) σ) fr σ
      | .func (.func g) fs cs => SxCall C (Nat.beq kd 2) g (fs ++ (evs C.Γ fr c.args.toList ++ cs)) (fun d fr σ => K (putF o.dst d fr) σ) fr σ
      | _ => OpSem C n kd o K fr σ)
    | _ => OpSem C n kd o K fr σ)
  | _ => OpSem C n kd o K fr σ

/-- an operation's guard -/
def sxGuard (o : Oper) (l : List Oper) (fr : Fr) (yes no : Fr → Prop) : Prop := match o.guard with
  | none => yes fr
  | some (g, b) => match (l[g]?).bind (·.dst) with
    | none => False
    | some t => match get fr t with
      | .d (.bool c) => (match c, b with
        | true, true => yes fr
        | false, false => yes fr
        | _, _ => no fr)
      | .d (.prop p _) => (match b with
        | true => (p → yes ((t, .d (.bool true)) :: fr)) ∧ (¬ p → no ((t, .d (.bool false)) :: fr))
        | false => (p → no ((t, .d (.bool true)) :: fr)) ∧ (¬ p → yes ((t, .d (.bool false)) :: fr)))
      | .d (.tuple []) => no fr
      | _ => False

def skipF (t : Option Nat) (fr : Fr) : Fr := match t with
  | some t => (t, .d (.tuple [])) :: fr
  | none => fr

/-- the operations of a region, by their numbers in the order p -/
def sxOps (C : Cx) (T : Tab) (n : Nat) (l : List Oper) (ks : List Nat) (K : Fr → Sg → Prop) : List Nat → Fr → Sg → Prop
  | [], fr, σ => K fr σ
  | i :: p, fr, σ => match l[i]? with
    | none => False
    | some o => sxGuard o l fr (fun fr => sxOper C T n (ks.getD i 3) o (sxOps C T n l ks K p) fr σ) (fun fr => withB (dstOk o.dst n) False (sxOps C T n l ks K p (skipF o.dst fr) σ))

/-- how the orders of a region that draws are walked -/
inductive Plan where
  | leaf (ks p A : List Nat)
  | split (i j : Nat) (x y : Plan)

def leaves : Plan → List (List Nat × List Nat)
  | .leaf ks p _ => [(ks, p)]
  | .split _ _ x y => leaves x ++ leaves y

/-- the slots of the first are those of the second -/
def Sub : Fr → Fr → Prop
  | [], _ => True
  | (t, d) :: l, fr => get fr t = d ∧ Sub l fr
/-- each slot once -/
def nubF : Fr → Fr → (Fr → Prop) → Prop
  | [], acc, K => K acc
  | (t, d) :: fr, acc, K => match acc.any (fun p => Nat.beq p.1 t) with
    | true => nubF fr acc K
    | false => force d fun d => nubF fr (acc ++ [(t, d)]) K

def sxRest (C : Cx) (T : Tab) (n : Nat) (l : List Oper) (F : Fr) (Z : Sg) (fr : Fr) (σ : Sg) (k : Prop) : List (List Nat × List Nat) → Prop
  | [] => k
  | (ks, p) :: r => sxOps C T n l ks (fun fr' σ' => Sub F fr' ∧ σ' = Z) p fr σ ∧ sxRest C T n l F Z fr σ k r
def sxPlan (C : Cx) (T : Tab) (n : Nat) (l : List Oper) (K : Fr → Sg → Prop) (pl : Plan) (fr : Fr) (σ : Sg) : Prop := match leaves pl with
  | [] => False
  | [(ks, p)] => sxOps C T n l ks K p fr σ
  | (ks, p) :: r => sxOps C T n l ks (fun fr1 σ1 => nubF fr1 [] fun F => sxRest C T n l F σ1 fr σ (K F σ1) r) p fr σ

def planAt (i : Nat) : List (Nat × Plan) → Option Plan
  | [] => none
  | (j, p) :: l => match Nat.beq j i with
    | true => some p
    | false => planAt i l

abbrev KE := Exit → Fr → Sg → Prop
def seqK (nx : Fr → Sg → Prop) (K : KE) : KE := fun e => match e with
  | .normal => nx
  | e => K e
def blockK (id : Nat) (K : KE) : KE := fun e => match e with
  | .exit j => (match Nat.beq j id with
    | true => K .normal
    | false => K (.exit j))
  | e => K e
def condF (c : Operand) (d : Dat) (fr : Fr) : Fr := match c with
  | .tmp t => (t, d) :: fr
  | _ => fr

/-- code -/
def sxCode (C : Cx) (T : Tab) (n : Nat) (pl : List (Nat × Plan)) : Code → KE → Fr → Sg → Prop
  | .skip, K, fr, σ => K .normal fr σ
  | .region id ops dr, K, fr, σ => (match dr with
    | false => sxOps C T n ops.toList [] (K .normal) (List.range ops.toList.length) fr σ
    | true => match planAt id pl with
      | some p => sxPlan C T n ops.toList (K .normal) p fr σ
      | none => False)
  | .seq a b, K, fr, σ => sxCode C T n pl a (seqK (sxCode C T n pl b K) K) fr σ
  | .cond c a b, K, fr, σ => sxIf (ev C.Γ fr c) (fun d => sxCode C T n pl a K (condF c d fr) σ) (fun d => sxCode C T n pl b K (condF c d fr) σ) False
  | .block id b, K, fr, σ => sxCode C T n pl b (blockK id K) fr σ
  | .exit id, K, fr, σ => K (.exit id) fr σ
  | .label _, K, fr, σ => K .normal fr σ
  | .ret, K, fr, σ => K .ret fr σ
  | c, K, fr, σ => CodeSem C n c K fr σ

def sxRes (T : Tab) : List ResultVar → Fr → Sg → (List Dat → Prop) → Prop
  | [], _, _, K => K []
  | .tmp t :: l, fr, σ, K => force (get fr t) fun d => sxRes T l fr σ fun ds => K (d :: ds)
  | .cell t ty :: l, fr, σ, K => sxLoad T ty (get fr t) σ (fun d => sxRes T l fr σ fun ds => K (d :: ds)) False
/-- behind the body: what is handed back -/
def sxEnd (T : Tab) (rs : List ResultVar) (K : Dat → Sg → Prop) : KE := fun e fr σ => match e with
  | .normal | .ret => sxRes T rs fr σ fun ds => (match ds with
    | [d] => K d σ
    | ds => force (mkTup ds) fun d => K d σ)
  | _ => False

end Go.Sx
