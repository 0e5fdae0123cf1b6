/- The walk as a function from code to what is to be shown. -/
import Derived.Test.YtlpjdngjmknniaaDoorSxc
namespace Go.Sx
open Go Go.RowKit Go.Reg

/-- a type as the walk knows it -/
structure TyI where
  agg : Bool
  size : Nat
  bytes : Nat
  flds : List (Nat × TypeId)
  zero : Da
  elem : TypeId
  ik : Option IntKind
  kd : Nat
  cmp : Bool

abbrev Tab := List (TypeId × TyI)
def tyAt (t : TypeId) : Tab → Option TyI
  | [] => none
  | (u, e) :: l => match Nat.beq u t with
    | true => some e
    | false => tyAt t l

mutual
def Da.size : Da → Nat
  | .agg ds => sizes ds
  | _ => 1
def sizes : List Da → Nat
  | [] => 0
  | d :: ds => d.size + sizes ds
end
def Da.isAgg : Da → Bool
  | .agg _ => true
  | _ => false
mutual
def Dat.size : Dat → Nat
  | .d x => x.size
  | .agg ds => sizesD ds
  | _ => 1
def sizesD : List Dat → Nat
  | [] => 0
  | d :: ds => d.size + sizesD ds
end
def Dat.isAgg : Dat → Bool
  | .d x => x.isAgg
  | .agg _ => true
  | _ => false
def Dat.fits (d : Dat) (e : TyI) : Bool := (d.isAgg == e.agg) && Nat.beq d.size e.size
def Da.fits (d : Da) (e : TyI) : Bool := (d.isAgg == e.agg) && Nat.beq d.size e.size

mutual
/-- may it stand in cells? -/
def Da.stor : Da → Bool
  | .undef | .tuple _ | .raw _ => false
  | .agg ds => stors ds
  | _ => true
def stors : List Da → Bool
  | [] => true
  | d :: ds => d.stor && stors ds
end
mutual
def Dat.stor : Dat → Bool
  | .d x => x.stor
  | .tuple _ => false
  | .agg ds => storsD ds
  | _ => true
def storsD : List Dat → Bool
  | [] => true
  | d :: ds => d.stor && storsD ds
end

def datas : List Da → List Dat
  | [] => []
  | x :: xs => .d x :: datas xs
def Dat.parts : Dat → Option (List Dat)
  | .d (.agg xs) => some (datas xs)
  | .agg ds => some ds
  | _ => none
def Dat.cellsOf (d : Dat) : List Dat := match d with
  | .d (.agg xs) => datas xs
  | .agg ds => ds
  | d => [d]

/-- the part of cells at a place -/
def lookAt (e : TyI) : Nat → List Dat → Nat → Option Dat
  | 0, _, _ => none
  | _ + 1, [], _ => none
  | f + 1, d :: ds, o => match Nat.blt o d.size with
    | false => lookAt e f ds (o - d.size)
    | true => match Nat.beq o 0 && d.fits e with
      | true => some d
      | false => match d.parts with
        | some es => lookAt e f es o
        | none => none
def consO (d : Dat) : Option (List Dat) → Option (List Dat)
  | some l => some (d :: l)
  | none => none
def aggO (ds : List Dat) : Option (List Dat) → Option (List Dat)
  | some l => some (.agg l :: ds)
  | none => none
/-- cells with a part put at a place -/
def putAt (x : Dat) : Nat → List Dat → Nat → Option (List Dat)
  | 0, _, _ => none
  | _ + 1, [], _ => none
  | f + 1, d :: ds, o => match Nat.blt o d.size with
    | false => consO d (putAt x f ds (o - d.size))
    | true => match Nat.beq o 0 && (d.isAgg == x.isAgg) && Nat.beq d.size x.size with
      | true => some (x :: ds)
      | false => match d.parts with
        | some es => aggO ds (putAt x f es o)
        | none => none

def allD : List Dat → Option (List Da)
  | [] => some []
  | .d x :: ds => match allD ds with
    | some xs => some (x :: xs)
    | none => none
  | _ :: _ => none
def mkAgg (ds : List Dat) : Dat := match allD ds with
  | some xs => .d (.agg xs)
  | none => .agg ds
def mkTup (ds : List Dat) : Dat := match allD ds with
  | some xs => .d (.tuple xs)
  | none => .tuple ds
def mkIface (t : TypeId) : Dat → Dat
  | .d x => .d (.iface t x)
  | d => .iface t d
def mkFunc (fn : Fn) (f c : List Dat) : Dat := match allD f, allD c with
  | some fs, some cs => .d (.func fn fs cs)
  | _, _ => .func fn f c

def ofVal1 : Value → Da
  | .int k n => .int k n
  | .bool b => .bool b
  | .string s => .str s
  | .pointer none => .nilp
  | .slice none 0 0 => .nils
  | .map none => .nilm
  | .nilFunc => .nilf
  | .nilIface => .nili
  | v => .raw v
def ofVal : Value → Da
  | .agg cs => .agg (cs.toList.map ofVal1)
  | v => ofVal1 v

def glob (g : Nat) : List (Nat × Da) → Da
  | [] => .raw (.pointer (some ⟨g, 0, none⟩))
  | (h, x) :: l => match Nat.beq h g with
    | true => .ref x
    | false => glob g l

def ev (Γ : List (Nat × Da)) (fr : Fr) : Operand → Dat
  | .tmp t => get fr t
  | .const v => .d (ofVal v)
  | .global g => .d (glob g Γ)
  | .func f => .d (.func (.func f) [] [])
def evs (Γ : List (Nat × Da)) (fr : Fr) : List Operand → List Dat
  | [] => []
  | x :: xs => ev Γ fr x :: evs Γ fr xs

abbrev KD := Dat → Fr → Sg → Prop

def force (d : Dat) (K : Dat → Prop) : Prop := match d with
  | .d x => K (.d x)
  | .own i => K (.own i)
  | .at_ i o => K (.at_ i o)
  | .el i k n o => K (.el i k n o)
  | .agg ds => K (.agg ds)
  | .tuple ds => K (.tuple ds)
  | .iface t d => K (.iface t d)
  | .func f a b => K (.func f a b)
theorem force_eq (d : Dat) (K : Dat → Prop) : force d K = K d := by cases d <;> rfl

/-- a whole number that was reckoned: n is what it is behind the wrap -/
def SxI (k : IntKind) (e : Int) (K : Int → Prop) : Prop := ∃ n, k.wrap e = n ∧ K n

/-- how many cells stand ahead of a field -/
def dprefix : Nat → List Da → Nat
  | 0, _ => 0
  | _ + 1, [] => 0
  | n + 1, d :: ds => d.size + dprefix n ds
def prefixD : Nat → List Dat → Nat
  | 0, _ => 0
  | _ + 1, [] => 0
  | n + 1, d :: ds => d.size + prefixD n ds

def withTy (T : Tab) (t : TypeId) (no : Prop) (K : TyI → Prop) : Prop := match tyAt t T with
  | some e => K e
  | none => no
def withO {α : Type} (o : Option α) (no : Prop) (K : α → Prop) : Prop := match o with
  | some x => K x
  | none => no
def withB (b : Bool) (no K : Prop) : Prop := match b with
  | true => K
  | false => no

/-- is it nil? as a value of a type of the kind kd: 1 pointer · 2 slice · 3 map · 4 func · 5 interface -/
def nilOf (kd : Nat) (x : Dat) (σ : Sg) : Option Bool := match kd with
  | 1 => (match x with
    | .d .nilp => some true
    | .d (.ref _) | .at_ _ _ | .el _ _ _ _ => some false
    | .own i => (match sget i σ with | some (.cells _ _) => some false | _ => none)
    | _ => none)
  | 2 => (match x with
    | .d .nils => some true
    | .d (.list _ (_ :: _)) => some false
    | .own i => (match sget i σ with | some (.slice _ _ (_ :: _)) => some false | _ => none)
    | _ => none)
  | 3 => (match x with
    | .d .nilm => some true
    | _ => none)
  | 4 => (match x with
    | .d .nilf => some true
    | .d (.func _ _ _) | .func _ _ _ => some false
    | _ => none)
  | 5 => (match x with
    | .d .nili => some true
    | .d (.iface _ _) | .iface _ _ => some false
    | _ => none)
  | _ => none
def isNilLit (kd : Nat) (x : Dat) : Bool := match kd, x with
  | 1, .d .nilp => true
  | 2, .d .nils => true
  | 3, .d .nilm => true
  | 4, .d .nilf => true
  | 5, .d .nili => true
  | _, _ => false

def pr (p : Prop) [i : Decidable p] : Dat := .d (.prop p i)

def sxInt (op : BinOp) (k : IntKind) (a b : Int) (K : Dat → Prop) (no : Prop) : Prop := match op with
  | .add => SxI k (a + b) fun n => K (.d (.int k n))
  | .sub => SxI k (a - b) fun n => K (.d (.int k n))
  | .mul => SxI k (a * b) fun n => K (.d (.int k n))
  | .quo => b ≠ 0 ∧ SxI k (a.tdiv b) fun n => K (.d (.int k n))
  | .rem => b ≠ 0 ∧ K (.d (.int k (a.tmod b)))
  | .eql => K (pr (a = b))
  | .neq => K (pr (¬ a = b))
  | .lss => K (pr (a < b))
  | .leq => K (pr (a ≤ b))
  | .gtr => K (pr (b < a))
  | .geq => K (pr (b ≤ a))
  | _ => no
def sxBool2 (op : BinOp) (p q : Prop) [Decidable p] [Decidable q] (K : Dat → Prop) (no : Prop) : Prop := match op with
  | .eql => K (pr (p ↔ q))
  | .neq => K (pr (¬ (p ↔ q)))
  | _ => no
def sxStr (op : BinOp) (a b : ByteArray) (K : Dat → Prop) (no : Prop) : Prop := match op with
  | .eql => K (pr (a = b))
  | .neq => K (pr (¬ a = b))
  | .add => a.size + b.size ≤ 9223372036854775807 ∧ K (.d (.str (a ++ b)))
  | _ => no
def sxNil (kd : Nat) (op : BinOp) (x y : Dat) (σ : Sg) (K : Dat → Prop) (no : Prop) : Prop :=
  match isNilLit kd y, nilOf kd x σ, op with
  | true, some b, .eql => K (.d (.bool b))
  | true, some b, .neq => K (.d (.bool (!b)))
  | _, _, _ => no
def isNilC : Operand → Bool
  | .const .nilIface => true
  | _ => false
def sxBin (T : Tab) (t : TypeId) (op : BinOp) (yc : Bool) (x y : Dat) (σ : Sg) (K : Dat → Prop) (no : Prop) : Prop :=
  match x, y with
  | .d (.int k a), .d (.int k' b) => withB (decide (k = k')) no (sxInt op k a b K no)
  | .d (.str a), .d (.str b) => sxStr op a b K no
  | .d (.bool a), .d (.bool b) => withTy T t no fun e => withB (Nat.beq e.kd 9) no (sxBool2 op (a = true) (b = true) K no)
  | .d (.bool a), .d (.prop q _) => withTy T t no fun e => withB (Nat.beq e.kd 9) no (sxBool2 op (a = true) q K no)
  | .d (.prop p _), .d (.bool b) => withTy T t no fun e => withB (Nat.beq e.kd 9) no (sxBool2 op p (b = true) K no)
  | .d (.prop p _), .d (.prop q _) => withTy T t no fun e => withB (Nat.beq e.kd 9) no (sxBool2 op p q K no)
  | x, y => withTy T t no fun e => withB (yc || !(Nat.beq e.kd 5)) no (sxNil e.kd op x y σ K no)

def sxUn (op : UnOp) (x : Dat) (K : Dat → Prop) (no : Prop) : Prop := match op, x with
  | .not, .d (.bool b) => K (.d (.bool (!b)))
  | .not, .d (.prop p _) => K (pr (¬ p))
  | .neg, .d (.int k n) => SxI k (-n) fun m => K (.d (.int k m))
  | _, _ => no

/-- a test: two ways -/
def sxIf (d : Dat) (yes no : Dat → Prop) (bad : Prop) : Prop := match d with
  | .d (.bool true) => yes (.d (.bool true))
  | .d (.bool false) => no (.d (.bool false))
  | .d (.prop p _) => (p → yes (.d (.bool true))) ∧ (¬ p → no (.d (.bool false)))
  | _ => bad

def fresh (i : Nat) (σ : Sg) (K : Nat → Prop) (no : Prop) : Prop := match sget i σ with
  | none => K i
  | some _ => match sget (i + 1000) σ with
    | none => K (i + 1000)
    | some _ => match sget (i + 2000) σ with
      | none => K (i + 2000)
      | some _ => no

def fieldOf (n : Nat) : List Dat → Option Dat
  | [] => none
  | d :: ds => match n with
    | 0 => some d
    | m + 1 => fieldOf m ds
def setField (n : Nat) (x : Dat) : List Dat → List Dat
  | [] => []
  | d :: ds => match n with
    | 0 => x :: ds
    | m + 1 => d :: setField m x ds
def dfieldOf (n : Nat) : List Da → Option Da
  | [] => none
  | d :: ds => match n with
    | 0 => some d
    | m + 1 => dfieldOf m ds

def sxLoad (T : Tab) (t : TypeId) (x : Dat) (σ : Sg) (K : Dat → Prop) (no : Prop) : Prop := withTy T t no fun e => match x with
  | .d (.ref y) => withB (y.fits e) no (K (.d y))
  | .own i => withO (sget i σ) no fun o => (match o with
    | .cells t0 ds => (match Nat.beq t t0 && e.agg with
      | true => withB (Nat.beq (sizesD ds) e.size) no (force (mkAgg ds) K)
      | false => withO (lookAt e 200 ds 0) no fun d => force d K)
    | _ => no)
  | .at_ i off => withO (sget i σ) no fun o => (match o with
    | .cells _ ds => withO (lookAt e 200 ds off) no fun d => force d K
    | _ => no)
  | .el i k0 n off => withO (sget i σ) no fun o => (match o with
    | .slice _ k ds => withB (Nat.beq k0 k) no (∃ d, ds[n]? = some d ∧ withO (lookAt e 200 [.d d] off) no fun d => force d K)
    | _ => no)
  | _ => no

def sxStore (T : Tab) (t : TypeId) (x v : Dat) (σ : Sg) (K : Sg → Prop) (no : Prop) : Prop := withTy T t no fun e => withB (v.fits e && v.stor) no (match x with
  | .own i => withO (sget i σ) no fun o => (match o with
    | .cells t0 ds => (match Nat.beq t t0 && e.agg with
      | true => withB (Nat.beq (sizesD ds) e.size) no (K (sturn id i (.cells t0 v.cellsOf) σ))
      | false => withO (putAt v 200 ds 0) no fun ds' => K (sturn id i (.cells t0 ds') σ))
    | _ => no)
  | .at_ i off => withO (sget i σ) no fun o => (match o with
    | .cells T ds => withO (putAt v 200 ds off) no fun ds' => K (sturn id i (.cells T ds') σ)
    | _ => no)
  | .el i k0 n off => withO (sget i σ) no fun o => (match o with
    | .slice E k ds => withB (Nat.beq k0 k) no (∃ d, ds[n]? = some d ∧ withO (putAt v 200 [.d d] off) no fun ds' => withO (allD ds') no fun xs => (match xs with
      | [y] => K (sturn id i (.slice E k (ds.set n y)) σ)
      | _ => no))
    | _ => no)
  | _ => no)

def sxFieldAddr (T : Tab) (t : TypeId) (x : Dat) (n : Nat) (σ : Sg) (K : Dat → Prop) (no : Prop) : Prop := withTy T t no fun e => withO e.flds[n]? no fun os => withB e.agg no <| match x with
  | .d (.ref (.agg ds)) => withB (Nat.beq (dprefix n ds) os.1) no (withO (dfieldOf n ds) no fun d => K (.d (.ref d)))
  | .own i => withO (sget i σ) no fun o => (match o with | .cells _ _ => K (.at_ i os.1) | _ => no)
  | .at_ i off => K (.at_ i (off + os.1))
  | .el i k m off => K (.el i k m (off + os.1))
  | _ => no

/-- a place in a list, told by a whole number -/
def sxAt (n : Int) (len : Nat) (K : Nat → Prop) : Prop := ∃ j : Nat, n = j ∧ j < len ∧ K j

def sxIndexAddr (T : Tab) (t : TypeId) (x ix : Dat) (σ : Sg) (K : Dat → Prop) (no : Prop) : Prop := withTy T t no fun e => withTy T e.elem no fun ee => withB (Nat.beq e.kd 2) no <| match ix with
  | .d (.int _ n) => (match x with
    | .d (.list k ds) => withB (Nat.beq k ee.size) no (∃ (j : Nat) (d : Da), n = j ∧ ds[j]? = some d ∧ K (.d (.ref d)))
    | .own i => withO (sget i σ) no fun o => (match o with
      | .slice _ k ds => withB (Nat.beq k ee.size) no (sxAt n ds.length fun j => K (.el i k j 0))
      | _ => no)
    | _ => no)
  | _ => no

def sxLen (T : Tab) (t : TypeId) (x : Dat) (σ : Sg) (K : Dat → Prop) (no : Prop) : Prop := withTy T t no fun e => withB (Nat.beq e.kd 2 || Nat.beq e.kd 7) no <| match x with
  | .d (.list _ ds) => withB (Nat.beq e.kd 2) no (K (.d (.int .i64 ds.length)))
  | .d .nils => withB (Nat.beq e.kd 2) no (K (.d (.int .i64 0)))
  | .d (.str s) => withB (Nat.beq e.kd 7) no (K (.d (.int .i64 s.size)))
  | .own i => withO (sget i σ) no fun o => (match o with
    | .slice _ _ ds => withB (Nat.beq e.kd 2) no (K (.d (.int .i64 ds.length)))
    | _ => no)
  | _ => no

/-- a slice's elements -/
def elems (x : Dat) (k : Nat) (σ : Sg) : Option (List Da) := match x with
  | .d (.list k' ds) => (match Nat.beq k' k with | true => some ds | false => none)
  | .d .nils => some []
  | .own i => (match sget i σ with
    | some (.slice _ k' ds) => (match Nat.beq k' k with | true => some ds | false => none)
    | _ => none)
  | _ => none
def notOwn (i : Nat) : Dat → Bool
  | .own j => !(Nat.beq i j)
  | _ => true

def mostLen : Nat := 4294967296

/-- the spine laid out -/
def forceDs : List Dat → (List Dat → Prop) → Prop
  | [], K => K []
  | d :: ds, K => force d fun d => forceDs ds fun ds => K (d :: ds)
def forceO (o : Own) (K : Own → Prop) : Prop := match o with
  | .cells T ds => forceDs ds fun ds => K (.cells T ds)
  | .slice E k ds => K (.slice E k ds)
  | .abs R a b c => K (.abs R a b c)
def forceS : Sg → (Sg → Prop) → Prop
  | [], K => K []
  | (i, o) :: σ, K => forceO o fun o => forceS σ fun σ => K ((i, o) :: σ)
def forceF : Fr → (Fr → Prop) → Prop
  | [], K => K []
  | (t, d) :: fr, K => force d fun d => forceF fr fun fr => K ((t, d) :: fr)
theorem forceDs_eq : ∀ (ds : List Dat) (K : List Dat → Prop), forceDs ds K = K ds
  | [], K => rfl
  | d :: ds, K => by simp only [forceDs, force_eq, forceDs_eq ds]
theorem forceO_eq (o : Own) (K : Own → Prop) : forceO o K = K o := by cases o <;> simp [forceO, forceDs_eq]
theorem forceS_eq : ∀ (σ : Sg) (K : Sg → Prop), forceS σ K = K σ
  | [], K => rfl
  | (i, o) :: σ, K => by simp only [forceS, forceO_eq, forceS_eq σ]
theorem forceF_eq : ∀ (fr : Fr) (K : Fr → Prop), forceF fr K = K fr
  | [], K => rfl
  | (t, d) :: fr, K => by simp only [forceF, force_eq, forceF_eq fr]
/-- a new thing, in the order of the numbers -/
def sins (i : Nat) (o : Own) : Sg → Sg
  | [] => [(i, o)]
  | (j, p) :: σ => match Nat.blt i j with
    | true => (i, o) :: (j, p) :: σ
    | false => (j, p) :: sins i o σ

def sxAppend (T : Tab) (t : TypeId) (x y : Dat) (dst : Option Nat) (fr : Fr) (σ : Sg) (K : KD) (no : Prop) : Prop := withTy T t no fun e => withTy T e.elem no fun ee => withB (decide (0 < ee.size) && decide (ee.bytes ≤ 1000) && Nat.beq e.kd 2) no <| match x with
  | .own i => withO (sget i σ) no fun o => (match o with
    | .slice E k ds => withB (Nat.beq k ee.size && Nat.beq E e.elem && notOwn i y) no <| withO (elems y k σ) no fun es =>
        ds.length + es.length ≤ mostLen ∧ forceF (killF i .undef fr) fun fr => forceS (sturn (killO i .undef) i (.slice E k (ds ++ es)) σ) fun σ => K (.own i) fr σ
    | _ => no)
  | .d .nils => withO (elems y ee.size σ) no fun es => es.length ≤ mostLen ∧ withO dst no fun t => fresh t σ (fun i => forceS (sins i (.slice e.elem ee.size es) σ) fun σ => K (.own i) fr σ) no
  | _ => no

def setParts : List (Nat × Operand) → (Operand → Dat) → List Dat → List Dat
  | [], _, ds => ds
  | (i, x) :: ps, f, ds => setParts ps f (setField i (f x) ds)
def partsFit (T : Tab) (e : TyI) : List (Nat × Operand) → (Operand → Dat) → List Dat → Bool
  | [], _, _ => true
  | (i, x) :: ps, f, ds => (match fieldOf i ds, e.flds[i]? with
    | some d, some (off, ft) => (match tyAt ft T with
      | some fe => (d.isAgg == (f x).isAgg) && Nat.beq d.size (f x).size && Nat.beq fe.size (f x).size && Nat.beq (prefixD i ds) off && (f x).stor && partsFit T e ps f ds
      | none => false)
    | _, _ => false)

/-- a statement that can be decided -/
structure PD where
  p : Prop
  d : Decidable p
def PD.of (p : Prop) [i : Decidable p] : PD := ⟨p, i⟩
def PD.and (x y : PD) : PD := ⟨x.p ∧ y.p, @instDecidableAnd _ _ x.d y.d⟩
def eqOne (kd : Nat) (a b : Dat) : Option PD := match kd, a, b with
  | 8, .d (.int k x), .d (.int k' y) => (match decide (k = k') with | true => some (PD.of (x = y)) | false => none)
  | 7, .d (.str x), .d (.str y) => some (PD.of (x = y))
  | 9, .d (.bool x), .d (.bool y) => some (PD.of (x = y))
  | _, _, _ => none
/-- '==' of structs of numbers and texts, field by field -/
def eqFlds (T : Tab) (dx dy : List Dat) : List (Nat × TypeId) → Nat → Option PD
  | [], _ => some (PD.of True)
  | (off, ft) :: l, i => match tyAt ft T, fieldOf i dx, fieldOf i dy with
    | some fe, some a, some b => (match eqOne fe.kd a b, Nat.beq (prefixD i dx) off && Nat.beq (prefixD i dy) off with
      | some p, true => (match l with
        | [] => some p
        | _ :: _ => match eqFlds T dx dy l (i + 1) with
          | some q => some (p.and q)
          | none => none)
      | _, _ => none)
    | _, _, _ => none
def sxEq (op : BinOp) (p : PD) (K : Dat → Prop) (no : Prop) : Prop := match op with
  | .eql => K (.d (.prop p.p p.d))
  | .neq => K (.d (.prop (¬ p.p) (@instDecidableNot _ p.d)))
  | _ => no

/-- a field of a struct -/
def sxField (T : Tab) (t : TypeId) (x : Dat) (n : Nat) (K : Dat → Prop) (no : Prop) : Prop := withTy T t no fun e => withO e.flds[n]? no fun os => withTy T os.2 no fun fe => withO x.parts no fun ds => withO (fieldOf n ds) no fun d => withB (d.fits fe && Nat.beq (prefixD n ds) os.1 && e.agg) no (force d K)

end Go.Sx
