/- Rga. -/
import Derived.Test.YtjpmmkodoeipmaaGreatDoorrkAl
import Derived.WalkKit
namespace Go.Reg
open Go Go.RowKit
def Kb(w w':World):Prop:=∀k,k<w.heap.size->w'.heap[k]? =w.heap[k]?
theorem Kb.refl(w:World):Kb w w:=λ_ _=>rfl
theorem Kb.of_some {w w':World}(h:Kb w w') {k:Nat} {o:Obj}(hk:w.heap[k]? =some o):w'.heap[k]? =some o:=by
 rw[h k (Ak.1 hk).1];exact hk
theorem Kb.trans {a b c:World}(h:Kb a b)(k:Kb b c)(hs:a.heap.size<=b.heap.size):Kb a c:=
 λi hi=>(k i (by omega)).trans (h i hi)
def D7 {α:Type}(P:Program)(s:Sem α):Prop:=∀w a w1,s.run P w=.ok a w1->w1=w/\∀w2,s.run P w2=.ok a w2
def Pm {α:Type}(P:Program)(s:Sem α):Prop:=∀w a w1,s.run P w=.ok a w1->w1=w/\∀w2,Kb w w2->s.run P w2=.ok a w2
theorem D7.mono {α:Type} {P:Program} {s:Sem α}(h:D7 P s):Pm P s:=λw a w1 hr=>⟨(h w a w1 hr).1,λw2 _=>(h w a w1 hr).2 w2⟩
theorem AN {α:Type} {P:Program}(a:α):D7 P (pure a:Sem α):=λw b w1 h=>by
 simp at h;obtain⟨rfl,rfl⟩:=h;exact⟨rfl,λw2=>by simp⟩
theorem We {α:Type} {P:Program}(h:Halt):D7 P (Sem.halt h:Sem α):=λw b w1 hr=>by simp[Sem.run]at hr
theorem P8 {P:Program}:D7 P program:=λw b w1 h=>by
 simp[program,Sem.run]at h;obtain⟨rfl,rfl⟩:=h;exact⟨rfl,λw2=>by simp[program,Sem.run]⟩
theorem BP {α β:Type} {P:Program} {s:Sem α} {f:α->Sem β}(h:D7 P s)(hf:∀a,D7 P (f a)):D7 P (s>>=f):=by
 intro w b w1 hr
 rw[AK]at hr
 cases hs:s.run P w with
 |halt x w'=>rw[hs]at hr;simp at hr
 |
  ok a w'=>
  rw[hs]at hr
  obtain⟨rfl,h2⟩:=h w a w' hs
  obtain⟨rfl,h3⟩:=hf a _ b w1 hr
  exact⟨rfl,λw2=>by rw[AK,h2 w2];exact h3 w2⟩
theorem HO {α β:Type} {P:Program} {s:Sem α} {f:α->Sem β}(h:Pm P s)(hf:∀a,Pm P (f a)):Pm P (s>>=f):=by
 intro w b w1 hr
 rw[AK]at hr
 cases hs:s.run P w with
 |halt x w'=>rw[hs]at hr;simp at hr
 |
  ok a w'=>
  rw[hs]at hr
  obtain⟨rfl,h2⟩:=h w a w' hs
  obtain⟨rfl,h3⟩:=hf a _ b w1 hr
  exact⟨rfl,λw2 he=>by rw[AK,h2 w2 he];exact h3 w2 he⟩
theorem TQ {α:Type} {P:Program} {s:Sem α}(h:∀w a w1,s.run P w≠.ok a w1):D7 P s:=λw a w1 hr=>absurd hr (h w a w1)
theorem B4 {α:Type} {P:Program}(m:String):D7 P (stuck m:Sem α):=We _
theorem BF {α:Type} {P:Program}(m:Unsupported):D7 P (unsupported m:Sem α):=We _
theorem Ji {α β:Type} {P:Program} {s:Sem α} {f:α->Sem β}(hf:∀a w b w1,(f a).run P w≠.ok b w1):∀w b w1,(s>>=f).run P w≠.ok b w1:=by
 intro w b w1 hr
 rw[AK]at hr
 cases hs:s.run P w with
 |halt x w'=>rw[hs]at hr;simp at hr
 |ok a w'=>rw[hs]at hr;exact hf a _ b w1 hr
theorem Im {α:Type} {P:Program}(e:RuntimeError):∀w (a:α) w1,(runtimePanic e:Sem α).run P w≠.ok a w1:=by
 unfold runtimePanic
 apply Ji
 intro p w a w1 hr
 have g:∀(v:Value) w (a:α) w1,(goPanic v:Sem α).run P w≠.ok a w1:=λv w a w1 hh=>by simp[goPanic]at hh
 cases e<;>dsimp only at hr
 all_goals first
  |exact g _ _ _ _ hr
  |exact Ji (λ_=>g _) w a w1 hr
  |exact Ji (λ_=>Ji (λ_=>g _)) w a w1 hr
theorem Dn {α:Type} {P:Program}(e:RuntimeError):D7 P (runtimePanic e:Sem α):=TQ (Im e)
theorem Eb {α:Type} {P:Program}(k:IntKind)(x y:Int)(c:BoundsCode):D7 P (boundsPanic k x y c:Sem α):=
 TQ (by unfold boundsPanic;dsimp only;split<;>exact Ji (λ_=>Im _))
theorem Oa {P:Program}(t:TypeId):D7 P (typeInfo t):=by
 unfold typeInfo
 refine BP P8 λp=>?_
 split
 ·exact AN _
 ·exact B4 _
theorem Cq {P:Program}(t:TypeId):D7 P (underlying t):=by
 unfold underlying
 refine BP P8 λp=>?_
 split
 ·exact AN _
 ·exact B4 _
theorem Dd {P:Program}(t:TypeId):D7 P (sizeOf t):=by
 unfold sizeOf;exact BP (Oa _) λ_=>AN _
theorem Ja {P:Program}(t:TypeId):D7 P (zeroValue t):=by
 unfold zeroValue
 refine BP (Oa _) λi=>?_
 split
 ·exact AN _
 ·exact BF _
theorem TR {P:Program}(t:TypeId):D7 P (isAgg t):=by
 unfold isAgg
 refine BP (Cq _) λd=>?_
 split<;>exact AN _
theorem DG {P:Program}(v:Value):D7 P (asIntOf v):=by
 unfold asIntOf;split
 ·exact AN _
 ·exact BF _
 ·exact B4 _
theorem DL {P:Program}(v:Value):D7 P (asBool v):=by
 unfold asBool;split
 ·exact AN _
 ·exact B4 _
theorem E3 {P:Program}(v:Value):D7 P (asAgg v):=by
 unfold asAgg;split
 ·exact AN _
 ·exact B4 _
theorem CR {P:Program}(v:Value):D7 P (Instr.sureAddr v):=by
 unfold Instr.sureAddr;split
 ·exact AN _
 ·exact B4 _
theorem Ec {P:Program}(v:Value):D7 P (asAddr v):=by
 unfold asAddr;split
 ·exact AN _
 ·exact Dn _
 ·exact B4 _
theorem Fe {P:Program}(t:TypeId)(cs:Array Value)(off:Nat):D7 P (part t cs off):=by
 unfold part
 refine BP (TR _) λb=>?_
 split
 ·exact BP (Dd _) λ_=>AN _
 ·split
  ·exact AN _
  ·exact B4 _
def OP(P:Program)(s:TypeId):Bool:=
 match P.underlying s with
 |some (.struct fields)=>fields.all λf=>match P.info? f.type with|some i=>i.size !=0|none=>false
 |_=>false
theorem XF {P:Program} {s:TypeId}(hs:OP P s=true)(x:Value)(n:Nat):D7 P (Instr.fieldAt s x n):=by
 intro w a w1 hr
 have key:D7 P (Instr.fieldAt s x n):=by
  unfold OP at hs
  cases hu:P.underlying s with
  |none=>simp[hu]at hs
  |
   some d=>
   cases d with
   |
    struct fields=>
    simp[hu]at hs
    unfold Instr.fieldAt
    intro w a w1 hr
    have eu:∀w,(underlying s).run P w=.ok (.struct fields) w:=λw=>run_underlying hu w
    simp only[AK,eu,AF]at hr⊢
    cases hf:fields[n]? with
    |none=>simp[hf,stuck]at hr
    |
     some f=>
     simp only[hf]at hr⊢
     have hroom:=hs n (Ak.1 hf).1
     have hfe:fields[n]'(Ak.1 hf).1=f:=(Ak.1 hf).2
     rw[hfe]at hroom
     cases hi:P.info? f.type with
     |none=>simp[hi]at hroom
     |
      some i=>
      simp[hi]at hroom
      have es:∀w,(sizeOf f.type).run P w=.ok i.size w:=λw=>by simp[sizeOf,typeInfo,program,Sem.run,hi]
      have hp:∀(b:Addr),D7 P (fieldPlace b f):=λb w a w1 hr=>by
       unfold fieldPlace at hr⊢
       simp only[AK,es,AF,if_neg hroom,Bo]at hr⊢
       cases hr;exact⟨rfl,λ_=>rfl⟩
      exact BP (CR x) (λb=>BP (hp b) λc=>AN _) w a w1 hr
   |_=>simp[hu]at hs
 exact key w a w1 hr
theorem XE {P:Program}(t:TypeId)(x ix:Value):D7 P (Instr.indexAt t x ix):=by
 unfold Instr.indexAt
 repeat' (first|exact AN _|exact B4 _|exact BF _|exact Dn _|exact Eb _ _ _ _|exact DG _|exact DL _|exact E3 _|exact Ec _|exact CR _|exact Dd _|exact Cq _|exact Fe _ _ _|refine BP ?_ (λ_=>?_)|split|dsimp only[])
theorem gL {P:Program}(t:TypeId)(x:Value)(n:Nat):D7 P (Instr.field t x n):=by
 unfold Instr.field
 repeat' (first|exact AN _|exact B4 _|exact BF _|exact Dn _|exact Eb _ _ _ _|exact DG _|exact DL _|exact E3 _|exact Ec _|exact CR _|exact Dd _|exact Cq _|exact Fe _ _ _|refine BP ?_ (λ_=>?_)|split|dsimp only[])
theorem gK {P:Program}(t:TypeId)(x ix:Value):D7 P (Instr.index t x ix):=by
 unfold Instr.index
 repeat' (first|exact AN _|exact B4 _|exact BF _|exact Dn _|exact Eb _ _ _ _|exact DG _|exact DL _|exact E3 _|exact Ec _|exact CR _|exact Dd _|exact Cq _|exact Fe _ _ _|refine BP ?_ (λ_=>?_)|split|dsimp only[])
theorem XG {P:Program}(t:Value)(n:Nat):D7 P (Instr.extract t n):=by
 unfold Instr.extract
 repeat' (first|exact AN _|exact B4 _|exact BF _|exact Dn _|exact Eb _ _ _ _|exact DG _|exact DL _|exact E3 _|exact Ec _|exact CR _|exact Dd _|exact Cq _|exact Fe _ _ _|refine BP ?_ (λ_=>?_)|split|dsimp only[])
theorem Ou {P:Program}(t:TypeId)(x:Value):D7 P (Instr.makeInterface t x):=by
 unfold Instr.makeInterface
 repeat' (first|exact AN _|exact B4 _|exact BF _|exact Dn _|exact Eb _ _ _ _|exact DG _|exact DL _|exact E3 _|exact Ec _|exact CR _|exact Dd _|exact Cq _|exact Fe _ _ _|refine BP ?_ (λ_=>?_)|split|dsimp only[])
theorem Iz {P:Program}(x:Value)(y:Nat)(c:BoundsCode):D7 P (Instr.sliceBound x y c):=by
 unfold Instr.sliceBound
 repeat' (first|exact AN _|exact B4 _|exact BF _|exact Dn _|exact Eb _ _ _ _|exact DG _|exact DL _|exact E3 _|exact Ec _|exact CR _|exact Dd _|exact Cq _|exact Fe _ _ _|refine BP ?_ (λ_=>?_)|split|dsimp only[])
theorem Km {P:Program}(s:Bool)(n c:Nat)(l h m:Option Value):D7 P (Instr.sliceBounds s n c l h m):=by
 unfold Instr.sliceBounds
 repeat' (first|exact AN _|exact B4 _|exact BF _|exact Dn _|exact Eb _ _ _ _|exact DG _|exact DL _|exact E3 _|exact Ec _|exact CR _|exact Dd _|exact Cq _|exact Fe _ _ _|exact Iz _ _ _|refine BP ?_ (λ_=>?_)|split|dsimp only[])
theorem gI {P:Program}(t:TypeId)(x:Value)(l h m:Option Value):D7 P (Instr.slice t x l h m):=by
 unfold Instr.slice
 repeat' (first|exact AN _|exact B4 _|exact BF _|exact Dn _|exact Eb _ _ _ _|exact DG _|exact DL _|exact E3 _|exact Ec _|exact CR _|exact Dd _|exact Cq _|exact Fe _ _ _|exact Iz _ _ _|exact Km _ _ _ _ _ _|refine BP ?_ (λ_=>?_)|split|dsimp only[])
theorem XD {P:Program}(t:TypeId)(x:Value)(l h m:Option Value):D7 P (Instr.sliceAt t x l h m):=by
 unfold Instr.sliceAt
 repeat' (first|exact AN _|exact B4 _|exact BF _|exact Dn _|exact Eb _ _ _ _|exact DG _|exact DL _|exact E3 _|exact Ec _|exact CR _|exact Dd _|exact Cq _|exact Fe _ _ _|exact Iz _ _ _|exact Km _ _ _ _ _ _|exact gI _ _ _ _ _|refine BP ?_ (λ_=>?_)|split|dsimp only[])
theorem Od {P:Program}(op:BinOp)(k:IntKind)(x y:Int):D7 P (Op.intArith op k x y):=by
 unfold Op.intArith;split<;>first|exact AN _|exact B4 _
theorem Zw {P:Program}(op:BinOp)(x y:Int):D7 P (Op.intCmp op x y):=by
 unfold Op.intCmp;split<;>first|exact AN _|exact B4 _
theorem Zv {P:Program}(op:BinOp)(k:IntKind)(x y:Int):D7 P (Op.intDiv op k x y):=by
 unfold Op.intDiv
 repeat' (first|exact AN _|exact B4 _|exact BF _|exact Dn _|exact Eb _ _ _ _|exact DG _|exact DL _|exact E3 _|exact Ec _|exact CR _|exact Dd _|exact Cq _|exact Fe _ _ _|refine BP ?_ (λ_=>?_)|split|dsimp only[])
theorem VH {P:Program}(op:BinOp)(x y:ByteArray):D7 P (Op.stringOp op x y):=by
 unfold Op.stringOp
 repeat' (first|exact AN _|exact B4 _|exact BF _|exact Dn _|exact Eb _ _ _ _|exact DG _|exact DL _|exact E3 _|exact Ec _|exact CR _|exact Dd _|exact Cq _|exact Fe _ _ _|refine BP ?_ (λ_=>?_)|split|dsimp only[])
def N7:BinOp->Bool
 |.eql|.neq=>true
 |_=>false
def yF:BinOp->Bool
 |.shl|.shr=>false
 |_=>true
def F0(op:BinOp):Value->Value->Bool
 |.int _ _,.int _ _=>true
 |.string _,.string _=>true
 |.bool _,.bool _=>N7 op
 |.pointer none,.pointer _=>N7 op
 |.pointer (some _),.pointer none=>N7 op
 |.iface _ _,.nilIface=>N7 op
 |.slice none _ _,.slice _ _ _=>N7 op
 |.slice (some _) _ _,.slice none _ _=>N7 op
 |.map none,.map _=>N7 op
 |.map (some _),.map none=>N7 op
 |.nilFunc,.nilFunc=>N7 op
 |.func _ _ _,.nilFunc=>N7 op
 |_,_=>false
def Lp(op:BinOp)(x:Value)(y:Operand):Bool:=
 match x,y with
 |.nilIface,.const .nilIface=>N7 op
 |_,_=>false
def BG(a:Act)(o:Oper):Bool:=
 match o.op with
 |.nilCheck x=>(match a.eval x with|.func .. =>false|_=>true)
 |.binOp op _ x y _=>F0 op (a.eval x) (a.eval y)||Lp op (a.eval x) y
 |.convert _ _ x=>(match a.eval x with|.int .. =>true|_=>false)
 |_=>true
def DN(P:Program)(G:List FuncId)(o:Oper):Nat:=
 match o.op with
 |.move _|.assign _|.pick .. |.nilCheck _|.binOp .. |.unOp .. |.makeInterface .. |.makeFunc .. |.slice .. |.field .. |.index .. |.indexAddr .. |.extract .. =>0
 |.build t _=>(match P.underlying t with|some (.struct _)=>0|_=>3)
 |.fieldAddr s _ _=>if OP P s then 0 else 3
 |.convert _ d _=>(match P.underlying d with|some (.int _)=>0|_=>3)
 |.load .. =>1
 |.lookup .. =>5
 |
  .call c=>(match c.callee with
  |.builtin .len=>(match(c.argTypes[0]?).bind P.underlying with|some (.slice _)|some .string=>0|some (.map _ _)=>1|_=>9)
  |.value (.func f)=>if G.contains f then 2 else 3
  |.value (.tmp _)=>2
  |_=>3)
 |.alloc _|.box .. |.buildSlice .. |.makeMap _ none=>6
 |.makeSlice .. =>2
 |.select .. |.defer _|.go _=>9
 |_=>3
def El:Nat->Nat
 |0=>0|1=>1|5=>1|2=>2|6=>2|_=>3
def No:Exit->Act->World->Prop:=λ_ _ _=>False
section
variable {P:Program} {ops:Array Oper}
def RY(P:Program)(ops:Array Oper)(o:Oper)(K:Act->World->Prop)(a:Act)(w:World):Prop:=
 if Region.wanted o (yielded ops a.tmps)then o.wp P a w K No else K (a.put o.dst undef) w
def YR(P:Program)(ops:Array Oper)(o:Oper)(v:Value)(a:Act)(w:World):Prop:=
 (Region.wanted o (yielded ops a.tmps)=true/\∀w2,Kb w w2->(execOp a.eval o).run P w2=.ok (.value v) w2)\/
 (Region.wanted o (yielded ops a.tmps)=false/\v=undef)
def Wb(P:Program)(ops:Array Oper)(c:Nat)(o:Oper)(K:Act->World->Prop)(a:Act)(w:World):Prop:=
 match c with
 |0=>∃v,Yields P ops o v a/\K (a.put o.dst v) w
 |1=>∃v,YR P ops o v a w/\K (a.put o.dst v) w
 |2=>RY P ops o (λa' w'=>Kb w w'/\K a' w') a w
 |_=>RY P ops o K a w
theorem Oper.wp_imp {o:Oper} {a:Act} {w:World} {K K':Act->World->Prop} {Q:Exit->Act->World->Prop}(h:∀a w,K a w->K' a w)(hh:o.wp P a w K No):o.wp P a w K' Q:=by
 unfold Oper.wp at*
 generalize (execOp a.eval o).run P w=r at*
 cases r with
 |
  ok n w'=>
  cases n<;>simp only[Oper.upon]at hh⊢<;>
   first
    |exact h _ _ hh
    |exact Calls.mono hh (λe w'' he=>by cases e with|returned v=>exact h _ _ he|panicked c=>exact he.elim|outgrown=>obtain⟨_,_,f⟩:=he;exact f.elim)
    |exact Rows.mono hh (λ_ _ he=>h _ _ he)
 |halt x w'=>cases x<;>simp only[Oper.upon]at hh⊢<;>exact hh.elim
theorem IY {o:Oper} {a:Act} {w:World} {K K':Act->World->Prop}(h:∀a w,K a w->K' a w)(hh:RY P ops o K a w):RY P ops o K' a w:=by
 unfold RY at*
 split
 ·rename_i hw;rw[if_pos hw]at hh;exact Oper.wp_imp h hh
 ·rename_i hw;rw[if_neg hw]at hh;exact h _ _ hh
theorem vG {c:Nat} {o:Oper} {a:Act} {w:World} {K K':Act->World->Prop}(h:∀a w,K a w->K' a w)(hh:Wb P ops c o K a w):Wb P ops c o K' a w:=by
 unfold Wb at*
 split at hh
 ·obtain⟨v,h1,h2⟩:=hh;exact⟨v,h1,h _ _ h2⟩
 ·obtain⟨v,h1,h2⟩:=hh;exact⟨v,h1,h _ _ h2⟩
 ·exact IY (λa' w' ⟨h1,h2⟩=>⟨h1,h _ _ h2⟩) hh
 ·exact IY h hh
def Rel(o:Oper)(a a':Act):Prop:=∃u ds,a'=({a with defers:=ds}:Act).put o.dst u
theorem ADv {o:Oper} {a:Act} {w:World} {K:Act->World->Prop}(hh:o.wp P a w K No):o.wp P a w (λa' w'=>Rel o a a'/\K a' w') No:=by
 unfold Oper.wp at*
 generalize (execOp a.eval o).run P w=r at*
 cases r with
 |
  ok n w'=>
  cases n<;>simp only[Oper.upon]at hh⊢
  case value v=>exact⟨⟨v,_,rfl⟩,hh⟩
  case skip=>exact⟨⟨_,_,rfl⟩,hh⟩
  case defer d=>exact⟨⟨_,_,rfl⟩,hh⟩
  case enter f args=>exact Calls.mono hh (λe w'' he=>by cases e with|returned v=>exact⟨⟨v,_,rfl⟩,he⟩|panicked c=>exact he.elim|outgrown=>exact he)
  case row row args=>exact Rows.mono hh (λv _ he=>⟨⟨v,_,rfl⟩,he⟩)
 |halt x w'=>cases x<;>simp only[Oper.upon]at hh⊢<;>exact hh
theorem mI {o:Oper} {a:Act} {w:World} {K:Act->World->Prop}(hh:RY P ops o K a w):RY P ops o (λa' w'=>Rel o a a'/\K a' w') a w:=by
 unfold RY at*
 split
 ·rename_i hw;rw[if_pos hw]at hh;exact ADv hh
 ·rename_i hw;rw[if_neg hw]at hh;exact⟨⟨_,_,rfl⟩,hh⟩
theorem SO {o:Oper} {a:Act} {w:World} {K:Act->World->Prop}(hh:o.wp P a w K No):∃a' w',K a' w':=by
 unfold Oper.wp at*
 generalize (execOp a.eval o).run P w=r at*
 cases r with
 |
  ok n w'=>
  cases n<;>simp only[Oper.upon]at hh
  case value v=>exact⟨_,_,hh⟩
  case skip=>exact⟨_,_,hh⟩
  case defer d=>exact⟨_,_,hh⟩
  case enter f args=>
   obtain⟨e,w',fr,hR,_⟩:=hh []
   cases e with
   |returned v=>exact⟨_,_,hR⟩
   |panicked c=>exact hR.elim
   |outgrown=>obtain⟨_,_,f⟩:=hR;exact f.elim
  case row row args=>
   obtain⟨v,w',hR,_⟩:=hh default []
   exact⟨_,_,hR⟩
 |halt x w'=>cases x<;>simp only[Oper.upon]at hh<;>exact hh.elim
theorem vH {o:Oper} {a:Act} {w:World} {K:Act->World->Prop}(hh:RY P ops o K a w):∃a' w',K a' w':=by
 unfold RY at hh
 split at hh
 ·exact SO hh
 ·exact⟨_,_,hh⟩
theorem eU {x y:Oper}(h:x.apart ops y=true):
  (∀d,x.dst=some d->d∉y.looksAt ops)/\(∀d,x.dst=some d->y.dst≠some d)/\(∀d,y.dst=some d->d∉x.looksAt ops):=Oper.apart_spec h
section swap
variable {oi oj:Oper}(hsi:∀cs b,oi.op≠.select cs b)(hsj:∀cs b,oj.op≠.select cs b)
theorem cO(hsi:∀cs b,oi.op≠.select cs b)(h3:∀d,oj.dst=some d->d∉oi.looksAt ops) {a a':Act}(hr:Rel oj a a'):execOp a'.eval oi=execOp a.eval oi:=by
 obtain⟨u,ds,rfl⟩:=hr
 exact execOp_put oi hsi _ oj.dst u h3
theorem To(h3:∀d,oj.dst=some d->d∉oi.looksAt ops) {a a':Act}(hr:Rel oj a a'):Region.wanted oi (yielded ops a'.tmps)=Region.wanted oi (yielded ops a.tmps):=by
 obtain⟨u,ds,rfl⟩:=hr
 exact wanted_put oi _ oj.dst u h3
theorem Gb(hsi:∀cs b,oi.op≠.select cs b)(h3:∀d,oj.dst=some d->d∉oi.looksAt ops) {a a':Act} {v:Value}(hr:Rel oj a a'):Yields P ops oi v a'↔Yields P ops oi v a:=by
 unfold Yields;rw[cO hsi h3 hr,To h3 hr]
theorem Tj(hsi:∀cs b,oi.op≠.select cs b)(h3:∀d,oj.dst=some d->d∉oi.looksAt ops) {a a':Act} {v:Value} {w:World}(hr:Rel oj a a'):YR P ops oi v a' w↔YR P ops oi v a w:=by
 unfold YR;rw[cO hsi h3 hr,To h3 hr]
theorem JA(o:Oper)(a:Act)(v:Value):Rel o a (a.put o.dst v):=⟨v,a.defers,rfl⟩
theorem mJ(hsj:∀cs b,oj.op≠.select cs b)(h1:∀d,oi.dst=some d->d∉oj.looksAt ops)(h2:∀d,oi.dst=some d->oj.dst≠some d) {K:Act->World->Prop} {a:Act} {w:World} {v:Value}:
  RY P ops oj K (a.put oi.dst v) w↔RY P ops oj (λa' w'=>K (a'.put oi.dst v) w') a w:=by
 have c:∀(b:Act) (u:Value),(b.put oj.dst u).put oi.dst v=(b.put oi.dst v).put oj.dst u:=λb u=>(Act.put_comm b v u h2).symm
 unfold RY
 rw[wanted_put oj a oi.dst v h1]
 split
 ·unfold Oper.wp
  rw[execOp_put oj hsj a oi.dst v h1]
  generalize (execOp a.eval oj).run P w=r
  cases r with
  |
   ok n w'=>
   cases n<;>simp only[Oper.upon]
   case value u=>rw[c]
   case skip=>rw[c]
   case defer d=>
    have e:(({a.put oi.dst v with defers:=d::(a.put oi.dst v).defers}:Act).put oj.dst undef)=(({a with defers:=d::a.defers}:Act).put oj.dst undef).put oi.dst v:=by rw[c,Act.put_defers]
    rw[<-e]
   case enter f args=>
    constructor
    ·intro h
     refine Calls.mono h λe w'' he=>?_
     cases e with
     |returned u=>show K _ _;rw[c];exact he
     |panicked c=>exact he
     |outgrown=>exact he
    ·intro h
     refine Calls.mono h λe w'' he=>?_
     cases e with
     |returned u=>show K _ _;rw[<-c];exact he
     |panicked c=>exact he
     |outgrown=>exact he
   case row row args=>
    constructor
    ·intro h
     refine Rows.mono h λu w'' he=>?_
     show K _ _
     rw[c];exact he
    ·intro h
     refine Rows.mono h λu w'' he=>?_
     show K _ _
     rw[<-c];exact he
  |halt x w'=>cases x<;>simp only[Oper.upon]<;>exact SD
 ·show K _ _↔K _ _
  rw[c]
theorem fM {o:Oper} {a:Act} {u v:Value}(h:Yields P ops o u a)(h':Yields P ops o v a):u=v:=by
 rcases h with⟨hw,h⟩|⟨hw,rfl⟩<;>rcases h' with⟨hw',h'⟩|⟨hw',rfl⟩
 ·have:=(h default).symm.trans (h' default);simpa using this
 ·rw[hw]at hw';cases hw'
 ·rw[hw]at hw';cases hw'
 ·rfl
def cC(ci cj:Nat):Bool:=ci==0||cj==0||(ci==1&&(cj==1||cj==2))
theorem oD(k:Nat):El k<=3:=by unfold El;split<;>omega
theorem swap(hsi:∀cs b,oi.op≠.select cs b)(hsj:∀cs b,oj.op≠.select cs b)(hap:oi.apart ops oj=true) {ci cj:Nat}(hi3:ci<=3)(hj3:cj<=3)(hf:cC ci cj=true) {K:Act->World->Prop} {a:Act} {w:World}
  (h:Wb P ops ci oi (Wb P ops cj oj K) a w):Wb P ops cj oj (Wb P ops ci oi K) a w:=by
 obtain⟨h1,h2,h3⟩:=eU hap
 have h2':∀d,oj.dst=some d->oi.dst≠some d:=λd hd he=>h2 d he hd
 have comm:∀(b:Act) (u v:Value),(b.put oi.dst v).put oj.dst u=(b.put oj.dst u).put oi.dst v:=λb u v=>Act.put_comm b v u h2
 have back:∀(v:Value) (K':Act->World->Prop),RY P ops oj K' (a.put oi.dst v) w->RY P ops oj (λa' w'=>Rel oj a a'/\K' (a'.put oi.dst v) w') a w:=λv K' hh=>mI ((mJ hsj h1 h2).1 hh)
 have fore:∀(K':Act->World->Prop),RY P ops oi (λa' w'=>∃v,Yields P ops oj v a'/\K' (a'.put oj.dst v) w') a w->∃v,Yields P ops oj v a/\RY P ops oi K' (a.put oj.dst v) w:=λK' hh=>by
  have hh':=mI hh
  obtain⟨a',w',hr,v,hy,_⟩:=vH hh'
  have hy0:=(Gb hsj h1 hr).1 hy
  refine⟨v,hy0,(mJ hsi h3 h2').2 (IY ?_ hh')⟩
  rintro a'' w'' ⟨hr'',u,hu,hk⟩
  have:u=v:=fM ((Gb hsj h1 hr'').1 hu) hy0
  subst this
  exact hk
 have foreR:∀(K':Act->World->Prop),RY P ops oi (λa' w'=>∃v,Yields P ops oj v a'/\K' (a'.put oj.dst v) w') a w->∃v,Yields P ops oj v a/\RY P ops oi K' (a.put oj.dst v) w:=fore
 have i0:ci=0\/ci=1\/ci=2\/ci=3:=by omega
 have j0:cj=0\/cj=1\/cj=2\/cj=3:=by omega
 rcases i0 with rfl|rfl|rfl|rfl<;>rcases j0 with rfl|rfl|rfl|rfl<;>first|(exfalso;revert hf;decide)|skip
 all_goals simp only[Wb]at h⊢
 ·obtain⟨v,hv,u,hu,hk⟩:=h
  exact⟨u,(Gb hsj h1 (JA oi a v)).1 hu,v,(Gb hsi h3 (JA oj a u)).2 hv,by rw[<-comm];exact hk⟩
 ·obtain⟨v,hv,u,hu,hk⟩:=h
  exact⟨u,(Tj hsj h1 (JA oi a v)).1 hu,v,(Gb hsi h3 (JA oj a u)).2 hv,by rw[<-comm];exact hk⟩
 ·obtain⟨v,hv,hk⟩:=h
  exact IY (λa' w' ⟨hr,he,hk⟩=>⟨he,v,(Gb hsi h3 hr).2 hv,hk⟩) (back v _ hk)
 ·obtain⟨v,hv,hk⟩:=h
  exact IY (λa' w' ⟨hr,hk⟩=>⟨v,(Gb hsi h3 hr).2 hv,hk⟩) (back v _ hk)
 ·obtain⟨v,hv,u,hu,hk⟩:=h
  exact⟨u,(Gb hsj h1 (JA oi a v)).1 hu,v,(Tj hsi h3 (JA oj a u)).2 hv,by rw[<-comm];exact hk⟩
 ·obtain⟨v,hv,u,hu,hk⟩:=h
  exact⟨u,(Tj hsj h1 (JA oi a v)).1 hu,v,(Tj hsi h3 (JA oj a u)).2 hv,by rw[<-comm];exact hk⟩
 ·obtain⟨v,hv,hk⟩:=h
  refine IY (λa' w' ⟨hr,he,hk⟩=>⟨he,v,(Tj hsi h3 hr).2 ?_,hk⟩) (back v _ hk)
  rcases hv with⟨hw,hv⟩|hv
  ·refine .inl ⟨hw,λw2 h2=>hv w2 ?_⟩
   intro k hk
   rw[h2 k,he k hk]
   have:=he k hk
   rw[BS hk]at this
   exact(Ak.1 this).1
  ·exact .inr hv
 ·exact(fore (λa' w'=>Kb w w'/\K a' w') (IY (λa' w' ⟨he,v,hv,hk⟩=>⟨v,hv,he,hk⟩) h))
 ·exact fore K h
end swap
end
end Go.Reg
