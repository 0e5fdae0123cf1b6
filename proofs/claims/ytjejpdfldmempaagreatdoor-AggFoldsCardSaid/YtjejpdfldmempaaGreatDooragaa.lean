/- Rga. -/
import Derived.Test.YtjejpdfldmempaaGreatDooragAl
import Derived.WalkKit
namespace Go.Reg
open Go Go.RowKit
def GZ(w w':World):Prop:=∀k,k<w.heap.size->w'.heap[k]? =w.heap[k]?
theorem GZ.refl(w:World):GZ w w:=λ_ _=>rfl
theorem GZ.of_some {w w':World}(h:GZ w w') {k:Nat} {o:Obj}(hk:w.heap[k]? =some o):w'.heap[k]? =some o:=by
 rw[h k (Ae.1 hk).1];exact hk
theorem GZ.trans {a b c:World}(h:GZ a b)(k:GZ b c)(hs:a.heap.size<=b.heap.size):GZ a c:=
 λi hi=>(k i (by omega)).trans (h i hi)
def BY {α:Type}(P:Program)(s:Sem α):Prop:=∀w a w1,s.run P w=.ok a w1->w1=w/\∀w2,s.run P w2=.ok a w2
def IP {α:Type}(P:Program)(s:Sem α):Prop:=∀w a w1,s.run P w=.ok a w1->w1=w/\∀w2,GZ w w2->s.run P w2=.ok a w2
theorem BY.mono {α:Type} {P:Program} {s:Sem α}(h:BY P s):IP P s:=λw a w1 hr=>⟨(h w a w1 hr).1,λw2 _=>(h w a w1 hr).2 w2⟩
theorem As {α:Type} {P:Program}(a:α):BY P (pure a:Sem α):=λw b w1 h=>by
 simp at h;obtain⟨rfl,rfl⟩:=h;exact⟨rfl,λw2=>by simp⟩
theorem N0 {α:Type} {P:Program}(h:Halt):BY P (Sem.halt h:Sem α):=λw b w1 hr=>by simp[Sem.run]at hr
theorem Je {P:Program}:BY P program:=λw b w1 h=>by
 simp[program,Sem.run]at h;obtain⟨rfl,rfl⟩:=h;exact⟨rfl,λw2=>by simp[program,Sem.run]⟩
theorem AS {α β:Type} {P:Program} {s:Sem α} {f:α->Sem β}(h:BY P s)(hf:∀a,BY P (f a)):BY P (s>>=f):=by
 intro w b w1 hr
 rw[Ar]at hr
 cases hs:s.run P w with
 |halt x w'=>rw[hs]at hr;simp at hr
 |
  ok a w'=>
  rw[hs]at hr
  obtain⟨rfl,h2⟩:=h w a w' hs
  obtain⟨rfl,h3⟩:=hf a _ b w1 hr
  exact⟨rfl,λw2=>by rw[Ar,h2 w2];exact h3 w2⟩
theorem E5 {α β:Type} {P:Program} {s:Sem α} {f:α->Sem β}(h:IP P s)(hf:∀a,IP P (f a)):IP P (s>>=f):=by
 intro w b w1 hr
 rw[Ar]at hr
 cases hs:s.run P w with
 |halt x w'=>rw[hs]at hr;simp at hr
 |
  ok a w'=>
  rw[hs]at hr
  obtain⟨rfl,h2⟩:=h w a w' hs
  obtain⟨rfl,h3⟩:=hf a _ b w1 hr
  exact⟨rfl,λw2 he=>by rw[Ar,h2 w2 he];exact h3 w2 he⟩
theorem LD {α:Type} {P:Program} {s:Sem α}(h:∀w a w1,s.run P w≠.ok a w1):BY P s:=λw a w1 hr=>absurd hr (h w a w1)
theorem AE {α:Type} {P:Program}(m:String):BY P (stuck m:Sem α):=N0 _
theorem AJ {α:Type} {P:Program}(m:Unsupported):BY P (unsupported m:Sem α):=N0 _
theorem Fs {α β:Type} {P:Program} {s:Sem α} {f:α->Sem β}(hf:∀a w b w1,(f a).run P w≠.ok b w1):∀w b w1,(s>>=f).run P w≠.ok b w1:=by
 intro w b w1 hr
 rw[Ar]at hr
 cases hs:s.run P w with
 |halt x w'=>rw[hs]at hr;simp at hr
 |ok a w'=>rw[hs]at hr;exact hf a _ b w1 hr
theorem EH {α:Type} {P:Program}(e:RuntimeError):∀w (a:α) w1,(runtimePanic e:Sem α).run P w≠.ok a w1:=by
 unfold runtimePanic
 apply Fs
 intro p w a w1 hr
 have g:∀(v:Value) w (a:α) w1,(goPanic v:Sem α).run P w≠.ok a w1:=λv w a w1 hh=>by simp[goPanic]at hh
 cases e<;>dsimp only at hr
 all_goals first
  |exact g _ _ _ _ hr
  |exact Fs (λ_=>g _) w a w1 hr
  |exact Fs (λ_=>Fs (λ_=>g _)) w a w1 hr
theorem BJ {α:Type} {P:Program}(e:RuntimeError):BY P (runtimePanic e:Sem α):=LD (EH e)
theorem Cv {α:Type} {P:Program}(k:IntKind)(x y:Int)(c:BoundsCode):BY P (boundsPanic k x y c:Sem α):=
 LD (by unfold boundsPanic;dsimp only;split<;>exact Fs (λ_=>EH _))
theorem I2 {P:Program}(t:TypeId):BY P (typeInfo t):=by
 unfold typeInfo
 refine AS Je λp=>?_
 split
 ·exact As _
 ·exact AE _
theorem Be {P:Program}(t:TypeId):BY P (underlying t):=by
 unfold underlying
 refine AS Je λp=>?_
 split
 ·exact As _
 ·exact AE _
theorem BE {P:Program}(t:TypeId):BY P (sizeOf t):=by
 unfold sizeOf;exact AS (I2 _) λ_=>As _
theorem Fm {P:Program}(t:TypeId):BY P (zeroValue t):=by
 unfold zeroValue
 refine AS (I2 _) λi=>?_
 split
 ·exact As _
 ·exact AJ _
theorem LF {P:Program}(t:TypeId):BY P (isAgg t):=by
 unfold isAgg
 refine AS (Be _) λd=>?_
 split<;>exact As _
theorem Cb {P:Program}(v:Value):BY P (asIntOf v):=by
 unfold asIntOf;split
 ·exact As _
 ·exact AJ _
 ·exact AE _
theorem Ck {P:Program}(v:Value):BY P (asBool v):=by
 unfold asBool;split
 ·exact As _
 ·exact AE _
theorem CF {P:Program}(v:Value):BY P (asAgg v):=by
 unfold asAgg;split
 ·exact As _
 ·exact AE _
theorem B3 {P:Program}(v:Value):BY P (Instr.sureAddr v):=by
 unfold Instr.sureAddr;split
 ·exact As _
 ·exact AE _
theorem Cw {P:Program}(v:Value):BY P (asAddr v):=by
 unfold asAddr;split
 ·exact As _
 ·exact BJ _
 ·exact AE _
theorem CY {P:Program}(t:TypeId)(cs:Array Value)(C9:Nat):BY P (part t cs C9):=by
 unfold part
 refine AS (LF _) λb=>?_
 split
 ·exact AS (BE _) λ_=>As _
 ·split
  ·exact As _
  ·exact AE _
def IK(P:Program)(s:TypeId):Bool:=
 match P.underlying s with
 |some (.struct fields)=>fields.all λf=>match P.info? f.type with|some i=>i.size !=0|none=>false
 |_=>false
theorem O1 {P:Program} {s:TypeId}(hs:IK P s=true)(x:Value)(n:Nat):BY P (Instr.fieldAt s x n):=by
 intro w a w1 hr
 have key:BY P (Instr.fieldAt s x n):=by
  unfold IK at hs
  cases hu:P.underlying s with
  |none=>simp[hu]at hs
  |
   some d=>
   cases d with
   |
    struct fields=>
    simp[hu]at hs
    unfold Instr.fieldAt
    intro w a w1 hr
    have eu:∀w,(underlying s).run P w=.ok (.struct fields) w:=λw=>run_underlying hu w
    simp only[Ar,eu,Ap]at hr⊢
    cases hf:fields[n]? with
    |none=>simp[hf,stuck]at hr
    |
     some f=>
     simp only[hf]at hr⊢
     have hroom:=hs n (Ae.1 hf).1
     have hfe:fields[n]'(Ae.1 hf).1=f:=(Ae.1 hf).2
     rw[hfe]at hroom
     cases hi:P.info? f.type with
     |none=>simp[hi]at hroom
     |
      some i=>
      simp[hi]at hroom
      have es:∀w,(sizeOf f.type).run P w=.ok i.size w:=λw=>by simp[sizeOf,typeInfo,program,Sem.run,hi]
      have hp:∀(b:Addr),BY P (fieldPlace b f):=λb w a w1 hr=>by
       unfold fieldPlace at hr⊢
       simp only[Ar,es,Ap,if_neg hroom,AH]at hr⊢
       cases hr;exact⟨rfl,λ_=>rfl⟩
      exact AS (B3 x) (λb=>AS (hp b) λc=>As _) w a w1 hr
   |_=>simp[hu]at hs
 exact key w a w1 hr
theorem O0 {P:Program}(t:TypeId)(x ix:Value):BY P (Instr.indexAt t x ix):=by
 unfold Instr.indexAt
 repeat' (first|exact As _|exact AE _|exact AJ _|exact BJ _|exact Cv _ _ _ _|exact Cb _|exact Ck _|exact CF _|exact Cw _|exact B3 _|exact BE _|exact Be _|exact CY _ _ _|refine AS ?_ (λ_=>?_)|split|dsimp only[])
theorem Rl {P:Program}(t:TypeId)(x:Value)(n:Nat):BY P (Instr.field t x n):=by
 unfold Instr.field
 repeat' (first|exact As _|exact AE _|exact AJ _|exact BJ _|exact Cv _ _ _ _|exact Cb _|exact Ck _|exact CF _|exact Cw _|exact B3 _|exact BE _|exact Be _|exact CY _ _ _|refine AS ?_ (λ_=>?_)|split|dsimp only[])
theorem Rk {P:Program}(t:TypeId)(x ix:Value):BY P (Instr.index t x ix):=by
 unfold Instr.index
 repeat' (first|exact As _|exact AE _|exact AJ _|exact BJ _|exact Cv _ _ _ _|exact Cb _|exact Ck _|exact CF _|exact Cw _|exact B3 _|exact BE _|exact Be _|exact CY _ _ _|refine AS ?_ (λ_=>?_)|split|dsimp only[])
theorem O2 {P:Program}(t:Value)(n:Nat):BY P (Instr.extract t n):=by
 unfold Instr.extract
 repeat' (first|exact As _|exact AE _|exact AJ _|exact BJ _|exact Cv _ _ _ _|exact Cb _|exact Ck _|exact CF _|exact Cw _|exact B3 _|exact BE _|exact Be _|exact CY _ _ _|refine AS ?_ (λ_=>?_)|split|dsimp only[])
theorem IB {P:Program}(t:TypeId)(x:Value):BY P (Instr.makeInterface t x):=by
 unfold Instr.makeInterface
 repeat' (first|exact As _|exact AE _|exact AJ _|exact BJ _|exact Cv _ _ _ _|exact Cb _|exact Ck _|exact CF _|exact Cw _|exact B3 _|exact BE _|exact Be _|exact CY _ _ _|refine AS ?_ (λ_=>?_)|split|dsimp only[])
theorem EL {P:Program}(x:Value)(y:Nat)(c:BoundsCode):BY P (Instr.sliceBound x y c):=by
 unfold Instr.sliceBound
 repeat' (first|exact As _|exact AE _|exact AJ _|exact BJ _|exact Cv _ _ _ _|exact Cb _|exact Ck _|exact CF _|exact Cw _|exact B3 _|exact BE _|exact Be _|exact CY _ _ _|refine AS ?_ (λ_=>?_)|split|dsimp only[])
theorem FY {P:Program}(s:Bool)(n c:Nat)(l h m:Option Value):BY P (Instr.sliceBounds s n c l h m):=by
 unfold Instr.sliceBounds
 repeat' (first|exact As _|exact AE _|exact AJ _|exact BJ _|exact Cv _ _ _ _|exact Cb _|exact Ck _|exact CF _|exact Cw _|exact B3 _|exact BE _|exact Be _|exact CY _ _ _|exact EL _ _ _|refine AS ?_ (λ_=>?_)|split|dsimp only[])
theorem Ri {P:Program}(t:TypeId)(x:Value)(l h m:Option Value):BY P (Instr.slice t x l h m):=by
 unfold Instr.slice
 repeat' (first|exact As _|exact AE _|exact AJ _|exact BJ _|exact Cv _ _ _ _|exact Cb _|exact Ck _|exact CF _|exact Cw _|exact B3 _|exact BE _|exact Be _|exact CY _ _ _|exact EL _ _ _|exact FY _ _ _ _ _ _|refine AS ?_ (λ_=>?_)|split|dsimp only[])
theorem Oz {P:Program}(t:TypeId)(x:Value)(l h m:Option Value):BY P (Instr.sliceAt t x l h m):=by
 unfold Instr.sliceAt
 repeat' (first|exact As _|exact AE _|exact AJ _|exact BJ _|exact Cv _ _ _ _|exact Cb _|exact Ck _|exact CF _|exact Cw _|exact B3 _|exact BE _|exact Be _|exact CY _ _ _|exact EL _ _ _|exact FY _ _ _ _ _ _|exact Ri _ _ _ _ _|refine AS ?_ (λ_=>?_)|split|dsimp only[])
theorem I3 {P:Program}(op:BinOp)(k:IntKind)(x y:Int):BY P (Op.intArith op k x y):=by
 unfold Op.intArith;split<;>first|exact As _|exact AE _
theorem PA {P:Program}(op:BinOp)(x y:Int):BY P (Op.intCmp op x y):=by
 unfold Op.intCmp;split<;>first|exact As _|exact AE _
theorem P9 {P:Program}(op:BinOp)(k:IntKind)(x y:Int):BY P (Op.intDiv op k x y):=by
 unfold Op.intDiv
 repeat' (first|exact As _|exact AE _|exact AJ _|exact BJ _|exact Cv _ _ _ _|exact Cb _|exact Ck _|exact CF _|exact Cw _|exact B3 _|exact BE _|exact Be _|exact CY _ _ _|refine AS ?_ (λ_=>?_)|split|dsimp only[])
theorem Nd {P:Program}(op:BinOp)(x y:ByteArray):BY P (Op.stringOp op x y):=by
 unfold Op.stringOp
 repeat' (first|exact As _|exact AE _|exact AJ _|exact BJ _|exact Cv _ _ _ _|exact Cb _|exact Ck _|exact CF _|exact Cw _|exact B3 _|exact BE _|exact Be _|exact CY _ _ _|refine AS ?_ (λ_=>?_)|split|dsimp only[])
def Iy:BinOp->Bool
 |.eql|.neq=>true
 |_=>false
def Vl:BinOp->Bool
 |.shl|.shr=>false
 |_=>true
def Dk(op:BinOp):Value->Value->Bool
 |.int _ _,.int _ _=>true
 |.string _,.string _=>true
 |.bool _,.bool _=>Iy op
 |.pointer none,.pointer _=>Iy op
 |.pointer (some _),.pointer none=>Iy op
 |.iface _ _,.nilIface=>Iy op
 |.slice none _ _,.slice _ _ _=>Iy op
 |.slice (some _) _ _,.slice none _ _=>Iy op
 |.map none,.map _=>Iy op
 |.map (some _),.map none=>Iy op
 |.nilFunc,.nilFunc=>Iy op
 |.func _ _ _,.nilFunc=>Iy op
 |_,_=>false
def GH(op:BinOp)(x:Value)(y:Operand):Bool:=
 match x,y with
 |.nilIface,.const .nilIface=>Iy op
 |_,_=>false
def AU(a:Act)(o:Oper):Bool:=
 match o.op with
 |.nilCheck x=>(match a.eval x with|.func .. =>false|_=>true)
 |.binOp op _ x y _=>Dk op (a.eval x) (a.eval y)||GH op (a.eval x) y
 |.convert _ _ x=>(match a.eval x with|.int .. =>true|_=>false)
 |_=>true
def Cp(P:Program)(G:List FuncId)(o:Oper):Nat:=
 match o.op with
 |.move _|.assign _|.pick .. |.nilCheck _|.binOp .. |.unOp .. |.makeInterface .. |.makeFunc .. |.slice .. |.field .. |.index .. |.indexAddr .. |.extract .. =>0
 |.build t _=>(match P.underlying t with|some (.struct _)=>0|_=>3)
 |.fieldAddr s _ _=>if IK P s then 0 else 3
 |.convert _ d _=>(match P.underlying d with|some (.int _)=>0|_=>3)
 |.load .. =>1
 |.lookup .. =>5
 |
  .call c=>(match c.callee with
  |.builtin .len=>(match(c.argTypes[0]?).bind P.underlying with|some (.slice _)|some .string=>0|some (.map _ _)=>1|_=>9)
  |.value (.func f)=>if G.contains f then 2 else 3
  |.value (.tmp _)=>2
  |_=>3)
 |.alloc _|.box .. |.buildSlice .. |.makeMap _ none=>6
 |.makeSlice .. =>2
 |.select .. |.defer _|.go _=>9
 |_=>3
def C4:Nat->Nat
 |0=>0|1=>1|5=>1|2=>2|6=>2|_=>3
def No:Exit->Act->World->Prop:=λ_ _ _=>False
section
variable {P:Program} {ops:Array Oper}
def Kw(P:Program)(ops:Array Oper)(o:Oper)(K:Act->World->Prop)(a:Act)(w:World):Prop:=
 if Region.wanted o (yielded ops a.tmps)then o.wp P a w K No else K (a.put o.dst undef) w
def YR(P:Program)(ops:Array Oper)(o:Oper)(v:Value)(a:Act)(w:World):Prop:=
 (Region.wanted o (yielded ops a.tmps)=true/\∀w2,GZ w w2->(execOp a.eval o).run P w2=.ok (.value v) w2)\/
 (Region.wanted o (yielded ops a.tmps)=false/\v=undef)
def Nz(P:Program)(ops:Array Oper)(c:Nat)(o:Oper)(K:Act->World->Prop)(a:Act)(w:World):Prop:=
 match c with
 |0=>∃v,Yields P ops o v a/\K (a.put o.dst v) w
 |1=>∃v,YR P ops o v a w/\K (a.put o.dst v) w
 |2=>Kw P ops o (λa' w'=>GZ w w'/\K a' w') a w
 |_=>Kw P ops o K a w
theorem Oper.wp_imp {o:Oper} {a:Act} {w:World} {K K':Act->World->Prop} {Q:Exit->Act->World->Prop}(h:∀a w,K a w->K' a w)(hh:o.wp P a w K No):o.wp P a w K' Q:=by
 unfold Oper.wp at*
 generalize (execOp a.eval o).run P w=r at*
 cases r with
 |
  ok n w'=>
  cases n<;>simp only[Oper.upon]at hh⊢<;>
   first
    |exact h _ _ hh
    |exact We hh (λe w'' he=>by cases e with|returned v=>exact h _ _ he|panicked c=>exact he.elim|outgrown=>obtain⟨_,_,f⟩:=he;exact f.elim)
    |exact Rows.mono hh (λ_ _ he=>h _ _ he)
 |halt x w'=>cases x<;>simp only[Oper.upon]at hh⊢<;>exact hh.elim
theorem Fl {o:Oper} {a:Act} {w:World} {K K':Act->World->Prop}(h:∀a w,K a w->K' a w)(hh:Kw P ops o K a w):Kw P ops o K' a w:=by
 unfold Kw at*
 split
 ·rename_i hw;rw[if_pos hw]at hh;exact Oper.wp_imp h hh
 ·rename_i hw;rw[if_neg hw]at hh;exact h _ _ hh
theorem UA {c:Nat} {o:Oper} {a:Act} {w:World} {K K':Act->World->Prop}(h:∀a w,K a w->K' a w)(hh:Nz P ops c o K a w):Nz P ops c o K' a w:=by
 unfold Nz at*
 split at hh
 ·obtain⟨v,h1,h2⟩:=hh;exact⟨v,h1,h _ _ h2⟩
 ·obtain⟨v,h1,h2⟩:=hh;exact⟨v,h1,h _ _ h2⟩
 ·exact Fl (λa' w' ⟨h1,h2⟩=>⟨h1,h _ _ h2⟩) hh
 ·exact Fl h hh
def XA(o:Oper)(a a':Act):Prop:=∃u ds,a'=({a with defers:=ds}:Act).put o.dst u
theorem XN {o:Oper} {a:Act} {w:World} {K:Act->World->Prop}(hh:o.wp P a w K No):o.wp P a w (λa' w'=>XA o a a'/\K a' w') No:=by
 unfold Oper.wp at*
 generalize (execOp a.eval o).run P w=r at*
 cases r with
 |
  ok n w'=>
  cases n<;>simp only[Oper.upon]at hh⊢
  case value v=>exact⟨⟨v,_,rfl⟩,hh⟩
  case skip=>exact⟨⟨_,_,rfl⟩,hh⟩
  case defer d=>exact⟨⟨_,_,rfl⟩,hh⟩
  case enter f args=>exact We hh (λe w'' he=>by cases e with|returned v=>exact⟨⟨v,_,rfl⟩,he⟩|panicked c=>exact he.elim|outgrown=>exact he)
  case row row args=>exact Rows.mono hh (λv _ he=>⟨⟨v,_,rfl⟩,he⟩)
 |halt x w'=>cases x<;>simp only[Oper.upon]at hh⊢<;>exact hh
theorem RY {o:Oper} {a:Act} {w:World} {K:Act->World->Prop}(hh:Kw P ops o K a w):Kw P ops o (λa' w'=>XA o a a'/\K a' w') a w:=by
 unfold Kw at*
 split
 ·rename_i hw;rw[if_pos hw]at hh;exact XN hh
 ·rename_i hw;rw[if_neg hw]at hh;exact⟨⟨_,_,rfl⟩,hh⟩
theorem Ld {o:Oper} {a:Act} {w:World} {K:Act->World->Prop}(hh:o.wp P a w K No):∃a' w',K a' w':=by
 unfold Oper.wp at*
 generalize (execOp a.eval o).run P w=r at*
 cases r with
 |
  ok n w'=>
  cases n<;>simp only[Oper.upon]at hh
  case value v=>exact⟨_,_,hh⟩
  case skip=>exact⟨_,_,hh⟩
  case defer d=>exact⟨_,_,hh⟩
  case enter f args=>
   obtain⟨e,w',fr,hR,_⟩:=hh []
   cases e with
   |returned v=>exact⟨_,_,hR⟩
   |panicked c=>exact hR.elim
   |outgrown=>obtain⟨_,_,f⟩:=hR;exact f.elim
  case row row args=>
   obtain⟨v,w',hR,_⟩:=hh default []
   exact⟨_,_,hR⟩
 |halt x w'=>cases x<;>simp only[Oper.upon]at hh<;>exact hh.elim
theorem UB {o:Oper} {a:Act} {w:World} {K:Act->World->Prop}(hh:Kw P ops o K a w):∃a' w',K a' w':=by
 unfold Kw at hh
 split at hh
 ·exact Ld hh
 ·exact⟨_,_,hh⟩
theorem QG {x y:Oper}(h:x.apart ops y=true):
  (∀d,x.dst=some d->d∉y.looksAt ops)/\(∀d,x.dst=some d->y.dst≠some d)/\(∀d,y.dst=some d->d∉x.looksAt ops):=Oper.apart_spec h
section swap
variable {oi oj:Oper}(hsi:∀cs b,oi.op≠.select cs b)(hsj:∀cs b,oj.op≠.select cs b)
theorem Q1(hsi:∀cs b,oi.op≠.select cs b)(h3:∀d,oj.dst=some d->d∉oi.looksAt ops) {a a':Act}(hr:XA oj a a'):execOp a'.eval oi=execOp a.eval oi:=by
 obtain⟨u,ds,rfl⟩:=hr
 exact execOp_put oi hsi _ oj.dst u h3
theorem L0(h3:∀d,oj.dst=some d->d∉oi.looksAt ops) {a a':Act}(hr:XA oj a a'):Region.wanted oi (yielded ops a'.tmps)=Region.wanted oi (yielded ops a.tmps):=by
 obtain⟨u,ds,rfl⟩:=hr
 exact wanted_put oi _ oj.dst u h3
theorem D2(hsi:∀cs b,oi.op≠.select cs b)(h3:∀d,oj.dst=some d->d∉oi.looksAt ops) {a a':Act} {v:Value}(hr:XA oj a a'):Yields P ops oi v a'↔Yields P ops oi v a:=by
 unfold Yields;rw[Q1 hsi h3 hr,L0 h3 hr]
theorem Lu(hsi:∀cs b,oi.op≠.select cs b)(h3:∀d,oj.dst=some d->d∉oi.looksAt ops) {a a':Act} {v:Value} {w:World}(hr:XA oj a a'):YR P ops oi v a' w↔YR P ops oi v a w:=by
 unfold YR;rw[Q1 hsi h3 hr,L0 h3 hr]
theorem F5(o:Oper)(a:Act)(v:Value):XA o a (a.put o.dst v):=⟨v,a.defers,rfl⟩
theorem RZ(hsj:∀cs b,oj.op≠.select cs b)(h1:∀d,oi.dst=some d->d∉oj.looksAt ops)(h2:∀d,oi.dst=some d->oj.dst≠some d) {K:Act->World->Prop} {a:Act} {w:World} {v:Value}:
  Kw P ops oj K (a.put oi.dst v) w↔Kw P ops oj (λa' w'=>K (a'.put oi.dst v) w') a w:=by
 have c:∀(b:Act) (u:Value),(b.put oj.dst u).put oi.dst v=(b.put oi.dst v).put oj.dst u:=λb u=>(Act.put_comm b v u h2).symm
 unfold Kw
 rw[wanted_put oj a oi.dst v h1]
 split
 ·unfold Oper.wp
  rw[execOp_put oj hsj a oi.dst v h1]
  generalize (execOp a.eval oj).run P w=r
  cases r with
  |
   ok n w'=>
   cases n<;>simp only[Oper.upon]
   case value u=>rw[c]
   case skip=>rw[c]
   case defer d=>
    have e:(({a.put oi.dst v with defers:=d::(a.put oi.dst v).defers}:Act).put oj.dst undef)=(({a with defers:=d::a.defers}:Act).put oj.dst undef).put oi.dst v:=by rw[c,Act.put_defers]
    rw[<-e]
   case enter f args=>
    constructor
    ·intro h
     refine We h λe w'' he=>?_
     cases e with
     |returned u=>show K _ _;rw[c];exact he
     |panicked c=>exact he
     |outgrown=>exact he
    ·intro h
     refine We h λe w'' he=>?_
     cases e with
     |returned u=>show K _ _;rw[<-c];exact he
     |panicked c=>exact he
     |outgrown=>exact he
   case row row args=>
    constructor
    ·intro h
     refine Rows.mono h λu w'' he=>?_
     show K _ _
     rw[c];exact he
    ·intro h
     refine Rows.mono h λu w'' he=>?_
     show K _ _
     rw[<-c];exact he
  |halt x w'=>cases x<;>simp only[Oper.upon]<;>exact Iff.rfl
 ·show K _ _↔K _ _
  rw[c]
theorem QS {o:Oper} {a:Act} {u v:Value}(h:Yields P ops o u a)(h':Yields P ops o v a):u=v:=by
 rcases h with⟨hw,h⟩|⟨hw,rfl⟩<;>rcases h' with⟨hw',h'⟩|⟨hw',rfl⟩
 ·have:=(h default).symm.trans (h' default);simpa using this
 ·rw[hw]at hw';cases hw'
 ·rw[hw]at hw';cases hw'
 ·rfl
def Qu(ci cj:Nat):Bool:=ci==0||cj==0||(ci==1&&(cj==1||cj==2))
theorem SN(k:Nat):C4 k<=3:=by unfold C4;split<;>omega
theorem swap(hsi:∀cs b,oi.op≠.select cs b)(hsj:∀cs b,oj.op≠.select cs b)(hap:oi.apart ops oj=true) {ci cj:Nat}(hi3:ci<=3)(hj3:cj<=3)(hf:Qu ci cj=true) {K:Act->World->Prop} {a:Act} {w:World}
  (h:Nz P ops ci oi (Nz P ops cj oj K) a w):Nz P ops cj oj (Nz P ops ci oi K) a w:=by
 obtain⟨h1,h2,h3⟩:=QG hap
 have h2':∀d,oj.dst=some d->oi.dst≠some d:=λd hd he=>h2 d he hd
 have comm:∀(b:Act) (u v:Value),(b.put oi.dst v).put oj.dst u=(b.put oj.dst u).put oi.dst v:=λb u v=>Act.put_comm b v u h2
 have back:∀(v:Value) (K':Act->World->Prop),Kw P ops oj K' (a.put oi.dst v) w->Kw P ops oj (λa' w'=>XA oj a a'/\K' (a'.put oi.dst v) w') a w:=λv K' hh=>RY ((RZ hsj h1 h2).1 hh)
 have fore:∀(K':Act->World->Prop),Kw P ops oi (λa' w'=>∃v,Yields P ops oj v a'/\K' (a'.put oj.dst v) w') a w->∃v,Yields P ops oj v a/\Kw P ops oi K' (a.put oj.dst v) w:=λK' hh=>by
  have hh':=RY hh
  obtain⟨a',w',hr,v,hy,_⟩:=UB hh'
  have hy0:=(D2 hsj h1 hr).1 hy
  refine⟨v,hy0,(RZ hsi h3 h2').2 (Fl ?_ hh')⟩
  rintro a'' w'' ⟨hr'',u,hu,hk⟩
  have:u=v:=QS ((D2 hsj h1 hr'').1 hu) hy0
  subst this
  exact hk
 have foreR:∀(K':Act->World->Prop),Kw P ops oi (λa' w'=>∃v,Yields P ops oj v a'/\K' (a'.put oj.dst v) w') a w->∃v,Yields P ops oj v a/\Kw P ops oi K' (a.put oj.dst v) w:=fore
 have i0:ci=0\/ci=1\/ci=2\/ci=3:=by omega
 have j0:cj=0\/cj=1\/cj=2\/cj=3:=by omega
 rcases i0 with rfl|rfl|rfl|rfl<;>rcases j0 with rfl|rfl|rfl|rfl<;>first|(exfalso;revert hf;decide)|skip
 all_goals simp only[Nz]at h⊢
 ·obtain⟨v,hv,u,hu,hk⟩:=h
  exact⟨u,(D2 hsj h1 (F5 oi a v)).1 hu,v,(D2 hsi h3 (F5 oj a u)).2 hv,by rw[<-comm];exact hk⟩
 ·obtain⟨v,hv,u,hu,hk⟩:=h
  exact⟨u,(Lu hsj h1 (F5 oi a v)).1 hu,v,(D2 hsi h3 (F5 oj a u)).2 hv,by rw[<-comm];exact hk⟩
 ·obtain⟨v,hv,hk⟩:=h
  exact Fl (λa' w' ⟨hr,he,hk⟩=>⟨he,v,(D2 hsi h3 hr).2 hv,hk⟩) (back v _ hk)
 ·obtain⟨v,hv,hk⟩:=h
  exact Fl (λa' w' ⟨hr,hk⟩=>⟨v,(D2 hsi h3 hr).2 hv,hk⟩) (back v _ hk)
 ·obtain⟨v,hv,u,hu,hk⟩:=h
  exact⟨u,(D2 hsj h1 (F5 oi a v)).1 hu,v,(Lu hsi h3 (F5 oj a u)).2 hv,by rw[<-comm];exact hk⟩
 ·obtain⟨v,hv,u,hu,hk⟩:=h
  exact⟨u,(Lu hsj h1 (F5 oi a v)).1 hu,v,(Lu hsi h3 (F5 oj a u)).2 hv,by rw[<-comm];exact hk⟩
 ·obtain⟨v,hv,hk⟩:=h
  refine Fl (λa' w' ⟨hr,he,hk⟩=>⟨he,v,(Lu hsi h3 hr).2 ?_,hk⟩) (back v _ hk)
  rcases hv with⟨hw,hv⟩|hv
  ·refine .inl ⟨hw,λw2 h2=>hv w2 ?_⟩
   intro k hk
   rw[h2 k,he k hk]
   have:=he k hk
   rw[AT hk]at this
   exact(Ae.1 this).1
  ·exact .inr hv
 ·exact(fore (λa' w'=>GZ w w'/\K a' w') (Fl (λa' w' ⟨he,v,hv,hk⟩=>⟨v,hv,he,hk⟩) h))
 ·exact fore K h
end swap
end
end Go.Reg
