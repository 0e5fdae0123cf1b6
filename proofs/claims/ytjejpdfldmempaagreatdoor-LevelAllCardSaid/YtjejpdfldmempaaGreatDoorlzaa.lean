/- Rga. -/
import Derived.Test.YtjejpdfldmempaaGreatDoorlzAl
import Derived.WalkKit
namespace Go.Reg
open Go Go.RowKit
def I5(w w':World):Prop:=∀k,k<w.heap.size->w'.heap[k]? =w.heap[k]?
theorem I5.refl(w:World):I5 w w:=λ_ _=>rfl
theorem I5.of_some {w w':World}(h:I5 w w') {k:Nat} {o:Obj}(hk:w.heap[k]? =some o):w'.heap[k]? =some o:=by
 rw[h k (A8.1 hk).1];exact hk
theorem I5.trans {a b c:World}(h:I5 a b)(k:I5 b c)(hs:a.heap.size<=b.heap.size):I5 a c:=
 λi hi=>(k i (by omega)).trans (h i hi)
def CE {α:Type}(P:Program)(s:Sem α):Prop:=∀w a w1,s.run P w=.ok a w1->w1=w/\∀w2,s.run P w2=.ok a w2
def L2 {α:Type}(P:Program)(s:Sem α):Prop:=∀w a w1,s.run P w=.ok a w1->w1=w/\∀w2,I5 w w2->s.run P w2=.ok a w2
theorem CE.mono {α:Type} {P:Program} {s:Sem α}(h:CE P s):L2 P s:=λw a w1 hr=>⟨(h w a w1 hr).1,λw2 _=>(h w a w1 hr).2 w2⟩
theorem AD {α:Type} {P:Program}(a:α):CE P (pure a:Sem α):=λw b w1 h=>by
 simp at h;obtain⟨rfl,rfl⟩:=h;exact⟨rfl,λw2=>by simp⟩
theorem RJ {α:Type} {P:Program}(h:Halt):CE P (Sem.halt h:Sem α):=λw b w1 hr=>by simp[Sem.run]at hr
theorem LJ {P:Program}:CE P program:=λw b w1 h=>by
 simp[program,Sem.run]at h;obtain⟨rfl,rfl⟩:=h;exact⟨rfl,λw2=>by simp[program,Sem.run]⟩
theorem Bw {α β:Type} {P:Program} {s:Sem α} {f:α->Sem β}(h:CE P s)(hf:∀a,CE P (f a)):CE P (s>>=f):=by
 intro w b w1 hr
 rw[A6]at hr
 cases hs:s.run P w with
 |halt x w'=>rw[hs]at hr;simp at hr
 |
  ok a w'=>
  rw[hs]at hr
  obtain⟨rfl,h2⟩:=h w a w' hs
  obtain⟨rfl,h3⟩:=hf a _ b w1 hr
  exact⟨rfl,λw2=>by rw[A6,h2 w2];exact h3 w2⟩
theorem FZ {α β:Type} {P:Program} {s:Sem α} {f:α->Sem β}(h:L2 P s)(hf:∀a,L2 P (f a)):L2 P (s>>=f):=by
 intro w b w1 hr
 rw[A6]at hr
 cases hs:s.run P w with
 |halt x w'=>rw[hs]at hr;simp at hr
 |
  ok a w'=>
  rw[hs]at hr
  obtain⟨rfl,h2⟩:=h w a w' hs
  obtain⟨rfl,h3⟩:=hf a _ b w1 hr
  exact⟨rfl,λw2 he=>by rw[A6,h2 w2 he];exact h3 w2 he⟩
theorem PC {α:Type} {P:Program} {s:Sem α}(h:∀w a w1,s.run P w≠.ok a w1):CE P s:=λw a w1 hr=>absurd hr (h w a w1)
theorem AX {α:Type} {P:Program}(m:String):CE P (stuck m:Sem α):=RJ _
theorem Bi {α:Type} {P:Program}(m:Unsupported):CE P (unsupported m:Sem α):=RJ _
theorem GS {α β:Type} {P:Program} {s:Sem α} {f:α->Sem β}(hf:∀a w b w1,(f a).run P w≠.ok b w1):∀w b w1,(s>>=f).run P w≠.ok b w1:=by
 intro w b w1 hr
 rw[A6]at hr
 cases hs:s.run P w with
 |halt x w'=>rw[hs]at hr;simp at hr
 |ok a w'=>rw[hs]at hr;exact hf a _ b w1 hr
theorem Gl {α:Type} {P:Program}(e:RuntimeError):∀w (a:α) w1,(runtimePanic e:Sem α).run P w≠.ok a w1:=by
 unfold runtimePanic
 apply GS
 intro p w a w1 hr
 have g:∀(v:Value) w (a:α) w1,(goPanic v:Sem α).run P w≠.ok a w1:=λv w a w1 hh=>by simp[goPanic]at hh
 cases e<;>dsimp only at hr
 all_goals first
  |exact g _ _ _ _ hr
  |exact GS (λ_=>g _) w a w1 hr
  |exact GS (λ_=>GS (λ_=>g _)) w a w1 hr
theorem C8 {α:Type} {P:Program}(e:RuntimeError):CE P (runtimePanic e:Sem α):=PC (Gl e)
theorem Dk {α:Type} {P:Program}(k:IntKind)(x y:Int)(c:BoundsCode):CE P (boundsPanic k x y c:Sem α):=
 PC (by unfold boundsPanic;dsimp only;split<;>exact GS (λ_=>Gl _))
theorem KI {P:Program}(t:TypeId):CE P (typeInfo t):=by
 unfold typeInfo
 refine Bw LJ λp=>?_
 split
 ·exact AD _
 ·exact AX _
theorem BK {P:Program}(t:TypeId):CE P (underlying t):=by
 unfold underlying
 refine Bw LJ λp=>?_
 split
 ·exact AD _
 ·exact AX _
theorem Cy {P:Program}(t:TypeId):CE P (sizeOf t):=by
 unfold sizeOf;exact Bw (KI _) λ_=>AD _
theorem GM {P:Program}(t:TypeId):CE P (zeroValue t):=by
 unfold zeroValue
 refine Bw (KI _) λi=>?_
 split
 ·exact AD _
 ·exact Bi _
theorem PE {P:Program}(t:TypeId):CE P (isAgg t):=by
 unfold isAgg
 refine Bw (BK _) λd=>?_
 split<;>exact AD _
theorem CK {P:Program}(v:Value):CE P (asIntOf v):=by
 unfold asIntOf;split
 ·exact AD _
 ·exact Bi _
 ·exact AX _
theorem CP {P:Program}(v:Value):CE P (asBool v):=by
 unfold asBool;split
 ·exact AD _
 ·exact AX _
theorem D2 {P:Program}(v:Value):CE P (asAgg v):=by
 unfold asAgg;split
 ·exact AD _
 ·exact AX _
theorem Cr {P:Program}(v:Value):CE P (Instr.sureAddr v):=by
 unfold Instr.sureAddr;split
 ·exact AD _
 ·exact AX _
theorem Dl {P:Program}(v:Value):CE P (asAddr v):=by
 unfold asAddr;split
 ·exact AD _
 ·exact C8 _
 ·exact AX _
theorem DS {P:Program}(t:TypeId)(cs:Array Value)(off:Nat):CE P (part t cs off):=by
 unfold part
 refine Bw (PE _) λb=>?_
 split
 ·exact Bw (Cy _) λ_=>AD _
 ·split
  ·exact AD _
  ·exact AX _
def Lw(P:Program)(s:TypeId):Bool:=
 match P.underlying s with
 |some (.struct fields)=>fields.all λf=>match P.info? f.type with|some i=>i.size !=0|none=>false
 |_=>false
theorem Tg {P:Program} {s:TypeId}(hs:Lw P s=true)(x:Value)(n:Nat):CE P (Instr.fieldAt s x n):=by
 intro w a w1 hr
 have key:CE P (Instr.fieldAt s x n):=by
  unfold Lw at hs
  cases hu:P.underlying s with
  |none=>simp[hu]at hs
  |
   some d=>
   cases d with
   |
    struct fields=>
    simp[hu]at hs
    unfold Instr.fieldAt
    intro w a w1 hr
    have eu:∀w,(underlying s).run P w=.ok (.struct fields) w:=λw=>run_underlying hu w
    simp only[A6,eu,A3]at hr⊢
    cases hf:fields[n]? with
    |none=>simp[hf,stuck]at hr
    |
     some f=>
     simp only[hf]at hr⊢
     have hroom:=hs n (A8.1 hf).1
     have hfe:fields[n]'(A8.1 hf).1=f:=(A8.1 hf).2
     rw[hfe]at hroom
     cases hi:P.info? f.type with
     |none=>simp[hi]at hroom
     |
      some i=>
      simp[hi]at hroom
      have es:∀w,(sizeOf f.type).run P w=.ok i.size w:=λw=>by simp[sizeOf,typeInfo,program,Sem.run,hi]
      have hp:∀(b:Addr),CE P (fieldPlace b f):=λb w a w1 hr=>by
       unfold fieldPlace at hr⊢
       simp only[A6,es,A3,if_neg hroom,Bb]at hr⊢
       cases hr;exact⟨rfl,λ_=>rfl⟩
      exact Bw (Cr x) (λb=>Bw (hp b) λc=>AD _) w a w1 hr
   |_=>simp[hu]at hs
 exact key w a w1 hr
theorem Tf {P:Program}(t:TypeId)(x ix:Value):CE P (Instr.indexAt t x ix):=by
 unfold Instr.indexAt
 repeat' (first|exact AD _|exact AX _|exact Bi _|exact C8 _|exact Dk _ _ _ _|exact CK _|exact CP _|exact D2 _|exact Dl _|exact Cr _|exact Cy _|exact BK _|exact DS _ _ _|refine Bw ?_ (λ_=>?_)|split|dsimp only[])
theorem Xr {P:Program}(t:TypeId)(x:Value)(n:Nat):CE P (Instr.field t x n):=by
 unfold Instr.field
 repeat' (first|exact AD _|exact AX _|exact Bi _|exact C8 _|exact Dk _ _ _ _|exact CK _|exact CP _|exact D2 _|exact Dl _|exact Cr _|exact Cy _|exact BK _|exact DS _ _ _|refine Bw ?_ (λ_=>?_)|split|dsimp only[])
theorem Xq {P:Program}(t:TypeId)(x ix:Value):CE P (Instr.index t x ix):=by
 unfold Instr.index
 repeat' (first|exact AD _|exact AX _|exact Bi _|exact C8 _|exact Dk _ _ _ _|exact CK _|exact CP _|exact D2 _|exact Dl _|exact Cr _|exact Cy _|exact BK _|exact DS _ _ _|refine Bw ?_ (λ_=>?_)|split|dsimp only[])
theorem Th {P:Program}(t:Value)(n:Nat):CE P (Instr.extract t n):=by
 unfold Instr.extract
 repeat' (first|exact AD _|exact AX _|exact Bi _|exact C8 _|exact Dk _ _ _ _|exact CK _|exact CP _|exact D2 _|exact Dl _|exact Cr _|exact Cy _|exact BK _|exact DS _ _ _|refine Bw ?_ (λ_=>?_)|split|dsimp only[])
theorem KZ {P:Program}(t:TypeId)(x:Value):CE P (Instr.makeInterface t x):=by
 unfold Instr.makeInterface
 repeat' (first|exact AD _|exact AX _|exact Bi _|exact C8 _|exact Dk _ _ _ _|exact CK _|exact CP _|exact D2 _|exact Dl _|exact Cr _|exact Cy _|exact BK _|exact DS _ _ _|refine Bw ?_ (λ_=>?_)|split|dsimp only[])
theorem Gs {P:Program}(x:Value)(y:Nat)(c:BoundsCode):CE P (Instr.sliceBound x y c):=by
 unfold Instr.sliceBound
 repeat' (first|exact AD _|exact AX _|exact Bi _|exact C8 _|exact Dk _ _ _ _|exact CK _|exact CP _|exact D2 _|exact Dl _|exact Cr _|exact Cy _|exact BK _|exact DS _ _ _|refine Bw ?_ (λ_=>?_)|split|dsimp only[])
theorem HS {P:Program}(s:Bool)(n c:Nat)(l h m:Option Value):CE P (Instr.sliceBounds s n c l h m):=by
 unfold Instr.sliceBounds
 repeat' (first|exact AD _|exact AX _|exact Bi _|exact C8 _|exact Dk _ _ _ _|exact CK _|exact CP _|exact D2 _|exact Dl _|exact Cr _|exact Cy _|exact BK _|exact DS _ _ _|exact Gs _ _ _|refine Bw ?_ (λ_=>?_)|split|dsimp only[])
theorem Xo {P:Program}(t:TypeId)(x:Value)(l h m:Option Value):CE P (Instr.slice t x l h m):=by
 unfold Instr.slice
 repeat' (first|exact AD _|exact AX _|exact Bi _|exact C8 _|exact Dk _ _ _ _|exact CK _|exact CP _|exact D2 _|exact Dl _|exact Cr _|exact Cy _|exact BK _|exact DS _ _ _|exact Gs _ _ _|exact HS _ _ _ _ _ _|refine Bw ?_ (λ_=>?_)|split|dsimp only[])
theorem Te {P:Program}(t:TypeId)(x:Value)(l h m:Option Value):CE P (Instr.sliceAt t x l h m):=by
 unfold Instr.sliceAt
 repeat' (first|exact AD _|exact AX _|exact Bi _|exact C8 _|exact Dk _ _ _ _|exact CK _|exact CP _|exact D2 _|exact Dl _|exact Cr _|exact Cy _|exact BK _|exact DS _ _ _|exact Gs _ _ _|exact HS _ _ _ _ _ _|exact Xo _ _ _ _ _|refine Bw ?_ (λ_=>?_)|split|dsimp only[])
theorem KJ {P:Program}(op:BinOp)(k:IntKind)(x y:Int):CE P (Op.intArith op k x y):=by
 unfold Op.intArith;split<;>first|exact AD _|exact AX _
theorem U4 {P:Program}(op:BinOp)(x y:Int):CE P (Op.intCmp op x y):=by
 unfold Op.intCmp;split<;>first|exact AD _|exact AX _
theorem U3 {P:Program}(op:BinOp)(k:IntKind)(x y:Int):CE P (Op.intDiv op k x y):=by
 unfold Op.intDiv
 repeat' (first|exact AD _|exact AX _|exact Bi _|exact C8 _|exact Dk _ _ _ _|exact CK _|exact CP _|exact D2 _|exact Dl _|exact Cr _|exact Cy _|exact BK _|exact DS _ _ _|refine Bw ?_ (λ_=>?_)|split|dsimp only[])
theorem Rr {P:Program}(op:BinOp)(x y:ByteArray):CE P (Op.stringOp op x y):=by
 unfold Op.stringOp
 repeat' (first|exact AD _|exact AX _|exact Bi _|exact C8 _|exact Dk _ _ _ _|exact CK _|exact CP _|exact D2 _|exact Dl _|exact Cr _|exact Cy _|exact BK _|exact DS _ _ _|refine Bw ?_ (λ_=>?_)|split|dsimp only[])
def KB:BinOp->Bool
 |.eql|.neq=>true
 |_=>false
def jO:BinOp->Bool
 |.shl|.shr=>false
 |_=>true
def Ef(op:BinOp):Value->Value->Bool
 |.int _ _,.int _ _=>true
 |.string _,.string _=>true
 |.bool _,.bool _=>KB op
 |.pointer none,.pointer _=>KB op
 |.pointer (some _),.pointer none=>KB op
 |.iface _ _,.nilIface=>KB op
 |.slice none _ _,.slice _ _ _=>KB op
 |.slice (some _) _ _,.slice none _ _=>KB op
 |.map none,.map _=>KB op
 |.map (some _),.map none=>KB op
 |.nilFunc,.nilFunc=>KB op
 |.func _ _ _,.nilFunc=>KB op
 |_,_=>false
def IM(op:BinOp)(x:Value)(y:Operand):Bool:=
 match x,y with
 |.nilIface,.const .nilIface=>KB op
 |_,_=>false
def Bo(a:Act)(o:Oper):Bool:=
 match o.op with
 |.nilCheck x=>(match a.eval x with|.func .. =>false|_=>true)
 |.binOp op _ x y _=>Ef op (a.eval x) (a.eval y)||IM op (a.eval x) y
 |.convert _ _ x=>(match a.eval x with|.int .. =>true|_=>false)
 |_=>true
def CQ(P:Program)(G:List FuncId)(o:Oper):Nat:=
 match o.op with
 |.move _|.assign _|.pick .. |.nilCheck _|.binOp .. |.unOp .. |.makeInterface .. |.makeFunc .. |.slice .. |.field .. |.index .. |.indexAddr .. |.extract .. =>0
 |.build t _=>(match P.underlying t with|some (.struct _)=>0|_=>3)
 |.fieldAddr s _ _=>if Lw P s then 0 else 3
 |.convert _ d _=>(match P.underlying d with|some (.int _)=>0|_=>3)
 |.load .. =>1
 |.lookup .. =>5
 |
  .call c=>(match c.callee with
  |.builtin .len=>(match(c.argTypes[0]?).bind P.underlying with|some (.slice _)|some .string=>0|some (.map _ _)=>1|_=>9)
  |.value (.func f)=>if G.contains f then 2 else 3
  |_=>3)
 |.alloc _|.box .. |.buildSlice .. |.makeMap _ none=>6
 |.makeSlice .. =>2
 |.select .. |.defer _|.go _=>9
 |_=>3
def Ds:Nat->Nat
 |0=>0|1=>1|5=>1|2=>2|6=>2|_=>3
def No:Exit->Act->World->Prop:=λ_ _ _=>False
section
variable {P:Program} {ops:Array Oper}
def Od(P:Program)(ops:Array Oper)(o:Oper)(K:Act->World->Prop)(a:Act)(w:World):Prop:=
 if Region.wanted o (yielded ops a.tmps)then o.wp P a w K No else K (a.put o.dst undef) w
def YR(P:Program)(ops:Array Oper)(o:Oper)(v:Value)(a:Act)(w:World):Prop:=
 (Region.wanted o (yielded ops a.tmps)=true/\∀w2,I5 w w2->(execOp a.eval o).run P w2=.ok (.value v) w2)\/
 (Region.wanted o (yielded ops a.tmps)=false/\v=undef)
def RH(P:Program)(ops:Array Oper)(c:Nat)(o:Oper)(K:Act->World->Prop)(a:Act)(w:World):Prop:=
 match c with
 |0=>∃v,Yields P ops o v a/\K (a.put o.dst v) w
 |1=>∃v,YR P ops o v a w/\K (a.put o.dst v) w
 |2=>Od P ops o (λa' w'=>I5 w w'/\K a' w') a w
 |_=>Od P ops o K a w
theorem Oper.wp_imp {o:Oper} {a:Act} {w:World} {K K':Act->World->Prop} {Q:Exit->Act->World->Prop}(h:∀a w,K a w->K' a w)(hh:o.wp P a w K No):o.wp P a w K' Q:=by
 unfold Oper.wp at*
 generalize (execOp a.eval o).run P w=r at*
 cases r with
 |
  ok n w'=>
  cases n<;>simp only[Oper.upon]at hh⊢<;>
   first
    |exact h _ _ hh
    |exact Calls.mono hh (λe w'' he=>by cases e with|returned v=>exact h _ _ he|panicked c=>exact he.elim|outgrown=>obtain⟨_,_,f⟩:=he;exact f.elim)
    |exact Rows.mono hh (λ_ _ he=>h _ _ he)
 |halt x w'=>cases x<;>simp only[Oper.upon]at hh⊢<;>exact hh.elim
theorem GL {o:Oper} {a:Act} {w:World} {K K':Act->World->Prop}(h:∀a w,K a w->K' a w)(hh:Od P ops o K a w):Od P ops o K' a w:=by
 unfold Od at*
 split
 ·rename_i hw;rw[if_pos hw]at hh;exact Oper.wp_imp h hh
 ·rename_i hw;rw[if_neg hw]at hh;exact h _ _ hh
theorem gG {c:Nat} {o:Oper} {a:Act} {w:World} {K K':Act->World->Prop}(h:∀a w,K a w->K' a w)(hh:RH P ops c o K a w):RH P ops c o K' a w:=by
 unfold RH at*
 split at hh
 ·obtain⟨v,h1,h2⟩:=hh;exact⟨v,h1,h _ _ h2⟩
 ·obtain⟨v,h1,h2⟩:=hh;exact⟨v,h1,h _ _ h2⟩
 ·exact GL (λa' w' ⟨h1,h2⟩=>⟨h1,h _ _ h2⟩) hh
 ·exact GL h hh
def qU(o:Oper)(a a':Act):Prop:=∃u ds,a'=({a with defers:=ds}:Act).put o.dst u
theorem rT {o:Oper} {a:Act} {w:World} {K:Act->World->Prop}(hh:o.wp P a w K No):o.wp P a w (λa' w'=>qU o a a'/\K a' w') No:=by
 unfold Oper.wp at*
 generalize (execOp a.eval o).run P w=r at*
 cases r with
 |
  ok n w'=>
  cases n<;>simp only[Oper.upon]at hh⊢
  case value v=>exact⟨⟨v,_,rfl⟩,hh⟩
  case skip=>exact⟨⟨_,_,rfl⟩,hh⟩
  case defer d=>exact⟨⟨_,_,rfl⟩,hh⟩
  case enter f args=>exact Calls.mono hh (λe w'' he=>by cases e with|returned v=>exact⟨⟨v,_,rfl⟩,he⟩|panicked c=>exact he.elim|outgrown=>exact he)
  case row row args=>exact Rows.mono hh (λv _ he=>⟨⟨v,_,rfl⟩,he⟩)
 |halt x w'=>cases x<;>simp only[Oper.upon]at hh⊢<;>exact hh
theorem Zb {o:Oper} {a:Act} {w:World} {K:Act->World->Prop}(hh:Od P ops o K a w):Od P ops o (λa' w'=>qU o a a'/\K a' w') a w:=by
 unfold Od at*
 split
 ·rename_i hw;rw[if_pos hw]at hh;exact rT hh
 ·rename_i hw;rw[if_neg hw]at hh;exact⟨⟨_,_,rfl⟩,hh⟩
theorem OX {o:Oper} {a:Act} {w:World} {K:Act->World->Prop}(hh:o.wp P a w K No):∃a' w',K a' w':=by
 unfold Oper.wp at*
 generalize (execOp a.eval o).run P w=r at*
 cases r with
 |
  ok n w'=>
  cases n<;>simp only[Oper.upon]at hh
  case value v=>exact⟨_,_,hh⟩
  case skip=>exact⟨_,_,hh⟩
  case defer d=>exact⟨_,_,hh⟩
  case enter f args=>
   obtain⟨e,w',fr,hR,_⟩:=hh []
   cases e with
   |returned v=>exact⟨_,_,hR⟩
   |panicked c=>exact hR.elim
   |outgrown=>obtain⟨_,_,f⟩:=hR;exact f.elim
  case row row args=>
   obtain⟨v,w',hR,_⟩:=hh default []
   exact⟨_,_,hR⟩
 |halt x w'=>cases x<;>simp only[Oper.upon]at hh<;>exact hh.elim
theorem gH {o:Oper} {a:Act} {w:World} {K:Act->World->Prop}(hh:Od P ops o K a w):∃a' w',K a' w':=by
 unfold Od at hh
 split at hh
 ·exact OX hh
 ·exact⟨_,_,hh⟩
theorem W9 {x y:Oper}(h:x.apart ops y=true):
  (∀d,x.dst=some d->d∉y.looksAt ops)/\(∀d,x.dst=some d->y.dst≠some d)/\(∀d,y.dst=some d->d∉x.looksAt ops):=Oper.apart_spec h
section swap
variable {oi oj:Oper}(hsi:∀cs b,oi.op≠.select cs b)(hsj:∀cs b,oj.op≠.select cs b)
theorem Wb(hsi:∀cs b,oi.op≠.select cs b)(h3:∀d,oj.dst=some d->d∉oi.looksAt ops) {a a':Act}(hr:qU oj a a'):execOp a'.eval oi=execOp a.eval oi:=by
 obtain⟨u,ds,rfl⟩:=hr
 exact execOp_put oi hsi _ oj.dst u h3
theorem P0(h3:∀d,oj.dst=some d->d∉oi.looksAt ops) {a a':Act}(hr:qU oj a a'):Region.wanted oi (yielded ops a'.tmps)=Region.wanted oi (yielded ops a.tmps):=by
 obtain⟨u,ds,rfl⟩:=hr
 exact wanted_put oi _ oj.dst u h3
theorem E5(hsi:∀cs b,oi.op≠.select cs b)(h3:∀d,oj.dst=some d->d∉oi.looksAt ops) {a a':Act} {v:Value}(hr:qU oj a a'):Yields P ops oi v a'↔Yields P ops oi v a:=by
 unfold Yields;rw[Wb hsi h3 hr,P0 h3 hr]
theorem Pw(hsi:∀cs b,oi.op≠.select cs b)(h3:∀d,oj.dst=some d->d∉oi.looksAt ops) {a a':Act} {v:Value} {w:World}(hr:qU oj a a'):YR P ops oi v a' w↔YR P ops oi v a w:=by
 unfold YR;rw[Wb hsi h3 hr,P0 h3 hr]
theorem Hr(o:Oper)(a:Act)(v:Value):qU o a (a.put o.dst v):=⟨v,a.defers,rfl⟩
theorem Zc(hsj:∀cs b,oj.op≠.select cs b)(h1:∀d,oi.dst=some d->d∉oj.looksAt ops)(h2:∀d,oi.dst=some d->oj.dst≠some d) {K:Act->World->Prop} {a:Act} {w:World} {v:Value}:
  Od P ops oj K (a.put oi.dst v) w↔Od P ops oj (λa' w'=>K (a'.put oi.dst v) w') a w:=by
 have c:∀(b:Act) (u:Value),(b.put oj.dst u).put oi.dst v=(b.put oi.dst v).put oj.dst u:=λb u=>(Act.put_comm b v u h2).symm
 unfold Od
 rw[wanted_put oj a oi.dst v h1]
 split
 ·unfold Oper.wp
  rw[execOp_put oj hsj a oi.dst v h1]
  generalize (execOp a.eval oj).run P w=r
  cases r with
  |
   ok n w'=>
   cases n<;>simp only[Oper.upon]
   case value u=>rw[c]
   case skip=>rw[c]
   case defer d=>
    have e:(({a.put oi.dst v with defers:=d::(a.put oi.dst v).defers}:Act).put oj.dst undef)=(({a with defers:=d::a.defers}:Act).put oj.dst undef).put oi.dst v:=by rw[c,Act.put_defers]
    rw[<-e]
   case enter f args=>
    constructor
    ·intro h
     refine Calls.mono h λe w'' he=>?_
     cases e with
     |returned u=>show K _ _;rw[c];exact he
     |panicked c=>exact he
     |outgrown=>exact he
    ·intro h
     refine Calls.mono h λe w'' he=>?_
     cases e with
     |returned u=>show K _ _;rw[<-c];exact he
     |panicked c=>exact he
     |outgrown=>exact he
   case row row args=>
    constructor
    ·intro h
     refine Rows.mono h λu w'' he=>?_
     show K _ _
     rw[c];exact he
    ·intro h
     refine Rows.mono h λu w'' he=>?_
     show K _ _
     rw[<-c];exact he
  |halt x w'=>cases x<;>simp only[Oper.upon]<;>exact Iff.rfl
 ·show K _ _↔K _ _
  rw[c]
theorem WQ {o:Oper} {a:Act} {u v:Value}(h:Yields P ops o u a)(h':Yields P ops o v a):u=v:=by
 rcases h with⟨hw,h⟩|⟨hw,rfl⟩<;>rcases h' with⟨hw',h'⟩|⟨hw',rfl⟩
 ·have:=(h default).symm.trans (h' default);simpa using this
 ·rw[hw]at hw';cases hw'
 ·rw[hw]at hw';cases hw'
 ·rfl
def VP(ci cj:Nat):Bool:=ci==0||cj==0||(ci==1&&(cj==1||cj==2))
theorem ZD(k:Nat):Ds k<=3:=by unfold Ds;split<;>omega
theorem swap(hsi:∀cs b,oi.op≠.select cs b)(hsj:∀cs b,oj.op≠.select cs b)(hap:oi.apart ops oj=true) {ci cj:Nat}(hi3:ci<=3)(hj3:cj<=3)(hf:VP ci cj=true) {K:Act->World->Prop} {a:Act} {w:World}
  (h:RH P ops ci oi (RH P ops cj oj K) a w):RH P ops cj oj (RH P ops ci oi K) a w:=by
 obtain⟨h1,h2,h3⟩:=W9 hap
 have h2':∀d,oj.dst=some d->oi.dst≠some d:=λd hd he=>h2 d he hd
 have comm:∀(b:Act) (u v:Value),(b.put oi.dst v).put oj.dst u=(b.put oj.dst u).put oi.dst v:=λb u v=>Act.put_comm b v u h2
 have back:∀(v:Value) (K':Act->World->Prop),Od P ops oj K' (a.put oi.dst v) w->Od P ops oj (λa' w'=>qU oj a a'/\K' (a'.put oi.dst v) w') a w:=λv K' hh=>Zb ((Zc hsj h1 h2).1 hh)
 have fore:∀(K':Act->World->Prop),Od P ops oi (λa' w'=>∃v,Yields P ops oj v a'/\K' (a'.put oj.dst v) w') a w->∃v,Yields P ops oj v a/\Od P ops oi K' (a.put oj.dst v) w:=λK' hh=>by
  have hh':=Zb hh
  obtain⟨a',w',hr,v,hy,_⟩:=gH hh'
  have hy0:=(E5 hsj h1 hr).1 hy
  refine⟨v,hy0,(Zc hsi h3 h2').2 (GL ?_ hh')⟩
  rintro a'' w'' ⟨hr'',u,hu,hk⟩
  have:u=v:=WQ ((E5 hsj h1 hr'').1 hu) hy0
  subst this
  exact hk
 have foreR:∀(K':Act->World->Prop),Od P ops oi (λa' w'=>∃v,Yields P ops oj v a'/\K' (a'.put oj.dst v) w') a w->∃v,Yields P ops oj v a/\Od P ops oi K' (a.put oj.dst v) w:=fore
 have i0:ci=0\/ci=1\/ci=2\/ci=3:=by omega
 have j0:cj=0\/cj=1\/cj=2\/cj=3:=by omega
 rcases i0 with rfl|rfl|rfl|rfl<;>rcases j0 with rfl|rfl|rfl|rfl<;>first|(exfalso;revert hf;decide)|skip
 all_goals simp only[RH]at h⊢
 ·obtain⟨v,hv,u,hu,hk⟩:=h
  exact⟨u,(E5 hsj h1 (Hr oi a v)).1 hu,v,(E5 hsi h3 (Hr oj a u)).2 hv,by rw[<-comm];exact hk⟩
 ·obtain⟨v,hv,u,hu,hk⟩:=h
  exact⟨u,(Pw hsj h1 (Hr oi a v)).1 hu,v,(E5 hsi h3 (Hr oj a u)).2 hv,by rw[<-comm];exact hk⟩
 ·obtain⟨v,hv,hk⟩:=h
  exact GL (λa' w' ⟨hr,he,hk⟩=>⟨he,v,(E5 hsi h3 hr).2 hv,hk⟩) (back v _ hk)
 ·obtain⟨v,hv,hk⟩:=h
  exact GL (λa' w' ⟨hr,hk⟩=>⟨v,(E5 hsi h3 hr).2 hv,hk⟩) (back v _ hk)
 ·obtain⟨v,hv,u,hu,hk⟩:=h
  exact⟨u,(E5 hsj h1 (Hr oi a v)).1 hu,v,(Pw hsi h3 (Hr oj a u)).2 hv,by rw[<-comm];exact hk⟩
 ·obtain⟨v,hv,u,hu,hk⟩:=h
  exact⟨u,(Pw hsj h1 (Hr oi a v)).1 hu,v,(Pw hsi h3 (Hr oj a u)).2 hv,by rw[<-comm];exact hk⟩
 ·obtain⟨v,hv,hk⟩:=h
  refine GL (λa' w' ⟨hr,he,hk⟩=>⟨he,v,(Pw hsi h3 hr).2 ?_,hk⟩) (back v _ hk)
  rcases hv with⟨hw,hv⟩|hv
  ·refine .inl ⟨hw,λw2 h2=>hv w2 ?_⟩
   intro k hk
   rw[h2 k,he k hk]
   have:=he k hk
   rw[BD hk]at this
   exact(A8.1 this).1
  ·exact .inr hv
 ·exact(fore (λa' w'=>I5 w w'/\K a' w') (GL (λa' w' ⟨he,v,hv,hk⟩=>⟨v,hv,he,hk⟩) h))
 ·exact fore K h
end swap
end
end Go.Reg
