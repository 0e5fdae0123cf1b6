/- Rga. -/
import Derived.Test.YtjpmmkodoeipmaaGreatDoorrtAl
import Derived.WalkKit
namespace Go.Reg
open Go Go.RowKit
def JT(w w':World):Prop:=∀k,k<w.heap.size->w'.heap[k]? =w.heap[k]?
theorem JT.refl(w:World):JT w w:=λ_ _=>rfl
theorem JT.of_some {w w':World}(h:JT w w') {k:Nat} {o:Obj}(hk:w.heap[k]? =some o):w'.heap[k]? =some o:=by
 rw[h k (Al.1 hk).1];exact hk
theorem JT.trans {a b c:World}(h:JT a b)(k:JT b c)(hs:a.heap.size<=b.heap.size):JT a c:=
 λi hi=>(k i (by omega)).trans (h i hi)
def D9 {α:Type}(P:Program)(s:Sem α):Prop:=∀w a w1,s.run P w=.ok a w1->w1=w/\∀w2,s.run P w2=.ok a w2
def Pm {α:Type}(P:Program)(s:Sem α):Prop:=∀w a w1,s.run P w=.ok a w1->w1=w/\∀w2,JT w w2->s.run P w2=.ok a w2
theorem D9.mono {α:Type} {P:Program} {s:Sem α}(h:D9 P s):Pm P s:=λw a w1 hr=>⟨(h w a w1 hr).1,λw2 _=>(h w a w1 hr).2 w2⟩
theorem AP {α:Type} {P:Program}(a:α):D9 P (pure a:Sem α):=λw b w1 h=>by
 simp at h;obtain⟨rfl,rfl⟩:=h;exact⟨rfl,λw2=>by simp⟩
theorem Wj {α:Type} {P:Program}(h:Halt):D9 P (Sem.halt h:Sem α):=λw b w1 hr=>by simp[Sem.run]at hr
theorem P8 {P:Program}:D9 P program:=λw b w1 h=>by
 simp[program,Sem.run]at h;obtain⟨rfl,rfl⟩:=h;exact⟨rfl,λw2=>by simp[program,Sem.run]⟩
theorem BQ {α β:Type} {P:Program} {s:Sem α} {f:α->Sem β}(h:D9 P s)(hf:∀a,D9 P (f a)):D9 P (s>>=f):=by
 intro w b w1 hr
 rw[AK]at hr
 cases hs:s.run P w with
 |halt x w'=>rw[hs]at hr;simp at hr
 |
  ok a w'=>
  rw[hs]at hr
  obtain⟨rfl,h2⟩:=h w a w' hs
  obtain⟨rfl,h3⟩:=hf a _ b w1 hr
  exact⟨rfl,λw2=>by rw[AK,h2 w2];exact h3 w2⟩
theorem HN {α β:Type} {P:Program} {s:Sem α} {f:α->Sem β}(h:Pm P s)(hf:∀a,Pm P (f a)):Pm P (s>>=f):=by
 intro w b w1 hr
 rw[AK]at hr
 cases hs:s.run P w with
 |halt x w'=>rw[hs]at hr;simp at hr
 |
  ok a w'=>
  rw[hs]at hr
  obtain⟨rfl,h2⟩:=h w a w' hs
  obtain⟨rfl,h3⟩:=hf a _ b w1 hr
  exact⟨rfl,λw2 he=>by rw[AK,h2 w2 he];exact h3 w2 he⟩
theorem TO {α:Type} {P:Program} {s:Sem α}(h:∀w a w1,s.run P w≠.ok a w1):D9 P s:=λw a w1 hr=>absurd hr (h w a w1)
theorem B4 {α:Type} {P:Program}(m:String):D9 P (stuck m:Sem α):=Wj _
theorem BF {α:Type} {P:Program}(m:Unsupported):D9 P (unsupported m:Sem α):=Wj _
theorem Jf {α β:Type} {P:Program} {s:Sem α} {f:α->Sem β}(hf:∀a w b w1,(f a).run P w≠.ok b w1):∀w b w1,(s>>=f).run P w≠.ok b w1:=by
 intro w b w1 hr
 rw[AK]at hr
 cases hs:s.run P w with
 |halt x w'=>rw[hs]at hr;simp at hr
 |ok a w'=>rw[hs]at hr;exact hf a _ b w1 hr
theorem Il {α:Type} {P:Program}(e:RuntimeError):∀w (a:α) w1,(runtimePanic e:Sem α).run P w≠.ok a w1:=by
 unfold runtimePanic
 apply Jf
 intro p w a w1 hr
 have g:∀(v:Value) w (a:α) w1,(goPanic v:Sem α).run P w≠.ok a w1:=λv w a w1 hh=>by simp[goPanic]at hh
 cases e<;>dsimp only at hr
 all_goals first
  |exact g _ _ _ _ hr
  |exact Jf (λ_=>g _) w a w1 hr
  |exact Jf (λ_=>Jf (λ_=>g _)) w a w1 hr
theorem Du {α:Type} {P:Program}(e:RuntimeError):D9 P (runtimePanic e:Sem α):=TO (Il e)
theorem Ea {α:Type} {P:Program}(k:IntKind)(x y:Int)(c:BoundsCode):D9 P (boundsPanic k x y c:Sem α):=
 TO (by unfold boundsPanic;dsimp only;split<;>exact Jf (λ_=>Il _))
theorem Ol {P:Program}(t:TypeId):D9 P (typeInfo t):=by
 unfold typeInfo
 refine BQ P8 λp=>?_
 split
 ·exact AP _
 ·exact B4 _
theorem Cn {P:Program}(t:TypeId):D9 P (underlying t):=by
 unfold underlying
 refine BQ P8 λp=>?_
 split
 ·exact AP _
 ·exact B4 _
theorem Dc {P:Program}(t:TypeId):D9 P (sizeOf t):=by
 unfold sizeOf;exact BQ (Ol _) λ_=>AP _
theorem IX {P:Program}(t:TypeId):D9 P (zeroValue t):=by
 unfold zeroValue
 refine BQ (Ol _) λi=>?_
 split
 ·exact AP _
 ·exact BF _
theorem TQ {P:Program}(t:TypeId):D9 P (isAgg t):=by
 unfold isAgg
 refine BQ (Cn _) λd=>?_
 split<;>exact AP _
theorem DG {P:Program}(v:Value):D9 P (asIntOf v):=by
 unfold asIntOf;split
 ·exact AP _
 ·exact BF _
 ·exact B4 _
theorem DK {P:Program}(v:Value):D9 P (asBool v):=by
 unfold asBool;split
 ·exact AP _
 ·exact B4 _
theorem E3 {P:Program}(v:Value):D9 P (asAgg v):=by
 unfold asAgg;split
 ·exact AP _
 ·exact B4 _
theorem CP {P:Program}(v:Value):D9 P (Instr.sureAddr v):=by
 unfold Instr.sureAddr;split
 ·exact AP _
 ·exact B4 _
theorem Eb {P:Program}(v:Value):D9 P (asAddr v):=by
 unfold asAddr;split
 ·exact AP _
 ·exact Du _
 ·exact B4 _
theorem Fa {P:Program}(t:TypeId)(cs:Array Value)(off:Nat):D9 P (part t cs off):=by
 unfold part
 refine BQ (TQ _) λb=>?_
 split
 ·exact BQ (Dc _) λ_=>AP _
 ·split
  ·exact AP _
  ·exact B4 _
def OZ(P:Program)(s:TypeId):Bool:=
 match P.underlying s with
 |some (.struct fields)=>fields.all λf=>match P.info? f.type with|some i=>i.size !=0|none=>false
 |_=>false
theorem XG {P:Program} {s:TypeId}(hs:OZ P s=true)(x:Value)(n:Nat):D9 P (Instr.fieldAt s x n):=by
 intro w a w1 hr
 have key:D9 P (Instr.fieldAt s x n):=by
  unfold OZ at hs
  cases hu:P.underlying s with
  |none=>simp[hu]at hs
  |
   some d=>
   cases d with
   |
    struct fields=>
    simp[hu]at hs
    unfold Instr.fieldAt
    intro w a w1 hr
    have eu:∀w,(underlying s).run P w=.ok (.struct fields) w:=λw=>run_underlying hu w
    simp only[AK,eu,AH]at hr⊢
    cases hf:fields[n]? with
    |none=>simp[hf,stuck]at hr
    |
     some f=>
     simp only[hf]at hr⊢
     have hroom:=hs n (Al.1 hf).1
     have hfe:fields[n]'(Al.1 hf).1=f:=(Al.1 hf).2
     rw[hfe]at hroom
     cases hi:P.info? f.type with
     |none=>simp[hi]at hroom
     |
      some i=>
      simp[hi]at hroom
      have es:∀w,(sizeOf f.type).run P w=.ok i.size w:=λw=>by simp[sizeOf,typeInfo,program,Sem.run,hi]
      have hp:∀(b:Addr),D9 P (fieldPlace b f):=λb w a w1 hr=>by
       unfold fieldPlace at hr⊢
       simp only[AK,es,AH,if_neg hroom,Bn]at hr⊢
       cases hr;exact⟨rfl,λ_=>rfl⟩
      exact BQ (CP x) (λb=>BQ (hp b) λc=>AP _) w a w1 hr
   |_=>simp[hu]at hs
 exact key w a w1 hr
theorem XF {P:Program}(t:TypeId)(x ix:Value):D9 P (Instr.indexAt t x ix):=by
 unfold Instr.indexAt
 repeat' (first|exact AP _|exact B4 _|exact BF _|exact Du _|exact Ea _ _ _ _|exact DG _|exact DK _|exact E3 _|exact Eb _|exact CP _|exact Dc _|exact Cn _|exact Fa _ _ _|refine BQ ?_ (λ_=>?_)|split|dsimp only[])
theorem gH {P:Program}(t:TypeId)(x:Value)(n:Nat):D9 P (Instr.field t x n):=by
 unfold Instr.field
 repeat' (first|exact AP _|exact B4 _|exact BF _|exact Du _|exact Ea _ _ _ _|exact DG _|exact DK _|exact E3 _|exact Eb _|exact CP _|exact Dc _|exact Cn _|exact Fa _ _ _|refine BQ ?_ (λ_=>?_)|split|dsimp only[])
theorem gG {P:Program}(t:TypeId)(x ix:Value):D9 P (Instr.index t x ix):=by
 unfold Instr.index
 repeat' (first|exact AP _|exact B4 _|exact BF _|exact Du _|exact Ea _ _ _ _|exact DG _|exact DK _|exact E3 _|exact Eb _|exact CP _|exact Dc _|exact Cn _|exact Fa _ _ _|refine BQ ?_ (λ_=>?_)|split|dsimp only[])
theorem XH {P:Program}(t:Value)(n:Nat):D9 P (Instr.extract t n):=by
 unfold Instr.extract
 repeat' (first|exact AP _|exact B4 _|exact BF _|exact Du _|exact Ea _ _ _ _|exact DG _|exact DK _|exact E3 _|exact Eb _|exact CP _|exact Dc _|exact Cn _|exact Fa _ _ _|refine BQ ?_ (λ_=>?_)|split|dsimp only[])
theorem O5 {P:Program}(t:TypeId)(x:Value):D9 P (Instr.makeInterface t x):=by
 unfold Instr.makeInterface
 repeat' (first|exact AP _|exact B4 _|exact BF _|exact Du _|exact Ea _ _ _ _|exact DG _|exact DK _|exact E3 _|exact Eb _|exact CP _|exact Dc _|exact Cn _|exact Fa _ _ _|refine BQ ?_ (λ_=>?_)|split|dsimp only[])
theorem I0 {P:Program}(x:Value)(y:Nat)(c:BoundsCode):D9 P (Instr.sliceBound x y c):=by
 unfold Instr.sliceBound
 repeat' (first|exact AP _|exact B4 _|exact BF _|exact Du _|exact Ea _ _ _ _|exact DG _|exact DK _|exact E3 _|exact Eb _|exact CP _|exact Dc _|exact Cn _|exact Fa _ _ _|refine BQ ?_ (λ_=>?_)|split|dsimp only[])
theorem Kf {P:Program}(s:Bool)(n c:Nat)(l h m:Option Value):D9 P (Instr.sliceBounds s n c l h m):=by
 unfold Instr.sliceBounds
 repeat' (first|exact AP _|exact B4 _|exact BF _|exact Du _|exact Ea _ _ _ _|exact DG _|exact DK _|exact E3 _|exact Eb _|exact CP _|exact Dc _|exact Cn _|exact Fa _ _ _|exact I0 _ _ _|refine BQ ?_ (λ_=>?_)|split|dsimp only[])
theorem gE {P:Program}(t:TypeId)(x:Value)(l h m:Option Value):D9 P (Instr.slice t x l h m):=by
 unfold Instr.slice
 repeat' (first|exact AP _|exact B4 _|exact BF _|exact Du _|exact Ea _ _ _ _|exact DG _|exact DK _|exact E3 _|exact Eb _|exact CP _|exact Dc _|exact Cn _|exact Fa _ _ _|exact I0 _ _ _|exact Kf _ _ _ _ _ _|refine BQ ?_ (λ_=>?_)|split|dsimp only[])
theorem XE {P:Program}(t:TypeId)(x:Value)(l h m:Option Value):D9 P (Instr.sliceAt t x l h m):=by
 unfold Instr.sliceAt
 repeat' (first|exact AP _|exact B4 _|exact BF _|exact Du _|exact Ea _ _ _ _|exact DG _|exact DK _|exact E3 _|exact Eb _|exact CP _|exact Dc _|exact Cn _|exact Fa _ _ _|exact I0 _ _ _|exact Kf _ _ _ _ _ _|exact gE _ _ _ _ _|refine BQ ?_ (λ_=>?_)|split|dsimp only[])
theorem Om {P:Program}(op:BinOp)(k:IntKind)(x y:Int):D9 P (Op.intArith op k x y):=by
 unfold Op.intArith;split<;>first|exact AP _|exact B4 _
theorem Zt {P:Program}(op:BinOp)(x y:Int):D9 P (Op.intCmp op x y):=by
 unfold Op.intCmp;split<;>first|exact AP _|exact B4 _
theorem Zs {P:Program}(op:BinOp)(k:IntKind)(x y:Int):D9 P (Op.intDiv op k x y):=by
 unfold Op.intDiv
 repeat' (first|exact AP _|exact B4 _|exact BF _|exact Du _|exact Ea _ _ _ _|exact DG _|exact DK _|exact E3 _|exact Eb _|exact CP _|exact Dc _|exact Cn _|exact Fa _ _ _|refine BQ ?_ (λ_=>?_)|split|dsimp only[])
theorem VJ {P:Program}(op:BinOp)(x y:ByteArray):D9 P (Op.stringOp op x y):=by
 unfold Op.stringOp
 repeat' (first|exact AP _|exact B4 _|exact BF _|exact Du _|exact Ea _ _ _ _|exact DG _|exact DK _|exact E3 _|exact Eb _|exact CP _|exact Dc _|exact Cn _|exact Fa _ _ _|refine BQ ?_ (λ_=>?_)|split|dsimp only[])
def NR:BinOp->Bool
 |.eql|.neq=>true
 |_=>false
def yK:BinOp->Bool
 |.shl|.shr=>false
 |_=>true
def Fw(op:BinOp):Value->Value->Bool
 |.int _ _,.int _ _=>true
 |.string _,.string _=>true
 |.bool _,.bool _=>NR op
 |.pointer none,.pointer _=>NR op
 |.pointer (some _),.pointer none=>NR op
 |.iface _ _,.nilIface=>NR op
 |.slice none _ _,.slice _ _ _=>NR op
 |.slice (some _) _ _,.slice none _ _=>NR op
 |.map none,.map _=>NR op
 |.map (some _),.map none=>NR op
 |.nilFunc,.nilFunc=>NR op
 |.func _ _ _,.nilFunc=>NR op
 |_,_=>false
def Lk(op:BinOp)(x:Value)(y:Operand):Bool:=
 match x,y with
 |.nilIface,.const .nilIface=>NR op
 |_,_=>false
def BH(a:Act)(o:Oper):Bool:=
 match o.op with
 |.nilCheck x=>(match a.eval x with|.func .. =>false|_=>true)
 |.binOp op _ x y _=>Fw op (a.eval x) (a.eval y)||Lk op (a.eval x) y
 |.convert _ _ x=>(match a.eval x with|.int .. =>true|_=>false)
 |_=>true
def DM(P:Program)(G:List FuncId)(o:Oper):Nat:=
 match o.op with
 |.move _|.assign _|.pick .. |.nilCheck _|.binOp .. |.unOp .. |.makeInterface .. |.makeFunc .. |.slice .. |.field .. |.index .. |.indexAddr .. |.extract .. =>0
 |.build t _=>(match P.underlying t with|some (.struct _)=>0|_=>3)
 |.fieldAddr s _ _=>if OZ P s then 0 else 3
 |.convert _ d _=>(match P.underlying d with|some (.int _)=>0|_=>3)
 |.load .. =>1
 |.lookup .. =>5
 |
  .call c=>(match c.callee with
  |.builtin .len=>(match(c.argTypes[0]?).bind P.underlying with|some (.slice _)|some .string=>0|some (.map _ _)=>1|_=>9)
  |.value (.func f)=>if G.contains f then 2 else 3
  |.value (.tmp _)=>2
  |_=>3)
 |.alloc _|.box .. |.buildSlice .. |.makeMap _ none=>6
 |.makeSlice .. =>2
 |.select .. |.defer _|.go _=>9
 |_=>3
def Ej:Nat->Nat
 |0=>0|1=>1|5=>1|2=>2|6=>2|_=>3
def No:Exit->Act->World->Prop:=λ_ _ _=>False
section
variable {P:Program} {ops:Array Oper}
def RY(P:Program)(ops:Array Oper)(o:Oper)(K:Act->World->Prop)(a:Act)(w:World):Prop:=
 if Region.wanted o (yielded ops a.tmps)then o.wp P a w K No else K (a.put o.dst undef) w
def YR(P:Program)(ops:Array Oper)(o:Oper)(v:Value)(a:Act)(w:World):Prop:=
 (Region.wanted o (yielded ops a.tmps)=true/\∀w2,JT w w2->(execOp a.eval o).run P w2=.ok (.value v) w2)\/
 (Region.wanted o (yielded ops a.tmps)=false/\v=undef)
def Wg(P:Program)(ops:Array Oper)(c:Nat)(o:Oper)(K:Act->World->Prop)(a:Act)(w:World):Prop:=
 match c with
 |0=>∃v,Yields P ops o v a/\K (a.put o.dst v) w
 |1=>∃v,YR P ops o v a w/\K (a.put o.dst v) w
 |2=>RY P ops o (λa' w'=>JT w w'/\K a' w') a w
 |_=>RY P ops o K a w
theorem Oper.wp_imp {o:Oper} {a:Act} {w:World} {K K':Act->World->Prop} {Q:Exit->Act->World->Prop}(h:∀a w,K a w->K' a w)(hh:o.wp P a w K No):o.wp P a w K' Q:=by
 unfold Oper.wp at*
 generalize (execOp a.eval o).run P w=r at*
 cases r with
 |
  ok n w'=>
  cases n<;>simp only[Oper.upon]at hh⊢<;>
   first
    |exact h _ _ hh
    |exact Calls.mono hh (λe w'' he=>by cases e with|returned v=>exact h _ _ he|panicked c=>exact he.elim|outgrown=>obtain⟨_,_,f⟩:=he;exact f.elim)
    |exact Rows.mono hh (λ_ _ he=>h _ _ he)
 |halt x w'=>cases x<;>simp only[Oper.upon]at hh⊢<;>exact hh.elim
theorem IV {o:Oper} {a:Act} {w:World} {K K':Act->World->Prop}(h:∀a w,K a w->K' a w)(hh:RY P ops o K a w):RY P ops o K' a w:=by
 unfold RY at*
 split
 ·rename_i hw;rw[if_pos hw]at hh;exact Oper.wp_imp h hh
 ·rename_i hw;rw[if_neg hw]at hh;exact h _ _ hh
theorem vM {c:Nat} {o:Oper} {a:Act} {w:World} {K K':Act->World->Prop}(h:∀a w,K a w->K' a w)(hh:Wg P ops c o K a w):Wg P ops c o K' a w:=by
 unfold Wg at*
 split at hh
 ·obtain⟨v,h1,h2⟩:=hh;exact⟨v,h1,h _ _ h2⟩
 ·obtain⟨v,h1,h2⟩:=hh;exact⟨v,h1,h _ _ h2⟩
 ·exact IV (λa' w' ⟨h1,h2⟩=>⟨h1,h _ _ h2⟩) hh
 ·exact IV h hh
def Rel(o:Oper)(a a':Act):Prop:=∃u ds,a'=({a with defers:=ds}:Act).put o.dst u
theorem ADy {o:Oper} {a:Act} {w:World} {K:Act->World->Prop}(hh:o.wp P a w K No):o.wp P a w (λa' w'=>Rel o a a'/\K a' w') No:=by
 unfold Oper.wp at*
 generalize (execOp a.eval o).run P w=r at*
 cases r with
 |
  ok n w'=>
  cases n<;>simp only[Oper.upon]at hh⊢
  case value v=>exact⟨⟨v,_,rfl⟩,hh⟩
  case skip=>exact⟨⟨_,_,rfl⟩,hh⟩
  case defer d=>exact⟨⟨_,_,rfl⟩,hh⟩
  case enter f args=>exact Calls.mono hh (λe w'' he=>by cases e with|returned v=>exact⟨⟨v,_,rfl⟩,he⟩|panicked c=>exact he.elim|outgrown=>exact he)
  case row row args=>exact Rows.mono hh (λv _ he=>⟨⟨v,_,rfl⟩,he⟩)
 |halt x w'=>cases x<;>simp only[Oper.upon]at hh⊢<;>exact hh
theorem mF {o:Oper} {a:Act} {w:World} {K:Act->World->Prop}(hh:RY P ops o K a w):RY P ops o (λa' w'=>Rel o a a'/\K a' w') a w:=by
 unfold RY at*
 split
 ·rename_i hw;rw[if_pos hw]at hh;exact ADy hh
 ·rename_i hw;rw[if_neg hw]at hh;exact⟨⟨_,_,rfl⟩,hh⟩
theorem SO {o:Oper} {a:Act} {w:World} {K:Act->World->Prop}(hh:o.wp P a w K No):∃a' w',K a' w':=by
 unfold Oper.wp at*
 generalize (execOp a.eval o).run P w=r at*
 cases r with
 |
  ok n w'=>
  cases n<;>simp only[Oper.upon]at hh
  case value v=>exact⟨_,_,hh⟩
  case skip=>exact⟨_,_,hh⟩
  case defer d=>exact⟨_,_,hh⟩
  case enter f args=>
   obtain⟨e,w',fr,hR,_⟩:=hh []
   cases e with
   |returned v=>exact⟨_,_,hR⟩
   |panicked c=>exact hR.elim
   |outgrown=>obtain⟨_,_,f⟩:=hR;exact f.elim
  case row row args=>
   obtain⟨v,w',hR,_⟩:=hh default []
   exact⟨_,_,hR⟩
 |halt x w'=>cases x<;>simp only[Oper.upon]at hh<;>exact hh.elim
theorem vO {o:Oper} {a:Act} {w:World} {K:Act->World->Prop}(hh:RY P ops o K a w):∃a' w',K a' w':=by
 unfold RY at hh
 split at hh
 ·exact SO hh
 ·exact⟨_,_,hh⟩
theorem eM {x y:Oper}(h:x.apart ops y=true):
  (∀d,x.dst=some d->d∉y.looksAt ops)/\(∀d,x.dst=some d->y.dst≠some d)/\(∀d,y.dst=some d->d∉x.looksAt ops):=Oper.apart_spec h
section swap
variable {oi oj:Oper}(hsi:∀cs b,oi.op≠.select cs b)(hsj:∀cs b,oj.op≠.select cs b)
theorem cJ(hsi:∀cs b,oi.op≠.select cs b)(h3:∀d,oj.dst=some d->d∉oi.looksAt ops) {a a':Act}(hr:Rel oj a a'):execOp a'.eval oi=execOp a.eval oi:=by
 obtain⟨u,ds,rfl⟩:=hr
 exact execOp_put oi hsi _ oj.dst u h3
theorem To(h3:∀d,oj.dst=some d->d∉oi.looksAt ops) {a a':Act}(hr:Rel oj a a'):Region.wanted oi (yielded ops a'.tmps)=Region.wanted oi (yielded ops a.tmps):=by
 obtain⟨u,ds,rfl⟩:=hr
 exact wanted_put oi _ oj.dst u h3
theorem FX(hsi:∀cs b,oi.op≠.select cs b)(h3:∀d,oj.dst=some d->d∉oi.looksAt ops) {a a':Act} {v:Value}(hr:Rel oj a a'):Yields P ops oi v a'↔Yields P ops oi v a:=by
 unfold Yields;rw[cJ hsi h3 hr,To h3 hr]
theorem Tj(hsi:∀cs b,oi.op≠.select cs b)(h3:∀d,oj.dst=some d->d∉oi.looksAt ops) {a a':Act} {v:Value} {w:World}(hr:Rel oj a a'):YR P ops oi v a' w↔YR P ops oi v a w:=by
 unfold YR;rw[cJ hsi h3 hr,To h3 hr]
theorem J4(o:Oper)(a:Act)(v:Value):Rel o a (a.put o.dst v):=⟨v,a.defers,rfl⟩
theorem mG(hsj:∀cs b,oj.op≠.select cs b)(h1:∀d,oi.dst=some d->d∉oj.looksAt ops)(h2:∀d,oi.dst=some d->oj.dst≠some d) {K:Act->World->Prop} {a:Act} {w:World} {v:Value}:
  RY P ops oj K (a.put oi.dst v) w↔RY P ops oj (λa' w'=>K (a'.put oi.dst v) w') a w:=by
 have c:∀(b:Act) (u:Value),(b.put oj.dst u).put oi.dst v=(b.put oi.dst v).put oj.dst u:=λb u=>(Act.put_comm b v u h2).symm
 unfold RY
 rw[wanted_put oj a oi.dst v h1]
 split
 ·unfold Oper.wp
  rw[execOp_put oj hsj a oi.dst v h1]
  generalize (execOp a.eval oj).run P w=r
  cases r with
  |
   ok n w'=>
   cases n<;>simp only[Oper.upon]
   case value u=>rw[c]
   case skip=>rw[c]
   case defer d=>
    have e:(({a.put oi.dst v with defers:=d::(a.put oi.dst v).defers}:Act).put oj.dst undef)=(({a with defers:=d::a.defers}:Act).put oj.dst undef).put oi.dst v:=by rw[c,Act.put_defers]
    rw[<-e]
   case enter f args=>
    constructor
    ·intro h
     refine Calls.mono h λe w'' he=>?_
     cases e with
     |returned u=>show K _ _;rw[c];exact he
     |panicked c=>exact he
     |outgrown=>exact he
    ·intro h
     refine Calls.mono h λe w'' he=>?_
     cases e with
     |returned u=>show K _ _;rw[<-c];exact he
     |panicked c=>exact he
     |outgrown=>exact he
   case row row args=>
    constructor
    ·intro h
     refine Rows.mono h λu w'' he=>?_
     show K _ _
     rw[c];exact he
    ·intro h
     refine Rows.mono h λu w'' he=>?_
     show K _ _
     rw[<-c];exact he
  |halt x w'=>cases x<;>simp only[Oper.upon]<;>exact SD
 ·show K _ _↔K _ _
  rw[c]
theorem fG {o:Oper} {a:Act} {u v:Value}(h:Yields P ops o u a)(h':Yields P ops o v a):u=v:=by
 rcases h with⟨hw,h⟩|⟨hw,rfl⟩<;>rcases h' with⟨hw',h'⟩|⟨hw',rfl⟩
 ·have:=(h default).symm.trans (h' default);simpa using this
 ·rw[hw]at hw';cases hw'
 ·rw[hw]at hw';cases hw'
 ·rfl
def bU(ci cj:Nat):Bool:=ci==0||cj==0||(ci==1&&(cj==1||cj==2))
theorem oB(k:Nat):Ej k<=3:=by unfold Ej;split<;>omega
theorem swap(hsi:∀cs b,oi.op≠.select cs b)(hsj:∀cs b,oj.op≠.select cs b)(hap:oi.apart ops oj=true) {ci cj:Nat}(hi3:ci<=3)(hj3:cj<=3)(hf:bU ci cj=true) {K:Act->World->Prop} {a:Act} {w:World}
  (h:Wg P ops ci oi (Wg P ops cj oj K) a w):Wg P ops cj oj (Wg P ops ci oi K) a w:=by
 obtain⟨h1,h2,h3⟩:=eM hap
 have h2':∀d,oj.dst=some d->oi.dst≠some d:=λd hd he=>h2 d he hd
 have comm:∀(b:Act) (u v:Value),(b.put oi.dst v).put oj.dst u=(b.put oj.dst u).put oi.dst v:=λb u v=>Act.put_comm b v u h2
 have back:∀(v:Value) (K':Act->World->Prop),RY P ops oj K' (a.put oi.dst v) w->RY P ops oj (λa' w'=>Rel oj a a'/\K' (a'.put oi.dst v) w') a w:=λv K' hh=>mF ((mG hsj h1 h2).1 hh)
 have fore:∀(K':Act->World->Prop),RY P ops oi (λa' w'=>∃v,Yields P ops oj v a'/\K' (a'.put oj.dst v) w') a w->∃v,Yields P ops oj v a/\RY P ops oi K' (a.put oj.dst v) w:=λK' hh=>by
  have hh':=mF hh
  obtain⟨a',w',hr,v,hy,_⟩:=vO hh'
  have hy0:=(FX hsj h1 hr).1 hy
  refine⟨v,hy0,(mG hsi h3 h2').2 (IV ?_ hh')⟩
  rintro a'' w'' ⟨hr'',u,hu,hk⟩
  have:u=v:=fG ((FX hsj h1 hr'').1 hu) hy0
  subst this
  exact hk
 have foreR:∀(K':Act->World->Prop),RY P ops oi (λa' w'=>∃v,Yields P ops oj v a'/\K' (a'.put oj.dst v) w') a w->∃v,Yields P ops oj v a/\RY P ops oi K' (a.put oj.dst v) w:=fore
 have i0:ci=0\/ci=1\/ci=2\/ci=3:=by omega
 have j0:cj=0\/cj=1\/cj=2\/cj=3:=by omega
 rcases i0 with rfl|rfl|rfl|rfl<;>rcases j0 with rfl|rfl|rfl|rfl<;>first|(exfalso;revert hf;decide)|skip
 all_goals simp only[Wg]at h⊢
 ·obtain⟨v,hv,u,hu,hk⟩:=h
  exact⟨u,(FX hsj h1 (J4 oi a v)).1 hu,v,(FX hsi h3 (J4 oj a u)).2 hv,by rw[<-comm];exact hk⟩
 ·obtain⟨v,hv,u,hu,hk⟩:=h
  exact⟨u,(Tj hsj h1 (J4 oi a v)).1 hu,v,(FX hsi h3 (J4 oj a u)).2 hv,by rw[<-comm];exact hk⟩
 ·obtain⟨v,hv,hk⟩:=h
  exact IV (λa' w' ⟨hr,he,hk⟩=>⟨he,v,(FX hsi h3 hr).2 hv,hk⟩) (back v _ hk)
 ·obtain⟨v,hv,hk⟩:=h
  exact IV (λa' w' ⟨hr,hk⟩=>⟨v,(FX hsi h3 hr).2 hv,hk⟩) (back v _ hk)
 ·obtain⟨v,hv,u,hu,hk⟩:=h
  exact⟨u,(FX hsj h1 (J4 oi a v)).1 hu,v,(Tj hsi h3 (J4 oj a u)).2 hv,by rw[<-comm];exact hk⟩
 ·obtain⟨v,hv,u,hu,hk⟩:=h
  exact⟨u,(Tj hsj h1 (J4 oi a v)).1 hu,v,(Tj hsi h3 (J4 oj a u)).2 hv,by rw[<-comm];exact hk⟩
 ·obtain⟨v,hv,hk⟩:=h
  refine IV (λa' w' ⟨hr,he,hk⟩=>⟨he,v,(Tj hsi h3 hr).2 ?_,hk⟩) (back v _ hk)
  rcases hv with⟨hw,hv⟩|hv
  ·refine .inl ⟨hw,λw2 h2=>hv w2 ?_⟩
   intro k hk
   rw[h2 k,he k hk]
   have:=he k hk
   rw[BT hk]at this
   exact(Al.1 this).1
  ·exact .inr hv
 ·exact(fore (λa' w'=>JT w w'/\K a' w') (IV (λa' w' ⟨he,v,hv,hk⟩=>⟨v,hv,he,hk⟩) h))
 ·exact fore K h
end swap
end
end Go.Reg
