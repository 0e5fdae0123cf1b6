/- Merged: Lst Scp Str Num Gvr Pta Fal Ptc Ptd Ptx Wri Tbo. -/
import Derived.Shelf.Strings.OnBuilder
import Derived.Shelf.Strconv.Itoa3
import Derived.Test.YtjejpdfldmempaaGreatDoorRows
import Derived.Lib.ItoaNum
import Derived.Lib.AtoiAll
import Derived.Lib.IndexMore
import Derived.Test.YtjejpdfldmempaaGreatDoorltan
import Derived.Test.YtjejpdfldmempaaGreatDoorltap
import Derived.Lib.LaidTab
import Derived.Test.YtjejpdfldmempaaGreatDoorltaq
import Derived.Test.YtjejpdfldmempaaGreatDoorltar
import Derived.Lib.Join
section
namespace Go.Proofs
open Go.Shelf
def Tryz.joinL_ren:Go.Shelf.Ren:=⟨λ|156=>106|165=>156|166=>157|169=>158|240=>216|241=>217|276=>250|277=>251|n=>n,λ|31=>178|9=>9|3=>3|4=>4|0=>0|20=>20|72=>228|76=>229|70=>226|37=>49|75=>39|127=>288|164=>245|5=>5|80=>231|n=>n,λ|n=>n⟩
theorem Tryz.joinL:Go.Proofs.Lays.n156 Tryz.prog Tryz.joinL_ren:={
 mixed:=by kernel_rfl
 f156:=Tryz.func106.trans (congrArg some (by kernel_rfl))
 f165:=Tryz.func156.trans (congrArg some (by kernel_rfl))
 f166:=Tryz.func157.trans (congrArg some (by kernel_rfl))
 f169:=Tryz.func158.trans (congrArg some (by kernel_rfl))
 f240:=Tryz.func216.trans (congrArg some (by kernel_rfl))
 f241:=Tryz.func217.trans (congrArg some (by kernel_rfl))
 f276:=Tryz.func250.trans (congrArg some (by kernel_rfl))
 f277:=Tryz.func251.trans (congrArg some (by kernel_rfl))
 t0:=Tryz.underlying0
 a0:=Tryz.isAgg0
 z0:=Tryz.sizeOf0
 v0:=Tryz.zeroValue0
 t3:=Tryz.underlying3
 a3:=Tryz.isAgg3
 z3:=Tryz.sizeOf3
 v3:=Tryz.zeroValue3
 t4:=Tryz.underlying4
 a4:=Tryz.isAgg4
 z4:=Tryz.sizeOf4
 v4:=Tryz.zeroValue4
 t9:=Tryz.underlying9
 a9:=Tryz.isAgg9
 z9:=Tryz.sizeOf9
 v9:=Tryz.zeroValue9
 t20:=Tryz.underlying20
 a20:=Tryz.isAgg20
 z20:=Tryz.sizeOf20
 v20:=Tryz.zeroValue20
 t31:=Tryz.underlying178
 a31:=Tryz.isAgg178
 z31:=Tryz.sizeOf178
 v31:=Tryz.zeroValue178
 t37:=Tryz.underlying49
 a37:=Tryz.isAgg49
 z37:=Tryz.sizeOf49
 v37:=Tryz.zeroValue49
 t70:=Tryz.underlying226
 a70:=Tryz.isAgg226
 z70:=Tryz.sizeOf226
 v70:=Tryz.zeroValue226
 t72:=Tryz.underlying228
 a72:=Tryz.isAgg228
 z72:=Tryz.sizeOf228
 v72:=Tryz.zeroValue228
 t75:=Tryz.underlying39
 a75:=Tryz.isAgg39
 z75:=Tryz.sizeOf39
 v75:=Tryz.zeroValue39
 t76:=Tryz.underlying229
 a76:=Tryz.isAgg229
 z76:=Tryz.sizeOf229
 v76:=Tryz.zeroValue229
 t127:=Tryz.underlying288
 a127:=Tryz.isAgg288
 z127:=Tryz.sizeOf288
 v127:=Tryz.zeroValue288
 t164:=Tryz.underlying245
 a164:=Tryz.isAgg245
 z164:=Tryz.sizeOf245
 v164:=Tryz.zeroValue245}
def Tryz.itoaL_ren:Go.Shelf.Ren:=⟨λ|171=>105|243=>155|246=>215|283=>246|284=>247|285=>248|286=>249|129=>154|317=>259|318=>260|319=>261|320=>262|337=>278|338=>279|n=>n,λ|3=>3|9=>9|2=>2|4=>4|171=>315|0=>0|53=>186|37=>49|5=>5|173=>317|212=>327|51=>184|20=>20|213=>328|46=>177|232=>342|233=>343|n=>n,λ|17=>1|18=>3|19=>4|n=>n⟩
theorem Tryz.itoaL:Go.Proofs.LaysM.n171 Tryz.prog Tryz.itoaL_ren:={
 mixed:=by kernel_rfl
 f129:=Tryz.func154.trans (congrArg some (by kernel_rfl))
 f171:=Tryz.func105.trans (congrArg some (by kernel_rfl))
 f243:=Tryz.func155.trans (congrArg some (by kernel_rfl))
 f246:=Tryz.func215.trans (congrArg some (by kernel_rfl))
 f283:=Tryz.func246.trans (congrArg some (by kernel_rfl))
 f284:=Tryz.func247.trans (congrArg some (by kernel_rfl))
 f285:=Tryz.func248.trans (congrArg some (by kernel_rfl))
 f286:=Tryz.func249.trans (congrArg some (by kernel_rfl))
 f317:=Tryz.func259.trans (congrArg some (by kernel_rfl))
 f318:=Tryz.func260.trans (congrArg some (by kernel_rfl))
 f319:=Tryz.func261.trans (congrArg some (by kernel_rfl))
 f320:=Tryz.func262.trans (congrArg some (by kernel_rfl))
 f337:=Tryz.func278.trans (congrArg some (by kernel_rfl))
 f338:=Tryz.func279.trans (congrArg some (by kernel_rfl))
 t0:=Tryz.underlying0
 a0:=Tryz.isAgg0
 z0:=Tryz.sizeOf0
 v0:=Tryz.zeroValue0
 t2:=Tryz.underlying2
 a2:=Tryz.isAgg2
 z2:=Tryz.sizeOf2
 v2:=Tryz.zeroValue2
 t3:=Tryz.underlying3
 a3:=Tryz.isAgg3
 z3:=Tryz.sizeOf3
 v3:=Tryz.zeroValue3
 t4:=Tryz.underlying4
 a4:=Tryz.isAgg4
 z4:=Tryz.sizeOf4
 v4:=Tryz.zeroValue4
 t5:=Tryz.underlying5
 a5:=Tryz.isAgg5
 z5:=Tryz.sizeOf5
 v5:=Tryz.zeroValue5
 t9:=Tryz.underlying9
 a9:=Tryz.isAgg9
 z9:=Tryz.sizeOf9
 v9:=Tryz.zeroValue9
 t20:=Tryz.underlying20
 a20:=Tryz.isAgg20
 z20:=Tryz.sizeOf20
 v20:=Tryz.zeroValue20
 t37:=Tryz.underlying49
 a37:=Tryz.isAgg49
 z37:=Tryz.sizeOf49
 v37:=Tryz.zeroValue49
 t46:=Tryz.underlying177
 a46:=Tryz.isAgg177
 z46:=Tryz.sizeOf177
 v46:=Tryz.zeroValue177
 t51:=Tryz.underlying184
 a51:=Tryz.isAgg184
 z51:=Tryz.sizeOf184
 v51:=Tryz.zeroValue184
 t53:=Tryz.underlying186
 a53:=Tryz.isAgg186
 z53:=Tryz.sizeOf186
 v53:=Tryz.zeroValue186
 t171:=Tryz.underlying315
 a171:=Tryz.isAgg315
 z171:=Tryz.sizeOf315
 v171:=Tryz.zeroValue315
 t173:=Tryz.underlying317
 a173:=Tryz.isAgg317
 z173:=Tryz.sizeOf317
 v173:=Tryz.zeroValue317
 t212:=Tryz.underlying327
 a212:=Tryz.isAgg327
 z212:=Tryz.sizeOf327
 v212:=Tryz.zeroValue327
 t213:=Tryz.underlying328
 a213:=Tryz.isAgg328
 z213:=Tryz.sizeOf328
 t232:=Tryz.underlying342
 a232:=Tryz.isAgg342
 z232:=Tryz.sizeOf342
 v232:=Tryz.zeroValue342
 t233:=Tryz.underlying343
 a233:=Tryz.isAgg343
 z233:=Tryz.sizeOf343
 v233:=Tryz.zeroValue343
 g17:=by kernel_rfl
 g18:=by kernel_rfl
 g19:=by kernel_rfl
 i0:=by kernel_rfl
 i2:=by kernel_rfl
 i3:=by kernel_rfl
 i4:=by kernel_rfl
 i5:=by kernel_rfl
 i9:=by kernel_rfl
 i20:=by kernel_rfl
 i37:=by kernel_rfl
 i46:=by kernel_rfl
 i51:=by kernel_rfl
 i53:=by kernel_rfl
 i171:=by kernel_rfl
 i173:=by kernel_rfl
 i212:=by kernel_rfl
 i232:=by kernel_rfl
 i233:=by kernel_rfl
 m17:=by kernel_rfl
 m18:=by kernel_rfl
 m19:=by kernel_rfl}
end Go.Proofs
end
section
namespace Go.Gr
open Go
def bs(l:List UInt8):ByteArray:=⟨l.toArray⟩
theorem NF(a b:List UInt8):bs a++bs b=bs (a++b):=by
 apply ByteArray.ext
 rw[ByteArray.data_append]
 simp[bs]
theorem Hb(a:List UInt8):(bs a).size=a.length:=by simp[bs,ByteArray.size]
theorem iU {a b:List UInt8}(h:bs a=bs b):a=b:=by
 have:=congrArg (λx:ByteArray=>x.data.toList) h
 simpa[bs]using this
def uA:Nat->List UInt8
 |0=>[119,111,114,107]
 |1=>[100,101,108,105,118,101,114]
 |2=>[100,111,117,98,108,101]
 |3=>[99,114,97,115,104]
 |4=>[112,97,115,115]
 |_=>[102,105,110,105,115,104]
def uD(k n:Nat):List UInt8:=if k<4 then uA k++32::Lib.decDigits n else uA k
theorem M4 {n:Nat}(h:n<10):(UInt8.ofNat (48+n)).toNat=48+n:=by
 rw[UInt8.toNat_ofNat'];omega
theorem iJ:∀n:Nat,∀c∈Lib.decDigits n,48<=c.toNat/\c.toNat<=57:=by
 intro n
 induction n using Nat.strongRecOn with
 |
  _ n ih=>
  intro c hc
  rw[Lib.decDigits]at hc
  split at hc
  ·rw[AG]at hc
   rw[hc,M4 (by omega)];omega
  ·rcases Ag.1 hc with h|h
   ·exact ih (n/10) (by omega) c h
   ·rw[AG]at h
    rw[h,M4 (by omega)];omega
theorem sI(n:Nat):Lib.decDigits n≠[]:=by
 rw[Lib.decDigits]
 split<;>simp
def val:List UInt8->Nat
 |[]=>0
 |c::l=>(c.toNat-48)*10^l.length+val l
theorem Ye(c:UInt8):∀l:List UInt8,val (l++[c])=val l*10+(c.toNat-48)
 |[]=>by simp[val]
 |
  d::l=>by
  simp only[Bo,val,Ye c l,Ae,CB,Nat.pow_succ]
  rw[Ct,Nat.mul_assoc,IP]
theorem cF:∀n:Nat,val (Lib.decDigits n)=n:=by
 intro n
 induction n using Nat.strongRecOn with
 |
  _ n ih=>
  rw[Lib.decDigits]
  split
  ·simp only[val,Cf,M4 (by omega:n<10)];omega
  ·rw[Ye,ih (n/10) (by omega),M4 (by omega)];omega
theorem mV(n:Nat)(h:n<=999999):(Lib.decDigits n).length<=6:=by
 rw[Lib.decDigits_length]
 rcases Bu 6 (Lib.nDigits n)with h1|h1
 ·exfalso
  have h2:∀k m:Nat,k<Lib.nDigits m->10^k<=m\/k=0:=by
   intro k
   induction k with
   |zero=>intro m _;exact .inr rfl
   |
    succ k ih=>
    intro m hm
    left
    by_cases h10:m<10
    ·rw[Lib.nDigits_small h10]at hm;omega
    ·rw[Lib.nDigits_big h10]at hm
     rcases ih (m/10) (by omega)with h3|h3
     ·rw[Nat.pow_succ]
      have:=Fj 10 h3
      omega
     ·subst h3;omega
  rcases h2 6 n h1 with h3|h3
  ·omega
  ·omega
 ·exact h1
def sL(p:Nat×Nat):Prop:=p.1<6/\p.2<=999999/\(3<p.1->p.2=0)
def oI(b:List UInt8)(p:Nat×Nat):Prop:=sL p/\b=uD p.1 p.2
inductive Pars:List UInt8->List (Nat×Nat)->Bool->Prop
 |nil:Pars [] [] true
 |line {b:List UInt8} {p:Nat×Nat} {r:List UInt8} {l:List (Nat×Nat)} {ok:Bool}:oI b p->Pars r l ok->Pars (b++10::r) (p::l) ok
 |bad {b r:List UInt8}:10∉b->(∀p,¬oI b p)->Pars (b++10::r) [] false
 |last {b:List UInt8}:10∉b->b≠[]->Pars b [] false
end Go.Gr
end
section
namespace Go.Sx
open Go
theorem Tp {a b:ByteArray} {K:Prop}(h:a.size+b.size<=9223372036854775807)(hK:K):a.size+b.size<=9223372036854775807/\K:=⟨h,hK⟩
end Go.Sx
end
section
namespace Go.Proofs.YtjejpdfldmempaaGreatDoor
open Go.Sx Go.RowKit Go.Reg Go.Gr
set_option maxRecDepth 100000
theorem mM {C:Cx} {O:List Nat} {w:World} {p:Nat×Da}(h:Glob C O w)(hp:p∈C.Γ):∃c,RepC O w p.2 c/\Ed w p.1 0 c/\∃cs t fr,w.heap[p.1]? =some (.cells cs t fr)/\cs.size=gsz p.2:=by
 obtain⟨⟨cs,h1,h2⟩,_,h3⟩:=h p hp
 simp only[RepC]at h1
 obtain⟨b,o,c,rfl,_,_,h4,h5⟩:=h1
 simp only[Fc,kE,Value.pointer.injEq,Au,Addr.mk.injEq,and_true]at h2
 obtain⟨h6,rfl⟩:=h2
 subst h6
 exact⟨c,h4,h5,h3⟩
theorem Qc {O:List Nat} {w:World} {k:IntKind}:∀{l:List Int} {c:List Value},RepCs O w (l.map (Da.int k)) c->c=l.map (Value.int k)
 |[],c,h=>by simpa only[B4,RepCs]using h
 |
  x::l,c,h=>by
  simp only[Ap,RepCs,RepC]at h
  obtain⟨c1,c2,rfl,rfl,h⟩:=h
  rw[Qc h];rfl
theorem pF {P:Program} {C:Cx} {O:List Nat} {w:World} {g:Nat} {k:IntKind} {l:List Int} {name:String}(h:Glob C O w)(hp:(g,.agg (l.map (Da.int k)))∈C.Γ)(hn:P.globalNamed name=some g):Lib.TabIs P w name k l:=by
 obtain⟨c,h1,h2,cs,t,fr,h3,h4⟩:=mM h hp
 simp only[RepC]at h1
 have hc:=Qc h1
 subst hc
 unfold Lib.TabIs World.var?
 rw[hn,NJ]
 rw[h3]
 simp only[Au]
 have hsz:cs.size=l.length:=by rw[h4];simp[gsz]
 apply Array.ext
 ·simp[hsz]
 ·intro i h5 h6
  have:=h2 i (Value.int k (l[i]'(by omega))) (by rw[Af,Ab (by omega)];rfl)
  simp only[World.cell?,h3,E7]at this
  rw[B3 h5]at this
  simpa using this
theorem S5 {O:List Nat} {w:World} {s:ByteArray} {v:Value}(h:Rep O w (.str s) v):v=.string s:=by
 obtain⟨cs,h1,rfl⟩:=h
 simp only[RepC]at h1
 subst h1;rfl
end Go.Proofs.YtjejpdfldmempaaGreatDoor
end
section
namespace Go.Gr
structure Pt where
 labels:List Int
 edges:List Edg
theorem On {α:Type} {f:Nat->Option α} {n i:Nat} {y:α}(h:∀k,k<i->f k=none)(hi:f i=some y)(hn:i<n):(List.range n).findSome? f=some y:=by
 rw[List.findSome?_eq_some_iff]
 refine⟨List.range i,i,(List.range (n-i-1)).map (λk=>i+1+k),?_,hi,λk hk=>h k (AO.1 hk)⟩
 apply Fk
 intro k
 by_cases h1:k<n
 ·rw[Ep h1]
  rcases VY k i with h2|h2|h2
  ·rw[BO (by simpa using h2),Ep h2]
  ·subst h2
   rw[Cq (by simp),CX,Ih];rfl
  ·rw[Cq (by simp;omega),CX]
   obtain⟨d,hd⟩:∃d,k-i=d+1:=⟨k-i-1,by omega⟩
   rw[hd,List.getElem?_cons_succ,Af,Ep (by omega)]
   simp;omega
 ·rw[BB (by simp;omega),BB (by simp;omega)]
theorem J5 {α:Type} {f:Nat->Option α} {n:Nat}(h:∀k,k<n->f k=none):(List.range n).findSome? f=none:=by
 rw[List.findSome?_eq_none_iff]
 exactλk hk=>h k (AO.1 hk)
def Jr(l:List Int):Option (Int×Nat):=if 8<l.length then some (6,0)else(List.range l.length).findSome? λi=>if Bt ((l[i]?).getD 0)then some (3,i)else none
def Tl(n:Nat)(p:Option Edg)(e:Edg):Option Int:=
 if¬(0<=min e.a e.b/\max e.a e.b<n)then some 3 else if e.b<=e.a then some 2 else match p with
  |none=>none
  |some q=>if BW q e<0 then none else some 2
def Tm(n:Nat)(E:List Edg)(i:Nat):Option (Int×Nat):=match E[i]? with
 |none=>none
 |some e=>(Tl n (if i=0 then none else E[i-1]?) e).map λc=>(c,i)
def aY(n:Nat)(E:List Edg):Option (Int×Nat):=(List.range E.length).findSome? (Tm n E)
def Hj(p:Pt):Option (Int×Nat):=match Jr p.labels with
 |some x=>some x
 |none=>aY p.labels.length p.edges
theorem Nx {l:List Int}(h:Jr l=none):l.length<=8/\∀x∈l,0<=x/\x<=255:=by
 unfold Jr at h
 split at h
 ·cases h
 ·refine⟨by omega,λx hx=>?_⟩
  obtain⟨i,hi,rfl⟩:=Cu.1 hx
  have:=(List.findSome?_eq_none_iff.1 h) i (AO.2 hi)
  rw[Ab hi]at this
  simp[Bt]at this
  omega
theorem aX {n:Nat} {E:List Edg}(h:aY n E=none):(∀e∈E,0<=e.a/\e.a<e.b/\e.b<n)/\∀i x y,E[i]? =some x->E[i+1]? =some y->BW x y<0:=by
 have key:∀i e,E[i]? =some e->Tl n (if i=0 then none else E[i-1]?) e=none:=by
  intro i e hx
  have:=(List.findSome?_eq_none_iff.1 h) i (AO.2 (Ad.1 hx).1)
  unfold Tm at this
  rw[hx]at this
  simpa using this
 refine⟨λe he=>?_,λi x y hx hy=>?_⟩
 ·obtain⟨i,hi,rfl⟩:=Cu.1 he
  have:=key i _ (Ab hi)
  unfold Tl at this
  split at this
  ·cases this
  ·split at this
   ·cases this
   ·omega
 ·have:=key (i+1) y hy
  rw[if_neg (by omega),Nat.add_sub_cancel,hx]at this
  unfold Tl at this
  split at this
  ·cases this
  ·split at this
   ·cases this
   ·simp only at this
    split at this
    ·assumption
    ·cases this
end Go.Gr
end
section
namespace Go.Proofs.YtjejpdfldmempaaGreatDoor
open Go.Sx Go.RowKit Go.Reg
set_option maxRecDepth 100000
def dF(c a:Int)(s:ByteArray):Da:=.iface 141 (.ref (.agg [.int .i64 c,.int .i64 a,.str s]))
def dS(s:ByteArray)(x:Da):Da:=.iface 172 (.ref (.agg [.str s,x]))
theorem BU(c a:Int)(s:ByteArray):Pure C1 49 [.int .i64 c,.int .i64 a,.str s] (λy=>y=dF c a s):=by
 refine AT Tryz.func49 Tryz.ntmps49 [] [] ?_
 ((conv=>whnf);repeat' ((first|refine odw ?_|refine nx ?_|refine A5 (λ_=>?_) (λ_=>?_))<;>conv=>whnf))
 all_goals exact rfl
theorem mF(s:ByteArray)(t:TypeId)(x:Da):Pure C1 56 [.str s,.iface t x] (λy=>y=dS s ((Da.iface t x).plain)):=by
 refine AT Tryz.func56 Tryz.ntmps56 [] [] ?_
 ((conv=>whnf);repeat' ((first|refine odw ?_|refine nx ?_|refine A5 (λ_=>?_) (λ_=>?_))<;>conv=>whnf))
 all_goals exact rfl
theorem HJ(s:ByteArray)(c a:Int)(z:ByteArray):Pure C1 56 [.str s,dF c a z] (λy=>y=dS s (dF c a z)):=mF s _ _
end Go.Proofs.YtjejpdfldmempaaGreatDoor
end
section
namespace Go.Proofs.YtjejpdfldmempaaGreatDoor
open Go.Sx Go.RowKit Go.Reg Go.Gr
set_option maxRecDepth 100000
def ZI:ByteArray:=⟨#[112,97,116,116,101,114,110]⟩
def Xs:ByteArray:=⟨#[108,97,98,101,108]⟩
def iD:ByteArray:=⟨#[101,100,103,101]⟩
def L3(p:Pt):Da:=.agg [Bx p.labels,Er p.edges]
def EH(l:List Int):Da:=match Jr l with
 |none=>.nili
 |some (c,i)=>dF c i (if c=6 then ZI else Xs)
def Je(p:Pt):Da:=match Jr p.labels with
 |some (c,i)=>dF c i (if c=6 then ZI else Xs)
 |
  none=>match aY p.labels.length p.edges with
  |none=>.nili
  |some (c,i)=>dF c i iD
theorem gS {l:List Int}(h:8<l.length):Jr l=some (6,0):=if_pos h
theorem mD {l:List Int} {i:Nat} {x:Int}(h8:¬8<l.length)(h:∀k y,k<i->l[k]? =some y->Bt y=false)(hx:l[i]? =some x)(hb:Bt x=true):Jr l=some (3,i):=by
 unfold Jr
 rw[if_neg h8]
 refine On (i:=i) (λk hk=>?_) ?_ (Ad.1 hx).1
 ·have hkl:k<l.length:=by have:=(Ad.1 hx).1;omega
  have:=h k _ hk (Ab hkl)
  rw[Ab hkl]
  simp[this]
 ·rw[hx];simp[hb]
theorem SU {l:List Int}(h8:¬8<l.length)(h:∀k y,k<l.length->l[k]? =some y->Bt y=false):Jr l=none:=by
 unfold Jr
 rw[if_neg h8]
 refine J5 λk hk=>?_
 have:=h k _ hk (Ab hk)
 rw[Ab hk]
 simp[this]
theorem iW {l:List Int} {i:Nat} {x:Int}(h:∀k y,k<i->l[k]? =some y->Bt y=false)(hx:l[i]? =some x)(hb:Bt x=false):∀k y,k<i+1->l[k]? =some y->Bt y=false:=by
 intro k y hk hy
 rcases Bu k i with hl|hl
 ·exact h k y hl hy
 ·have:k=i:=by omega
  subst this
  rw[hx]at hy;cases hy;exact hb
theorem qY {x:Int}(h:¬(0<=x/\x<=255)):Bt x=true:=by simp[Bt];omega
theorem nI {x:Int}(h:0<=x/\x<=255):Bt x=false:=by simp[Bt];omega
theorem LZ(l:List Int)(hm:l.length<=9223372036854775807):Pure C1 47 [Bx l] (λy=>y=EH l):=by
 have hdl:(l.map dI).length=l.length:=Ac _
 refine AT Tryz.func47 Tryz.ntmps47 [] [] ?_
 by_cases h8:8<l.length
 ·have e:EH l=dF 6 0 ZI:=by unfold EH;rw[gS h8];rfl
  rw[e]
  (conv=>whnf)
  (repeat' ((first|refine Ai ?_ ?_|refine Aj rfl (BU 6 0 ZI) ?_|refine nx ?_|refine A5 (λ_=>?_) (λ_=>?_)|exact AA)<;>conv=>whnf))
  exact rfl
 ((conv=>whnf);repeat' ((first|refine odw ?_|refine nx ?_|refine A5 (λ_=>?_) (λ_=>?_))<;>conv=>whnf))
 refine AN (ι:=Nat) (λi=>i<=l.length/\∀k y,k<i->l[k]? =some y->Bt y=false) (λi=>[(11,.d (.int .i64 i)),(10,.d (.int .i64 l.length)),(9,.d (Bx l))]) (λ_=>[]) (λi=>l.length-i) 0 (λ_=>rfl) ⟨As _,(by intro k y h;omega)⟩ (.refl _ _) ⟨rfl,by rw[<-hdl];rfl,rfl,trivial⟩ trivial ?_
 rintro i ⟨hi,hok⟩
 refine BV [] [] ?_
 by_cases hil:i<l.length
 ·have hx:=Ab hil
  generalize l[i]=x at hx
  have hxd:(l.map dI)[i]? =some (.int .i64 x):=by rw[Af,hx];rfl
  by_cases hb:0<=x/\x<=255
  ·(conv=>whnf)
   (repeat' ((first|refine Ai ?_ ?_|refine AM hxd rfl ?_|refine nx ?_|refine A5 (λ_=>?_) (λ_=>?_)|exact AA)<;>conv=>whnf))
   exact⟨i+1,_,_,⟨by omega,iW hok hx (nI hb)⟩,.refl _ _,⟨rfl,rfl,rfl,trivial⟩,trivial,by omega⟩
  ·have e:EH l=dF 3 i Xs:=by unfold EH;rw[mD h8 hok hx (qY hb)];rfl
   rw[e]
   by_cases h0:x<0
   ·(conv=>whnf)
    (repeat' ((first|refine Ai ?_ ?_|refine AM hxd rfl ?_|refine Aj rfl (BU 3 i Xs) ?_|refine nx ?_|refine A5 (λ_=>?_) (λ_=>?_)|exact AA)<;>conv=>whnf))
    exact rfl
   ·(conv=>whnf)
    (repeat' ((first|refine Ai ?_ ?_|refine AM hxd rfl ?_|refine Aj rfl (BU 3 i Xs) ?_|refine nx ?_|refine A5 (λ_=>?_) (λ_=>?_)|exact AA)<;>conv=>whnf))
    exact rfl
 ·have e:EH l=.nili:=by unfold EH;rw[SU h8 (λk y hk hy=>hok k y (by omega) hy)]
  rw[e]
  ((conv=>whnf);repeat' ((first|refine odw ?_|refine nx ?_|refine A5 (λ_=>?_) (λ_=>?_))<;>conv=>whnf))
  exact rfl
theorem LV(e:Edg):Pure C1 57 [dE e] (λy=>y=dE (turn e)):=by
 refine AT Tryz.func57 Tryz.ntmps57 [] [] ?_
 ((conv=>whnf);repeat' ((first|refine odw ?_|refine nx ?_|refine A5 (λ_=>?_) (λ_=>?_))<;>conv=>whnf))
 exact rfl
theorem NN(e:Edg)(n:Nat):Pure C1 48 [dE e,.int .i64 n] (λy=>y=.bool (decide (0<=min e.a e.b/\max e.a e.b<n))):=by
 refine AT Tryz.func48 Tryz.ntmps48 [] [] ?_
 by_cases h1:0<=min e.a e.b
 ·by_cases h2:max e.a e.b<n
  ·rw[decide_eq_true ⟨h1,h2⟩]
   ((conv=>whnf);repeat' ((first|refine odw ?_|refine nx ?_|refine A5 (λ_=>?_) (λ_=>?_))<;>conv=>whnf))
   exact congrArg Da.bool (decide_eq_true h2)
  ·rw[decide_eq_false (λh=>h2 h.2)]
   ((conv=>whnf);repeat' ((first|refine odw ?_|refine nx ?_|refine A5 (λ_=>?_) (λ_=>?_))<;>conv=>whnf))
   exact congrArg Da.bool (decide_eq_false h2)
 ·rw[decide_eq_false (λh=>h1 h.1)]
  ((conv=>whnf);repeat' ((first|refine odw ?_|refine nx ?_|refine A5 (λ_=>?_) (λ_=>?_))<;>conv=>whnf))
  exact rfl
def pQ:List (Nat×Plan):=[(1,.leaf [0,1,0,1,2,0,1,0,1,2,6,2,0] [0,2,5,7,1,3,6,8,4,9,10,11,12] [0,1,0,4,15,0,32,0,128,511,1023,2047,4095])]
def sS:List FuncId:=[101,100]
theorem NZ(x y:Edg):Pure C1 50 [dE x,dE y] (λz=>z=.int .i64 (BW x y)):=by
 refine AT Tryz.func50 Tryz.ntmps50 sS pQ ?_
 have h1:=Gt x.a y.a
 have h2:=Gt x.b y.b
 have h3:=Y0 (Dg x.a y.a) (Dg x.b y.b)
 (conv=>whnf)
 (repeat' ((first|refine Ai ?_ ?_|refine Aj rfl h1 ?_|refine Aj rfl h2 ?_|refine Bc tab rfl h3 rfl ?_|refine nx ?_|refine A5 (λ_=>?_) (λ_=>?_)|exact AA)<;>conv=>whnf))
 exact rfl
end Go.Proofs.YtjejpdfldmempaaGreatDoor
end
section
namespace Go.Gr
theorem V3 {n:Nat} {E:List Edg} {i:Nat} {e:Edg}(hx:E[i]? =some e)(h1:0<=min e.a e.b/\max e.a e.b<n)(h2:e.a<e.b)(h3:i=0\/∃q,E[i-1]? =some q/\BW q e<0):Tm n E i=none:=by
 unfold Tm
 rw[hx]
 simp only[Option.map_eq_none_iff]
 unfold Tl
 rw[if_neg (λh=>h h1),if_neg (by omega)]
 rcases h3 with h3|⟨q,h3,h4⟩
 ·rw[if_pos h3]
 ·by_cases h0:i=0
  ·rw[if_pos h0]
  ·rw[if_neg h0,h3]
   simp only
   rw[if_pos h4]
theorem mS {n:Nat} {E:List Edg} {i:Nat} {e:Edg}(hx:E[i]? =some e)(h1:¬(0<=min e.a e.b/\max e.a e.b<n)):Tm n E i=some (3,i):=by
 unfold Tm
 rw[hx]
 simp only
 unfold Tl
 rw[if_pos h1];rfl
theorem iH {n:Nat} {E:List Edg} {i:Nat} {e:Edg}(hx:E[i]? =some e)(h1:0<=min e.a e.b/\max e.a e.b<n)(h2:e.b<=e.a):Tm n E i=some (2,i):=by
 unfold Tm
 rw[hx]
 simp only
 unfold Tl
 rw[if_neg (λh=>h h1),if_pos h2];rfl
theorem aZ {n:Nat} {E:List Edg} {i:Nat} {e q:Edg}(hx:E[i]? =some e)(h1:0<=min e.a e.b/\max e.a e.b<n)(h2:e.a<e.b)(h0:i≠0)(hq:E[i-1]? =some q)(h3:¬BW q e<0):Tm n E i=some (2,i):=by
 unfold Tm
 rw[hx]
 simp only
 unfold Tl
 rw[if_neg (λh=>h h1),if_neg (by omega),if_neg h0,hq]
 simp only
 rw[if_neg h3];rfl
theorem Tk {n:Nat} {E:List Edg} {i:Nat} {y:Int×Nat}(h:∀k,k<i->Tm n E k=none)(hi:Tm n E i=some y):aY n E=some y:=by
 have hl:i<E.length:=by
  rcases Bu i E.length with h|h
  ·exact h
  ·unfold Tm at hi
   rw[BB h]at hi
   cases hi
 exact On h hi hl
theorem mR {n:Nat} {E:List Edg}(h:∀k,k<E.length->Tm n E k=none):aY n E=none:=J5 h
theorem Rz {n:Nat} {E:List Edg} {i:Nat}(h:∀k,k<i->Tm n E k=none)(hi:Tm n E i=none):∀k,k<i+1->Tm n E k=none:=by
 intro k hk
 rcases Bu k i with hl|hl
 ·exact h k hl
 ·have:k=i:=by omega
  subst this;exact hi
def qM(E:List Edg)(x y:Int):Bool:=E.any λe=>decide (e.a=x/\e.b=y\/e.a=y/\e.b=x)
def XI(E:List Edg)(e:Edg):Int:=match E.findIdx? (λx=>decide (x=e))with
 |none=>-1
 |some i=>i
theorem mQ {E:List Edg} {e:Edg} {i:Nat}(h:∀k x,k<i->E[k]? =some x->x≠e)(hx:E[i]? =some e):XI E e=i:=by
 have:E.findIdx? (λx=>decide (x=e))=some i:=by
  rw[AJ]
  obtain⟨h1,h2⟩:=Ad.1 hx
  refine⟨h1,by simp[h2],λj hj=>?_⟩
  have:=h j _ hj (Ab (by omega))
  simpa using this
 unfold XI;rw[this]
theorem mP {E:List Edg} {e:Edg}(h:∀k x,k<E.length->E[k]? =some x->x≠e):XI E e=-1:=by
 have:E.findIdx? (λx=>decide (x=e))=none:=by
  rw[AK]
  intro x hx
  obtain⟨i,hi,rfl⟩:=Cu.1 hx
  simpa using h i _ hi (Ab hi)
 unfold XI;rw[this]
theorem iG {E:List Edg} {e:Edg}:(0<=XI E e)↔e∈E:=by
 unfold XI
 cases h:E.findIdx? (λx=>decide (x=e))with
 |
  none=>
  rw[AK]at h
  refine⟨λh=>by simp at h,λhe=>?_⟩
  have:=h e he
  simp at this
 |
  some i=>
  rw[AJ]at h
  obtain⟨h1,h2,_⟩:=h
  refine⟨λ_=>?_,λ_=>by simp⟩
  have h2:E[i]=e:=by simpa using h2
  rw[<-h2];exact Bi h1
end Go.Gr
namespace Go.Proofs.YtjejpdfldmempaaGreatDoor
open Go.Sx Go.RowKit Go.Reg Go.Gr
set_option maxRecDepth 100000
def fF:List (Nat×Plan):=[(9,.leaf [0,1,0,1,0,0,0,0,0,0,1,0,0,0,1,1,2,0,0,0,0] [0,2,1,3,4,5,6,7,8,9,11,12,10,13,14,15,16,17,18,19,20] [0,1,0,4,15,31,63,127,255,511,1023,511,2559,8191,16383,511,65535,131071,262143,524287,1048575])]
def oS:List FuncId:=[50,48]
set_option maxHeartbeats 4000000 in
theorem GS(p:Pt)(hm:p.labels.length<=9223372036854775807)(hme:p.edges.length<=9223372036854775807):Pure C1 13 [L3 p] (λy=>y=Je p):=by
 have hdl:(p.labels.map dI).length=p.labels.length:=Ac _
 have hde:(p.edges.map dE).length=p.edges.length:=Ac _
 have hlb:=LZ p.labels hm
 refine AT Tryz.func13 Tryz.ntmps13 oS fF ?_
 cases hl:Jr p.labels with
 |
  some x=>
  obtain⟨c,i⟩:=x
  have e1:EH p.labels=dF c i (if c=6 then ZI else Xs):=by unfold EH;rw[hl]
  have e2:Je p=dF c i (if c=6 then ZI else Xs):=by unfold Je;rw[hl]
  rw[e1]at hlb
  rw[e2]
  (conv=>whnf)
  (repeat' ((first|refine Ai ?_ ?_|refine Aj rfl hlb ?_|refine nx ?_|refine A5 (λ_=>?_) (λ_=>?_)|exact AA)<;>conv=>whnf))
  exact rfl
 |
  none=>
  have e1:EH p.labels=.nili:=by unfold EH;rw[hl]
  rw[e1]at hlb
  have e2:Je p=match aY p.labels.length p.edges with|none=>.nili|some (c,i)=>dF c i iD:=by unfold Je;rw[hl];try rfl
  rw[e2]
  (conv=>whnf)
  (repeat' ((first|refine Ai ?_ ?_|refine Aj rfl hlb ?_|refine nx ?_|refine A5 (λ_=>?_) (λ_=>?_)|exact AA)<;>conv=>whnf))
  refine AN (ι:=Nat) (λi=>i<=p.edges.length/\∀k,k<i->Tm p.labels.length p.edges k=none) (λi=>[(15,.d (.int .i64 i)),(14,.d (.int .i64 p.edges.length)),(13,.d (Er p.edges)),(1,.own 1)]) (λ_=>[(1,.cells 31 [.d (Bx p.labels),.d (Er p.edges)])]) (λi=>p.edges.length-i) 0 (λ_=>rfl) ⟨As _,(by intro k h;omega)⟩ (.refl _ _) ⟨rfl,by rw[<-hde];rfl,rfl,rfl,trivial⟩ ⟨rfl,trivial⟩ ?_
  rintro i ⟨hi,hok⟩
  refine BV oS fF ?_
  by_cases hil:i<p.edges.length
  ·have hx:=Ab hil
   generalize p.edges[i]=e at hx
   have hxd:(p.edges.map dE)[i]? =some (.agg [.int .i64 e.a,.int .i64 e.b]):=by rw[Af,hx];rfl
   have hwi:=NN e p.labels.length
   rw[<-hdl]at hwi
   by_cases h1:0<=min e.a e.b/\max e.a e.b<p.labels.length
   ·rw[decide_eq_true (by rw[hdl];exact h1)]at hwi
    by_cases h2:e.a<e.b
    ·by_cases h0:i=0
     ·subst h0
      (conv=>whnf)
      (repeat' ((first|refine Ai ?_ ?_|refine AM hxd rfl ?_|refine Aj rfl hwi ?_|refine nx ?_|refine A5 (λ_=>?_) (λ_=>?_)|exact AA)<;>conv=>whnf))
      exact⟨0+1,_,_,⟨by omega,Rz hok (V3 hx h1 h2 (.inl rfl))⟩,.refl _ _,⟨rfl,rfl,rfl,rfl,trivial⟩,⟨rfl,trivial⟩,by omega⟩
     ·have hy:=Ab (l:=p.edges) (i:=i-1) (by omega)
      generalize p.edges[i-1]'(by omega)=q at hy
      have hyd:(p.edges.map dE)[i-1]? =some (.agg [.int .i64 q.a,.int .i64 q.b]):=by rw[Af,hy];rfl
      have hor:=NZ q e
      by_cases h3:BW q e<0
      ·(conv=>whnf)
       (repeat' ((first|refine Ai ?_ ?_|refine AM hxd rfl ?_|refine Aj rfl hwi ?_|refine AM hyd (by omega) ?_|refine Aj rfl hor ?_|refine nx ?_|refine A5 (λ_=>?_) (λ_=>?_)|exact AA)<;>conv=>whnf))
       exact⟨i+1,_,_,⟨by omega,Rz hok (V3 hx h1 h2 (.inr ⟨q,hy,h3⟩))⟩,.refl _ _,⟨rfl,rfl,rfl,rfl,trivial⟩,⟨rfl,trivial⟩,by omega⟩
      ·rw[Tk hok (aZ hx h1 h2 h0 hy h3)]
       (conv=>whnf)
       (repeat' ((first|refine Ai ?_ ?_|refine AM hxd rfl ?_|refine Aj rfl hwi ?_|refine AM hyd (by omega) ?_|refine Aj rfl hor ?_|refine Aj rfl (BU 2 i iD) ?_|refine nx ?_|refine A5 (λ_=>?_) (λ_=>?_)|exact AA)<;>conv=>whnf))
       exact rfl
    ·rw[Tk hok (iH hx h1 (by omega))]
     (conv=>whnf)
     (repeat' ((first|refine Ai ?_ ?_|refine AM hxd rfl ?_|refine Aj rfl hwi ?_|refine Aj rfl (BU 2 i iD) ?_|refine nx ?_|refine A5 (λ_=>?_) (λ_=>?_)|exact AA)<;>conv=>whnf))
     exact rfl
   ·rw[decide_eq_false (by rw[hdl];exact h1)]at hwi
    rw[Tk hok (mS hx h1)]
    (conv=>whnf)
    (repeat' ((first|refine Ai ?_ ?_|refine AM hxd rfl ?_|refine Aj rfl hwi ?_|refine Aj rfl (BU 3 i iD) ?_|refine nx ?_|refine A5 (λ_=>?_) (λ_=>?_)|exact AA)<;>conv=>whnf))
    exact rfl
  ·rw[mR (λk hk=>hok k (by omega))]
   ((conv=>whnf);repeat' ((first|refine odw ?_|refine nx ?_|refine A5 (λ_=>?_) (λ_=>?_))<;>conv=>whnf))
   exact rfl
def fA:List (Nat×Plan):=[(4,.leaf [1,0,0,0,1,3] [1,2,3,0,4,5] [0,0,0,6,14,31])]
theorem Vz(E:List Edg)(e:Edg)(hm:E.length<=9223372036854775807):Pure C1 290 [Er E,dE e] (λy=>y=.int .i64 (XI E e)):=by
 have hde:(E.map dE).length=E.length:=Ac _
 refine AT Tryz.func290 Tryz.ntmps290 [] fA ?_
 ((conv=>whnf);repeat' ((first|refine odw ?_|refine nx ?_|refine A5 (λ_=>?_) (λ_=>?_))<;>conv=>whnf))
 refine AN (ι:=Nat) (λi=>i<=E.length/\∀k x,k<i->E[k]? =some x->x≠e) (λi=>[(8,.d (.int .i64 i)),(7,.d (.int .i64 E.length)),(3,.own 3),(0,.d (Er E))]) (λ_=>[(3,.cells 103 [.d (.int .i64 e.a),.d (.int .i64 e.b)])]) (λi=>E.length-i) 0 (λ_=>rfl) ⟨As _,(by intro k x h;omega)⟩ (.refl _ _) ⟨rfl,by rw[<-hde];rfl,rfl,rfl,trivial⟩ ⟨rfl,trivial⟩ ?_
 rintro i ⟨hi,hok⟩
 refine BV [] fA ?_
 by_cases hil:i<E.length
 ·have hx:=Ab hil
  generalize E[i]=x at hx
  have hxd:(E.map dE)[i]? =some (.agg [.int .i64 x.a,.int .i64 x.b]):=by rw[Af,hx];rfl
  by_cases hxe:x=e
  ·subst hxe
   rw[mQ hok hx]
   (conv=>whnf)
   (repeat' ((first|refine Ai ?_ ?_|refine AM hxd rfl ?_|refine nx ?_|refine A5 (λ_=>?_) (λ_=>?_)|exact AA)<;>conv=>whnf))
   exact rfl
  ·have hne:¬(e.a=x.a/\e.b=x.b):=λh=>hxe (by cases x;cases e;simp only at h;rw[h.1,h.2])
   (conv=>whnf)
   (repeat' ((first|refine Ai ?_ ?_|refine AM hxd rfl ?_|refine nx ?_|refine A5 (λ_=>?_) (λ_=>?_)|exact AA)<;>conv=>whnf))
   refine⟨i+1,_,_,⟨by omega,λk y hk hy=>?_⟩,.refl _ _,⟨rfl,rfl,rfl,rfl,trivial⟩,⟨rfl,trivial⟩,by omega⟩
   rcases Bu k i with hl|hl
   ·exact hok k y hl hy
   ·have:k=i:=by omega
    subst this
    rw[hx]at hy;cases hy;exact hxe
 ·rw[mP (λk x hk hx=>hok k x (by omega) hx)]
  ((conv=>whnf);repeat' ((first|refine odw ?_|refine nx ?_|refine A5 (λ_=>?_) (λ_=>?_))<;>conv=>whnf))
  exact rfl
theorem Qy(E:List Edg)(e:Edg)(hm:E.length<=9223372036854775807):Pure C1 289 [Er E,dE e] (λy=>y=.bool (decide (e∈E))):=by
 have h:=Vz E e hm
 refine AT Tryz.func289 Tryz.ntmps289 [] [] ?_
 (conv=>whnf)
 (repeat' ((first|refine Ai ?_ ?_|refine Aj rfl h ?_|refine nx ?_|refine A5 (λ_=>?_) (λ_=>?_)|exact AA)<;>conv=>whnf))
 exact congrArg Da.bool (decide_eq_decide.2 iG)
def pR:List (Nat×Plan):=[(1,.leaf [0,1,0,0,0,2,2,0] [0,2,3,4,1,5,6,7] [0,1,0,0,12,28,63,127])]
def sU:List FuncId:=[57,289]
theorem Rr(p:Pt)(a b:Int)(hme:p.edges.length<=9223372036854775807):Pure C1 286 [L3 p,.int .i64 a,.int .i64 b] (λy=>y=.bool (decide (turn ⟨a,b⟩∈p.edges))):=by
 have h1:=LV ⟨a,b⟩
 have h2:=Qy p.edges (turn ⟨a,b⟩) hme
 refine AT Tryz.func286 Tryz.ntmps286 sU pR ?_
 (conv=>whnf)
 (repeat' ((first|refine Ai ?_ ?_|refine Aj rfl h1 ?_|refine Aj rfl h2 ?_|refine nx ?_|refine A5 (λ_=>?_) (λ_=>?_)|exact AA)<;>conv=>whnf))
 exact rfl
theorem Jd {p:Pt}(h:Hj p=none):Je p=.nili:=by
 unfold Hj at h
 unfold Je
 split at h
 ·cases h
 ·rename_i hl
  rw[hl]
  simp only
  rw[h]
end Go.Proofs.YtjejpdfldmempaaGreatDoor
end
section
namespace Go.Gr
open Go
theorem UT(n:Nat):Lib.itoa n=Lib.decDigits n:=by
 unfold Lib.itoa
 rw[if_neg (by omega)];simp
theorem Jt {n:Int}(h0:0<=n)(h1:n<=999999):(Lib.itoa n).length<=6:=by
 obtain⟨k,rfl⟩:=A1 h0
 rw[UT]
 exact mV k (by omega)
theorem FX(x y:List UInt8)(r:List (List UInt8))(sep:List UInt8):Lib.join (x::y::r) sep=x++(sep++Lib.join (y::r) sep):=by
 simp[Lib.join,List.intercalate]
theorem PX {m:Nat}(sep:List UInt8):∀xs:List (List UInt8),(∀x∈xs,x.length<=m)->(Lib.join xs sep).length<=xs.length*(m+sep.length)
 |[],_=>by rw[Lib.join_nil];simp
 |
  [x],h=>by
  have:=h x (.head _)
  rw[Lib.join_one,CB];omega
 |
  x::y::r,h=>by
  have h1:=PX sep (y::r) (λz hz=>h z (.tail _ hz))
  have h2:=h x (.head _)
  rw[FX,Ae,Ae,Ax,Ct,Nat.one_mul];omega
def J7(e:Edg):List UInt8:=Lib.itoa e.a++45::Lib.itoa e.b
def Fu(p:Pt):List UInt8:=Lib.join (p.labels.map Lib.itoa) [44]++124::Lib.join (p.edges.map J7) [44]
end Go.Gr
namespace Go.Proofs.YtjejpdfldmempaaGreatDoor
open Go.Sx Go.RowKit Go.Reg Go.Gr Go.Shelf
set_option maxRecDepth 100000
theorem oD:Builder.Extra Tryz.prog Tryz.joinL_ren where
 sizeBuilder:=by kernel_rfl
 liesBuilder:=by kernel_rfl
 t5:=Tryz.underlying5
 a5:=by intro w;kernel_rfl
 z5:=by intro w;kernel_rfl
 v5:=by intro w;kernel_rfl
 infoByte:=by kernel_rfl
 cellsByte:=by kernel_rfl
 sizeByte:=by kernel_rfl
 neB5:=by decide
noncomputable def C3:Cx:=⟨Tryz.prog,C1.Γ++[(1,.agg (Lib.pow10Tab.map (Da.int .u64)))]⟩
theorem lX:(1,Da.agg (Lib.pow10Tab.map (Da.int .u64)))∈C3.Γ:=An _ (.head _)
theorem E6:C3.Ok tab:=⟨EN.tab,EN.mixed⟩
section
variable {n:Nat} {c:Code}
theorem IM {K:KE} {fr:Fr} {σ:Sg}(G:List FuncId)(pl:List (Nat×Plan))(h:Dj C3 tab n pl c K fr σ)(hk:BQ C3.P G pl c=true:=by kernel_rfl):EJ C3 n c K fr σ:=CR E6 c K fr σ hk h
theorem Uj {f:FuncId} {fn:Func} {xs:List Da} {Q:Da->Prop}(hf:C3.P.funcs[f]? =some fn)(hn:fn.ntmps=n)(G:List FuncId)(pl:List (Nat×Plan))(h:Dj C3 tab n pl c (Hr tab fn.results.toList (YS tab Q)) (params (B8 xs) 0) [])(hb:fn.body=some c:=by rfl)(hrun:∀(vs:Array Value) (w:World),(callFunc f vs).run C3.P w=.ok (.enter f vs) w:=by intros;kernel_rfl)(hk:BQ C3.P G pl c=true:=by kernel_rfl)(hl:xs.length<=n:=by simp):Pure C3 f xs Q:=Yu E6 hf hb hn hrun hk hl h
end
theorem Pure.up3 {f:FuncId} {xs:List Da} {Q:Da->Prop}(h:Sx.Pure C1 f xs Q):Sx.Pure C3 f xs Q:=λO w vs h1 h2 h3=>h O w vs h1 (λg hg=>h2 g (Az _ hg)) h3
theorem Lc(n:Int)(h0:-9223372036854775808<=n)(h1:n<=9223372036854775807):Sx.Pure C3 105 [.int .i64 n] (λy=>y=.str (bs (Lib.itoa n))):=by
 intro O w us hO hg hr
 obtain⟨v,vs,rfl,h3,h2⟩:=Cb hr
 obtain rfl:=ED h2
 obtain rfl:=FP h3
 refine⟨by kernel_rfl,(Any.strconv_Itoa Tryz.itoaL n h0 h1 w (pF hg lX (by kernel_rfl))).mono ?_⟩
 rintro e w' ⟨rfl,k,os,rfl⟩
 refine⟨_,_,rfl,rfl,⟨[_],by simp only[RepC];rfl,rfl⟩,⟨rfl,rfl,rfl,by rw[Go.Sort.size_grow];exact Nat.le_add_right _ _,λb hb _=>Go.Sort.heap_grow_old (w.drewN k) os hb⟩⟩
def MT(x:List UInt8):Da:=.str (bs x)
theorem TH {O:List Nat} {w:World}:∀{xs:List (List UInt8)} {css:List (List Value)},Al O w (xs.map MT) css->css=xs.map λx=>[Value.string (bs x)]
 |[],css,h=>by simpa only[B4,Al]using h
 |
  x::xs,css,h=>by
  simp only[Ap,Al,MT,RepC]at h
  obtain⟨c1,c2,rfl,rfl,h⟩:=h
  rw[TH h];rfl
theorem Zs(xs:List (List UInt8)):(xs.map λx=>[Value.string (bs x)]).flatten=xs.map λx=>Value.string (bs x):=by
 induction xs with
 |nil=>rfl
 |cons x xs ih=>simp only[Ap,Ci,ih];rfl
theorem RF(C:Cx)(hC:C.P=Tryz.prog)(xs:List (List UInt8))(sep:List UInt8)(hN:xs.length<=1000000)(hlen:(Lib.join xs sep).length<=140737488355328):Sx.Pure C 106 [.list 1 (xs.map MT),.str (bs sep)] (λy=>y=.str (bs (Lib.join xs sep))):=by
 intro O w us hO hg hr
 obtain⟨v,vs,rfl,h3,h2⟩:=Cb hr
 obtain⟨v2,vs2,rfl,h4,h5⟩:=Cb h2
 obtain rfl:=ED h5
 obtain rfl:=S5 h4
 obtain⟨cs,r,rfl⟩:=h3
 simp only[RepC]at r
 obtain⟨a,c,css,rfl,hc,_,hcs,_,hcell⟩:=r
 have hb:∀w':World,Below w.heap.size w w'->Tch [] w w':=λw' h=>⟨h.os,h.tape,h.output,h.size,λb hb _=>h.block b hb⟩
 obtain rfl:=TH hcs
 rw[Ac]at hc
 rw[hC]
 refine⟨by kernel_rfl,?_⟩
 show Calls Tryz.prog 106 #[.slice a (xs.map MT).length c,.string (bs sep)] w _
 rw[Ac]
 cases xs with
 |
  nil=>
  refine(Any.strings_Join_none Tryz.joinL oD a c (bs sep) w).mono ?_
  rintro e w' ⟨rfl,rfl⟩
  exact⟨_,_,rfl,rfl,⟨[_],by simp only[RepC];rfl,rfl⟩,Tch.refl _ _⟩
 |
  cons x xs=>
  obtain⟨b,o,rfl,_,hbl,hcl⟩:=hcell.resolve_left (by simp)
  rw[Zs]at hcl
  have hmap:((x::xs).map bs).map (·.data.toList)=x::xs:=by
   rw[QR]
   have:((λy:ByteArray=>y.data.toList)∘bs)=id:=by funext z;simp[bs]
   rw[this,List.map_id]
  have:=Any.strings_Join Tryz.joinL oD b o c ((x::xs).map bs) (bs sep) w (λj y hy=>by
   refine hcl j (.string y) ?_
   rw[Af]at hy⊢
   obtain⟨z,hz,rfl⟩:=BR.1 hy
   rw[hz];rfl) hbl (by rw[Ac];omega) (by rw[Ac];exact hc) (by rw[hmap];exact hlen)
  rw[hmap,Ac]at this
  refine this.mono ?_
  rintro e w' ⟨rfl,h⟩
  exact⟨_,_,rfl,rfl,⟨[_],by simp only[RepC];rfl,rfl⟩,hb _ h⟩
def WM:List (Nat×Plan):=[(10,.leaf [0,0,1,2,0,0,1,2,0,6,3,0] [0,1,5,2,6,3,4,7,8,9,10,11] [0,0,2,6,14,0,32,110,254,510,1023,2047])]
def jN:List FuncId:=[105,106]
set_option maxHeartbeats 4000000 in
theorem P3(p:Pt)(hl:p.labels.length<=1000)(hll:∀x∈p.labels,0<=x/\x<=999999)(he:p.edges.length<=1000)(hee:∀e∈p.edges,(0<=e.a/\e.a<=999999)/\0<=e.b/\e.b<=999999):Sx.Pure C3 59 [L3 p] (λy=>y=.str (bs (Fu p))):=by
 have hdl:(p.labels.map dI).length=p.labels.length:=Ac _
 have hde:(p.edges.map dE).length=p.edges.length:=Ac _
 refine Uj Tryz.func59 Tryz.ntmps59 jN WM ?_
 ((conv=>whnf);repeat' ((first|refine odw ?_|refine nx ?_|refine A5 (λ_=>?_) (λ_=>?_))<;>conv=>whnf))
 refine AN (ι:=Nat) (λi=>i<=p.labels.length) (λi=>[(12,.d (.int .i64 i)),(11,.d (.int .i64 p.labels.length)),(10,.d (Bx p.labels)),(4,.d .nils),(3,.own 300),(1,.own 1)]) (λi=>[(1,.cells 31 [.d (Bx p.labels),.d (Er p.edges)]),(300,.slice 9 1 (((p.labels.take i).map Lib.itoa).map MT))]) (λi=>p.labels.length-i) 0 (λ_=>rfl) (As _) (.own 3 300 9 1 rfl rfl (.refl _ _)) ⟨rfl,by rw[<-hdl];rfl,rfl,rfl,rfl,rfl,trivial⟩ ⟨rfl,rfl,trivial⟩ ?_
 intro i hi
 refine IM jN WM ?_
 by_cases hil:i<p.labels.length
 ·have hx:=Ab hil
  have hxb:=hll _ (Bi hil)
  generalize p.labels[i]=x at hx hxb
  have hxd:(p.labels.map dI)[i]? =some (.int .i64 x):=by rw[Af,hx];rfl
  have hit:=Lc x (by omega) (by omega)
  have hlen:(((p.labels.take i).map Lib.itoa).map MT).length=i:=by simp only[Ac,Aw];omega
  (conv=>whnf)
  (repeat' ((first|refine Ai ?_ ?_|refine AM hxd rfl ?_|refine Bc tab rfl hit rfl ?_|refine nx ?_|refine A5 (λ_=>?_) (λ_=>?_)|exact AA)<;>conv=>whnf))
  refine⟨i+1,_,_,by omega,.refl _ _,⟨rfl,rfl,rfl,rfl,rfl,rfl,trivial⟩,⟨rfl,Bj ?_,trivial⟩,by omega⟩
  rw[A2,hx];simp[MT]
 ·have e:p.labels.take i=p.labels:=Ao (by omega)
  rw[e]
  ((conv=>whnf);repeat' ((first|refine odw ?_|refine nx ?_|refine A5 (λ_=>?_) (λ_=>?_))<;>conv=>whnf))
  refine AN (ι:=Nat) (λi=>i<=p.edges.length) (λi=>[(25,.d (.int .i64 i)),(24,.d (.int .i64 p.edges.length)),(23,.d (Er p.edges)),(4,.own 301),(3,.own 300),(1,.own 1)]) (λi=>[(1,.cells 31 [.d (Bx p.labels),.d (Er p.edges)]),(300,.slice 9 1 ((p.labels.map Lib.itoa).map MT)),(301,.slice 9 1 (((p.edges.take i).map J7).map MT))]) (λi=>p.edges.length-i) 0 (λ_=>rfl) (As _) (.own 4 301 9 1 rfl rfl (.refl _ _)) ⟨rfl,by rw[<-hde];rfl,rfl,rfl,rfl,rfl,trivial⟩ ⟨rfl,rfl,rfl,trivial⟩ ?_
  intro j hj
  refine IM jN WM ?_
  by_cases hjl:j<p.edges.length
  ·have hx:=Ab hjl
   have hxb:=hee _ (Bi hjl)
   generalize p.edges[j]=e at hx hxb
   have hxd:(p.edges.map dE)[j]? =some (.agg [.int .i64 e.a,.int .i64 e.b]):=by rw[Af,hx];rfl
   have hia:=Lc e.a (by omega) (by omega)
   have hib:=Lc e.b (by omega) (by omega)
   have la:=Jt hxb.1.1 hxb.1.2
   have lb:=Jt hxb.2.1 hxb.2.2
   have za:=Hb (Lib.itoa e.a)
   have zb:=Hb (Lib.itoa e.b)
   have zc:(bs (Lib.itoa e.a)++bs [45]).size=(Lib.itoa e.a).length+1:=by rw[NF,Hb];simp
   have hlen:(((p.edges.take j).map J7).map MT).length=j:=by simp only[Ac,Aw];omega
   (conv=>whnf)
   (repeat' ((first|refine Ai ?_ ?_|refine AM hxd rfl ?_|refine Bc tab rfl hia rfl ?_|refine Bc tab rfl hib rfl ?_|refine Tp (a:=bs (Lib.itoa e.a)) (b:=bs [45]) (by rw[za];simp[Hb];omega) ?_|refine Tp (a:=bs (Lib.itoa e.a)++bs [45]) (b:=bs (Lib.itoa e.b)) (by omega) ?_|refine nx ?_|refine A5 (λ_=>?_) (λ_=>?_)|exact AA)<;>conv=>whnf))
   refine⟨j+1,_,_,by omega,.refl _ _,⟨rfl,rfl,rfl,rfl,rfl,rfl,trivial⟩,⟨rfl,rfl,Bj ?_,trivial⟩,by omega⟩
   have hs:MT (J7 e)=.str ((bs (Lib.itoa e.a)++bs [45])++bs (Lib.itoa e.b)):=by unfold MT J7;rw[NF,NF];simp
   rw[A2,hx,AF,AF]
   show _=_++[MT (J7 e)]
   rw[hs];rfl
  ·have e:p.edges.take j=p.edges:=Ao (by omega)
   rw[e]
   have l1:=PX (m:=6) [44] (p.labels.map Lib.itoa) (λx hx=>by
    obtain⟨y,hy,rfl⟩:=Aq.1 hx
    exact Jt (hll y hy).1 (hll y hy).2)
   have l2:=PX (m:=13) [44] (p.edges.map J7) (λx hx=>by
    obtain⟨y,hy,rfl⟩:=Aq.1 hx
    have:=hee y hy
    have h1:=Jt this.1.1 this.1.2
    have h2:=Jt this.2.1 this.2.2
    unfold J7
    rw[Ae,Ax];omega)
   rw[Ac,CB]at l1 l2
   have j1:=RF C3 rfl (p.labels.map Lib.itoa) [44] (by rw[Ac];omega) (by omega)
   have j2:=RF C3 rfl (p.edges.map J7) [44] (by rw[Ac];omega) (by omega)
   have z1:=Hb (Lib.join (p.labels.map Lib.itoa) [44])
   have z2:=Hb (Lib.join (p.edges.map J7) [44])
   have z3:(bs (Lib.join (p.labels.map Lib.itoa) [44])++bs [124]).size=(Lib.join (p.labels.map Lib.itoa) [44]).length+1:=by rw[NF,Hb];simp
   (conv=>whnf)
   (repeat' ((first|refine Ai ?_ ?_|refine Du 300 rfl ?_|refine Du 301 rfl ?_|refine Aj rfl j1 ?_|refine Aj rfl j2 ?_|refine Tp (a:=bs (Lib.join (p.labels.map Lib.itoa) [44])) (b:=bs [124]) (by rw[z1];simp[Hb];omega) ?_|refine Tp (a:=bs (Lib.join (p.labels.map Lib.itoa) [44])++bs [124]) (b:=bs (Lib.join (p.edges.map J7) [44])) (by omega) ?_|refine nx ?_|refine A5 (λ_=>?_) (λ_=>?_)|exact AA)<;>conv=>whnf))
   show Da.plain (.str ((bs _++bs [124])++bs _))=_
   unfold Fu
   rw[NF,NF]
   simp[Da.plain]
end Go.Proofs.YtjejpdfldmempaaGreatDoor
end
section
namespace Go.Sx
section
variable {C:Cx} {T:Fm} {fr:Fr} {σ:Sg}
theorem I0(b:Nat) {n kd:Nat} {o:Oper} {K:Fr->Sg->Prop} {t ty:Nat} {x y:Operand} {k yk:IntKind} {a:Int}(ho:o.op=.binOp .shr t x y ty)(hx:ev C.Γ fr x=.d (.int k a))(hy:ev C.Γ fr y=.d (.int yk (b:Int)))(hb:Nat.ble b k.bits=true)(hkd:kd=3)(hd:CZ o.dst n=true)
  (hK:K (Cm o.dst (.d (.int k (a.fdiv (2^b)))) fr) σ):AY C n kd o K fr σ:=by
 subst hkd
 refine B5 (by decide) (by decide) hd λB S w0 η φ a' w hM=>?_
 have e1:=FP (EL (AV hM x) hx)
 have e2:=FP (EL (AV hM y) hy)
 refine .inr ⟨_,_,hK,?_,Ew _ _,λh=>by cases h⟩
 simp only[execOp,ho]
 rw[e1,e2]
 refine CP ?_
 have h:Op.shift .shr k a yk (b:Int)=pure (.int k (a.fdiv (2^b))):=by
  unfold Op.shift
  have h1:¬((b:Int)<0):=by omega
  have h2:min ((b:Int).toNat) k.bits=b:=by
   have:=GK hb
   rw[Be];omega
  rw[if_neg h1,h2]
 simp[eqGuard,binOp,h]
theorem cG {e:Int} {K:Int->Prop}(h:0<=e/\e<=4294967295)(hK:K e):∃n,IntKind.u32.wrap e=n/\K n:=⟨e,by
 unfold IntKind.wrap
 simp[IntKind.signed,IntKind.bits]
 omega,hK⟩
theorem Yc {k:IntKind} {a:Int} {K:Int->Prop}(h:K (k.wrap a)):∃n,k.wrap a=n/\K n:=⟨_,rfl,h⟩
end
end Go.Sx
namespace Go.Proofs.YtjejpdfldmempaaGreatDoor
open Go.Sx Go.RowKit Go.Reg Go.Gr
set_option maxRecDepth 100000
theorem rV {n:Nat} {c:Code} {f:FuncId} {fn:Func} {xs:List Da} {E k:Nat} {Q:List Da->Prop}(hf:C3.P.funcs[f]? =some fn)(hn:fn.ntmps=n)(G:List FuncId)(pl:List (Nat×Plan))(h:Dj C3 tab n pl c (Hr tab fn.results.toList (Hc E k Q)) (params (B8 xs) 0) [])(hb:fn.body=some c:=by rfl)(hrun:∀(vs:Array Value) (w:World),(callFunc f vs).run C3.P w=.ok (.enter f vs) w:=by intros;kernel_rfl)(hk:BQ C3.P G pl c=true:=by kernel_rfl)(hl:xs.length<=n:=by simp):D4 C3 f xs E k Q:=SL E6 hf hb hn hrun hk hl h
def w4(x:Int):List Int:=[IntKind.u8.wrap (x.fdiv (2^24)),IntKind.u8.wrap (x.fdiv (2^16)),IntKind.u8.wrap (x.fdiv (2^8)),IntKind.u8.wrap x]
def Yw:List (Nat×Plan):=[]
def jH:List FuncId:=[]
theorem iM:BQ Tryz.prog jH Yw (Tryz.f109.body.getD .skip)=true:=by kernel_rfl
theorem dY(vs:Array Value)(w:World):(callFunc 109 vs).run C3.P w=.ok (.enter 109 vs) w:=by kernel_rfl
theorem Za(x:Int):D4 C3 109 [.nils,.int .u32 x] 5 1 (λr=>r=bD (w4 x)):=by
 refine rV Tryz.func109 Tryz.ntmps109 [] [] ?_
 (conv=>whnf)
 (repeat' ((first|refine Ai ?_ ?_|refine I0 24 rfl rfl rfl rfl rfl rfl ?_|refine I0 16 rfl rfl rfl rfl rfl rfl ?_|refine I0 8 rfl rfl rfl rfl rfl rfl ?_|refine Yc ?_|refine nx ?_|refine A5 (λ_=>?_) (λ_=>?_)|exact AA)<;>conv=>whnf))
 exact⟨rfl,rfl,rfl⟩
theorem OU(bs:List Int)(x:Int)(h:bs.length<=4000000000):Oy C3 109 5 1 (bD bs) [.int .u32 x] (λr=>r=bD (bs++w4 x)):=by
 have hl:=Q8 bs
 refine V2 E6 (pl:=Yw) (G:=jH) Tryz.func109 rfl Tryz.ntmps109 dY iM (by simp) ?_
 (conv=>whnf)
 (repeat' ((first|refine Ai ?_ ?_|refine I0 24 rfl rfl rfl rfl rfl rfl ?_|refine I0 16 rfl rfl rfl rfl rfl rfl ?_|refine I0 8 rfl rfl rfl rfl rfl rfl ?_|refine Yc ?_|refine nx ?_|refine A5 (λ_=>?_) (λ_=>?_)|exact AA)<;>conv=>whnf))
 exact⟨rfl,rfl,by show _=_;rw[iX];rfl⟩
def wS(bs:List Int):Sg:=[(900,.cells 129 [.own 901,.d .nili]),(901,.slice 5 1 (bD bs))]
def wN:Sg:=[(900,.cells 129 [.d .nils,.d .nili])]
def WN:List (Nat×Plan):=[(2,.split 4 10 (.leaf [0,0,0,0,1,0,0,0,1,0,3,6,3,0,0,3] [0,1,2,3,5,6,7,4,8,9,10,11,12,13,14,15] [0,0,2,6,14,0,32,96,224,480,1022,2046,4094,8191,16383,32767]) (.leaf [0,0,0,0,1,0,0,0,1,0,3,6,3,0,0,3] [0,1,2,3,5,6,7,8,9,10,4,11,12,13,14,15] [0,0,2,6,2030,0,32,96,224,480,992,2046,4094,8191,16383,32767]))]
def jP:List FuncId:=[]
theorem YL:BQ Tryz.prog jP WN (Tryz.f65.body.getD .skip)=true:=by kernel_rfl
theorem Yr(vs:Array Value)(w:World):(callFunc 65 vs).run C3.P w=.ok (.enter 65 vs) w:=by kernel_rfl
theorem SJ(bs:List Int)(n:Int)(h:bs.length<=4000000000)(h0:0<=n)(h1:n<=4294967295):CG C3 65 [.own 900,.d (.int .i64 n)] (wS bs) [900] (λd σ=>d=.d (.tuple [])/\σ=wS (bs++w4 n)):=by
 have hw:=OU bs n h
 refine FD E6 (pl:=WN) (G:=jP) Tryz.func65 rfl Tryz.ntmps65 Yr YL (by simp) 999 rfl ?_
 intro vs
 (conv=>whnf)
 (repeat' ((first|refine Ai ?_ ?_|refine cG ⟨h0,h1⟩ ?_|refine nx ?_|refine A5 (λ_=>?_) (λ_=>?_)|exact AA)<;>conv=>whnf))
 refine JC rfl rfl hw ?_;rintro ds rfl
 ((conv=>whnf);repeat' ((first|refine odw ?_|refine nx ?_|refine A5 (λ_=>?_) (λ_=>?_))<;>conv=>whnf))
 exact⟨_,_,[],wS (bs++w4 n),.lo (.refl _ _),rfl,⟨rfl,rfl,trivial⟩,rfl,rfl,rfl⟩
theorem Y3(n:Int)(h0:0<=n)(h1:n<=4294967295):CG C3 65 [.own 900,.d (.int .i64 n)] wN [900] (λd σ=>d=.d (.tuple [])/\σ=wS (w4 n)):=by
 refine FD E6 (pl:=WN) (G:=jP) Tryz.func65 rfl Tryz.ntmps65 Yr YL (by simp) 999 rfl ?_
 intro vs
 (conv=>whnf)
 (repeat' ((first|refine Ai ?_ ?_|refine cG ⟨h0,h1⟩ ?_|refine nx ?_|refine A5 (λ_=>?_) (λ_=>?_)|exact AA)<;>conv=>whnf))
 refine Ee 901 rfl rfl (Za n) ?_;rintro ds rfl
 ((conv=>whnf);repeat' ((first|refine odw ?_|refine nx ?_|refine A5 (λ_=>?_) (λ_=>?_))<;>conv=>whnf))
 exact⟨_,_,[],wS (w4 n),.lo (.refl _ _),rfl,⟨rfl,rfl,trivial⟩,rfl,rfl,rfl⟩
def w8(n:Int):List Int:=w4 (IntKind.u32.wrap ((IntKind.u64.wrap n).fdiv (2^32)))++w4 (IntKind.u32.wrap n)
theorem F9(n:Int):(w4 n).length=4:=rfl
theorem pA(n:Int):(w8 n).length=8:=rfl
def fI:List (Nat×Plan):=[]
def oW:List FuncId:=[]
theorem nA:BQ Tryz.prog oW fI (Tryz.f68.body.getD .skip)=true:=by kernel_rfl
theorem lF(vs:Array Value)(w:World):(callFunc 68 vs).run C3.P w=.ok (.enter 68 vs) w:=by kernel_rfl
theorem lZ(bs:List Int)(n:Int)(h:bs.length<=3999999996):CG C3 68 [.own 900,.d (.int .i64 n)] (wS bs) [900] (λd σ=>d=.d (.tuple [])/\σ=wS (bs++w8 n)):=by
 have hw:=OU bs (IntKind.u32.wrap ((IntKind.u64.wrap n).fdiv (2^32))) (by omega)
 have hw2:=OU (bs++w4 (IntKind.u32.wrap ((IntKind.u64.wrap n).fdiv (2^32)))) (IntKind.u32.wrap n) (by rw[Ae,F9];omega)
 rw[Bz]at hw2
 refine FD E6 (pl:=fI) (G:=oW) Tryz.func68 rfl Tryz.ntmps68 lF nA (by simp) 999 rfl ?_
 intro vs
 (conv=>whnf)
 (repeat' ((first|refine Ai ?_ ?_|refine I0 32 rfl rfl rfl rfl rfl rfl ?_|refine Yc ?_|refine nx ?_|refine A5 (λ_=>?_) (λ_=>?_)|exact AA)<;>conv=>whnf))
 refine JC rfl rfl hw ?_;rintro ds rfl
 (conv=>whnf)
 (repeat' ((first|refine Ai ?_ ?_|refine Yc ?_|refine nx ?_|refine A5 (λ_=>?_) (λ_=>?_)|exact AA)<;>conv=>whnf))
 refine JC rfl rfl hw2 ?_;rintro ds rfl
 ((conv=>whnf);repeat' ((first|refine odw ?_|refine nx ?_|refine A5 (λ_=>?_) (λ_=>?_))<;>conv=>whnf))
 exact⟨_,_,[],wS (bs++w8 n),.lo (.refl _ _),rfl,⟨rfl,rfl,trivial⟩,rfl,rfl,rfl⟩
def eY:List (Nat×Plan):=[]
def oM:List FuncId:=[]
theorem mY:BQ Tryz.prog oM eY (Tryz.f66.body.getD .skip)=true:=by kernel_rfl
theorem lD(vs:Array Value)(w:World):(callFunc 66 vs).run C3.P w=.ok (.enter 66 vs) w:=by kernel_rfl
theorem cK(bs:List Int)(s:ByteArray)(h:bs.length<=3999999996)(hs:s.size<=4294967295):CG C3 66 [.own 900,.d (.str s)] (wS bs) [900] (λd σ=>d=.d (.tuple [])/\σ=wS (bs++w4 s.size++sB s)):=by
 have hn:=SJ bs s.size (by omega) (by omega) (by omega)
 refine FD E6 (pl:=eY) (G:=oM) Tryz.func66 rfl Tryz.ntmps66 lD mY (by simp) 999 rfl ?_
 intro vs
 (conv=>whnf)
 ((conv=>whnf);repeat' ((first|refine odw ?_|refine nx ?_|refine A5 (λ_=>?_) (λ_=>?_))<;>conv=>whnf))
 refine CW [] [900,901] hn rfl rfl rfl rfl rfl rfl rfl ?_
 ((conv=>whnf);repeat' ((first|refine odw ?_|refine nx ?_|refine A5 (λ_=>?_) (λ_=>?_))<;>conv=>whnf))
 refine ZN 901 E6 rfl rfl rfl rfl rfl rfl rfl rfl rfl rfl rfl rfl rfl rfl rfl rfl rfl rfl (by rw[Ae,F9];omega) ?_
 ((conv=>whnf);repeat' ((first|refine odw ?_|refine nx ?_|refine A5 (λ_=>?_) (λ_=>?_))<;>conv=>whnf))
 exact⟨_,_,[],wS (bs++w4 s.size++sB s),.lo (.refl _ _),rfl,⟨rfl,rfl,trivial⟩,rfl,rfl,rfl⟩
def wL(l:List Int):List Int:=l.flatMap w4
theorem kL(l:List Int)(x:Int):wL (l++[x])=wL l++w4 x:=by unfold wL;rw[BH,L1]
theorem tY(A l:List Int)(x:Int):A++wL l++w4 x=A++wL (l++[x]):=by rw[kL,Bz]
theorem OW(l:List Int):(wL l).length=4*l.length:=by
 induction l with
 |nil=>rfl
 |cons x l ih=>unfold wL at*;rw[AZ,Ae,ih,F9,Ax];omega
def WK:List (Nat×Plan):=[]
def jI:List FuncId:=[]
theorem YJ:BQ Tryz.prog jI WK (Tryz.f110.body.getD .skip)=true:=by kernel_rfl
theorem Yo(vs:Array Value)(w:World):(callFunc 110 vs).run C3.P w=.ok (.enter 110 vs) w:=by kernel_rfl
section
variable {l:List Int}
theorem mB(bs:List Int)(hl:∀x∈l,0<=x/\x<=4294967295)(hb:bs.length+4*l.length<=3999999996):CG C3 110 [.own 900,.d (Bx l)] (wS bs) [900] (λd σ=>d=.d (.tuple [])/\σ=wS ((bs++w4 (l.map dI).length)++wL l)):=by
 have hll:(l.map dI).length=l.length:=Ac _
 have hn:=SJ bs (l.map dI).length (by omega) (by omega) (by omega)
 refine FD E6 (pl:=WK) (G:=jI) Tryz.func110 rfl Tryz.ntmps110 Yo YJ (by simp) 999 rfl ?_
 intro vs
 (conv=>whnf)
 ((conv=>whnf);repeat' ((first|refine odw ?_|refine nx ?_|refine A5 (λ_=>?_) (λ_=>?_))<;>conv=>whnf))
 refine CW [] [900,901] hn rfl rfl rfl rfl rfl rfl rfl ?_
 ((conv=>whnf);repeat' ((first|refine odw ?_|refine nx ?_|refine A5 (λ_=>?_) (λ_=>?_))<;>conv=>whnf))
 refine AN (ι:=Nat) (λi=>i<=l.length) (λi=>[(12,.d (.int .i64 i)),(11,.d (.int .i64 (l.map dI).length)),(10,.d (Bx l)),(0,.own 900)]) (λi=>(999,.ghost vs [.own 900])::wS ((bs++w4 (l.map dI).length)++wL (l.take i))) (λi=>l.length-i) 0 (λ_=>rfl) (As _) (.refl _ _) ⟨rfl,rfl,rfl,rfl,trivial⟩ ⟨rfl,rfl,by rw[show wL (l.take 0)=[]from rfl,C4];rfl,trivial⟩ ?_
 intro i hi
 refine IM [] [] ?_
 by_cases hlt:i<l.length
 ·have hx:l[i]? =some l[i]:=Ab hlt
  have hxm:=hl _ (AD hx)
  have htk:l.take (i+1)=l.take i++[l[i]]:=by rw[A2,hx];rfl
  generalize l[i]=x at hx hxm htk
  have hxd:(l.map dI)[i]? =some (dI x):=by rw[Af,hx];rfl
  have hnx:=SJ ((bs++w4 (l.map dI).length)++wL (l.take i)) x (by simp only[Ae,OW,F9,Aw];omega) hxm.1 hxm.2
  rw[tY,<-htk]at hnx
  (conv=>whnf)
  (repeat' ((first|refine Ai ?_ ?_|refine AM hxd rfl ?_|refine nx ?_|refine A5 (λ_=>?_) (λ_=>?_)|exact AA)<;>conv=>whnf))
  refine CW [] [900,901] hnx rfl rfl rfl rfl rfl rfl rfl ?_
  ((conv=>whnf);repeat' ((first|refine odw ?_|refine nx ?_|refine A5 (λ_=>?_) (λ_=>?_))<;>conv=>whnf))
  exact⟨i+1,_,_,hlt,.refl _ _,⟨rfl,rfl,rfl,rfl,trivial⟩,⟨rfl,rfl,rfl,trivial⟩,by omega⟩
 ·have e:l.take i=l:=Ao (by omega)
  rw[e]
  ((conv=>whnf);repeat' ((first|refine odw ?_|refine nx ?_|refine A5 (λ_=>?_) (λ_=>?_))<;>conv=>whnf))
  exact⟨_,_,[],wS ((bs++w4 (l.map dI).length)++wL l),.lo (.refl _ _),rfl,⟨rfl,rfl,trivial⟩,rfl,rfl,rfl⟩
theorem gR(hl:∀x∈l,0<=x/\x<=4294967295)(hb:4*l.length<=3999999996):CG C3 110 [.own 900,.d (Bx l)] (wN) [900] (λd σ=>d=.d (.tuple [])/\σ=wS (w4 (l.map dI).length++wL l)):=by
 have hll:(l.map dI).length=l.length:=Ac _
 have hn:=Y3 (l.map dI).length (by omega) (by omega)
 refine FD E6 (pl:=WK) (G:=jI) Tryz.func110 rfl Tryz.ntmps110 Yo YJ (by simp) 999 rfl ?_
 intro vs
 (conv=>whnf)
 ((conv=>whnf);repeat' ((first|refine odw ?_|refine nx ?_|refine A5 (λ_=>?_) (λ_=>?_))<;>conv=>whnf))
 refine CW [] [900] hn rfl rfl rfl rfl rfl rfl rfl ?_
 ((conv=>whnf);repeat' ((first|refine odw ?_|refine nx ?_|refine A5 (λ_=>?_) (λ_=>?_))<;>conv=>whnf))
 refine AN (ι:=Nat) (λi=>i<=l.length) (λi=>[(12,.d (.int .i64 i)),(11,.d (.int .i64 (l.map dI).length)),(10,.d (Bx l)),(0,.own 900)]) (λi=>(999,.ghost vs [.own 900])::wS (w4 (l.map dI).length++wL (l.take i))) (λi=>l.length-i) 0 (λ_=>rfl) (As _) (.refl _ _) ⟨rfl,rfl,rfl,rfl,trivial⟩ ⟨rfl,rfl,by rw[show wL (l.take 0)=[]from rfl,C4];rfl,trivial⟩ ?_
 intro i hi
 refine IM [] [] ?_
 by_cases hlt:i<l.length
 ·have hx:l[i]? =some l[i]:=Ab hlt
  have hxm:=hl _ (AD hx)
  have htk:l.take (i+1)=l.take i++[l[i]]:=by rw[A2,hx];rfl
  generalize l[i]=x at hx hxm htk
  have hxd:(l.map dI)[i]? =some (dI x):=by rw[Af,hx];rfl
  have hnx:=SJ (w4 (l.map dI).length++wL (l.take i)) x (by simp only[Ae,OW,F9,Aw];omega) hxm.1 hxm.2
  rw[tY,<-htk]at hnx
  (conv=>whnf)
  (repeat' ((first|refine Ai ?_ ?_|refine AM hxd rfl ?_|refine nx ?_|refine A5 (λ_=>?_) (λ_=>?_)|exact AA)<;>conv=>whnf))
  refine CW [] [900,901] hnx rfl rfl rfl rfl rfl rfl rfl ?_
  ((conv=>whnf);repeat' ((first|refine odw ?_|refine nx ?_|refine A5 (λ_=>?_) (λ_=>?_))<;>conv=>whnf))
  exact⟨i+1,_,_,hlt,.refl _ _,⟨rfl,rfl,rfl,rfl,trivial⟩,⟨rfl,rfl,rfl,trivial⟩,by omega⟩
 ·have e:l.take i=l:=Ao (by omega)
  rw[e]
  ((conv=>whnf);repeat' ((first|refine odw ?_|refine nx ?_|refine A5 (λ_=>?_) (λ_=>?_))<;>conv=>whnf))
  exact⟨_,_,[],wS (w4 (l.map dI).length++wL l),.lo (.refl _ _),rfl,⟨rfl,rfl,trivial⟩,rfl,rfl,rfl⟩
end
theorem VJ(bs:List Int)(h0:bs≠[])(h:bs.length<=4000000000):Pure C3 111 [.list 1 (bD bs)] (λy=>y=.list 1 (bD bs)):=by
 cases bs with
 |nil=>exact absurd rfl h0
 |cons b bs=>
 have h':bs.length+1<=4000000000:=h
 refine Uj Tryz.func111 Tryz.ntmps111 [] [] ?_
 (conv=>whnf)
 ((conv=>whnf);repeat' ((first|refine odw ?_|refine nx ?_|refine A5 (λ_=>?_) (λ_=>?_))<;>conv=>whnf))
 exact rfl
def eX:List (Nat×Plan):=[]
def oJ:List FuncId:=[]
theorem mX:BQ Tryz.prog oJ eX (Tryz.f69.body.getD .skip)=true:=by kernel_rfl
theorem lB(vs:Array Value)(w:World):(callFunc 69 vs).run C3.P w=.ok (.enter 69 vs) w:=by kernel_rfl
theorem QU(bs:List Int)(h0:bs≠[])(h:bs.length<=4000000000):CG C3 69 [.own 900] (wS bs) [] (λd σ=>d=.d (.list 1 (bD bs))/\σ=[]):=by
 have hc:=VJ bs h0 h
 refine FD E6 (pl:=eX) (G:=oJ) Tryz.func69 rfl Tryz.ntmps69 lB mX (by simp) 999 rfl ?_
 intro vs
 (conv=>whnf)
 (repeat' ((first|refine Ai ?_ ?_|refine Du 901 rfl ?_|refine Aj rfl hc ?_|refine nx ?_|refine A5 (λ_=>?_) (λ_=>?_)|exact AA)<;>conv=>whnf))
 exact⟨_,_,[],[],.lo (.refl _ _),rfl,trivial,rfl,rfl,rfl⟩
end Go.Proofs.YtjejpdfldmempaaGreatDoor
end
section
namespace Go.Proofs.YtjejpdfldmempaaGreatDoor
open Go Go.Sx Go.RowKit Go.Reg Go.Gr
structure RowV where
 lv:Value
 ev:Value
 n:Int
 p:Pt
 h1:lv.oneCell'=true
 h2:ev.oneCell'=true
def Jj(w:World)(G:List Nat):List Nat:=(List.range w.heap.size).filter (λb=>decide (b∉G))
theorem HD {w:World} {G:List Nat} {b:Nat}:b∈Jj w G↔b<w.heap.size/\b∉G:=by unfold Jj;rw[A3,AO];simp
theorem G6 {S G:List Nat} {w w':World}(t:Tch S w w')(hd:∀x∈G,x∉S):Later (Jj w G) w (Jj w' G) w':=
 ⟨t.size,λb hb hn=>t.blk b hb (hd b (by
  by_cases h:b∈G
  ·exact h
  ·exact absurd (HD.2 ⟨hb,h⟩) hn)),λb hn hb hm=>hn (HD.2 ⟨hb,(HD.1 hm).2⟩)⟩
theorem Rv {G G':List Nat} {w:World}(h:∀x∈G,x∈G'):Later (Jj w G) w (Jj w G') w:=
 ⟨Av _,λ_ _ _=>rfl,λb hn hb hm=>hn (HD.2 ⟨hb,λhg=>(HD.1 hm).2 (h b hg)⟩)⟩
structure RowsR {P:Program}(M:MapE P ByteArray RowV)(m:List (ByteArray×RowV))(X:List (Value×Da))(w:World)(v:Value)(F:List Nat)(b:Nat)(G:List Nat):Prop where
 val:v=.map (some b)
 mem:∀x,x∈F↔x=b\/x∈G
 nb:b∉G
 lt:∀x∈F,x<w.heap.size
 map:Cw M.encK M.encV w b m
 ad:∀x∈X,RepC (Jj w G) w x.2 [x.1]
 rows:∀r∈m,RepC (Jj w G) w (Bx r.2.p.labels) [r.2.lv]/\RepC (Jj w G) w (Er r.2.p.edges) [r.2.ev]
def Fs {P:Program}(M:MapE P ByteArray RowV)(m:List (ByteArray×RowV))(X:List (Value×Da)):Absn where
 R w v F:=∃b G,RowsR M m X w v F b G
 keep:=by
  rintro S w w' v F ⟨b,G,h⟩ t hd
  have hG:∀x∈G,x∉S:=λx hx=>hd x ((h.mem x).2 (.inr hx))
  have hl:=G6 t hG
  exact⟨b,G,h.val,h.mem,h.nb,λx hx=>CK (h.lt x hx) t.size,h.map.keep t (hd b ((h.mem b).2 (.inl rfl))),λx hx=>RepC.later hl _ _ (h.ad x hx),λr hr=>⟨RepC.later hl _ _ (h.rows r hr).1,RepC.later hl _ _ (h.rows r hr).2⟩⟩
 lt:=by rintro w v F ⟨b,G,h⟩ x hx;exact h.lt x hx
 one:=by rintro w v F ⟨b,G,h⟩;rw[h.val];rfl
section
variable {C:Cx} {n kd:Nat} {fr:Fr} {σ:Sg} {o:Oper} {K:Fr->Sg->Prop} {M:MapE C.P ByteArray RowV} {m:List (ByteArray×RowV)} {X:List (Value×Da)}
theorem Mc {B S:List Nat} {w0 w:World} {η:Nat->Value} {φ:Nat->List Nat}(hm:Mem C B S w0 σ η φ w) {i:Nat}(hg:BA i σ=some (Fs M m X).own):∃b G,RowsR M m X w (η i) (φ i) b G:=hm.own _ (Bd hg)
theorem WX(M:MapE C.P ByteArray RowV)(j:Nat)(ho:o.op=.makeMap M.t none)(hj:BA j σ=none)(hkd:kd=6\/kd=3)(hd:CZ o.dst n=true)
  (hK:BP (Fi j (Fs M [] []).own σ) λσ=>K (Cm o.dst (.own j) fr) σ):AY C n kd o K fr σ:=by
 rw[Bl]at hK
 refine C6 (by rcases hkd with rfl|rfl<;>decide) (by rcases hkd with rfl|rfl<;>decide) λB S w0 η φ a w hM=>⟨λe=>(by rcases hkd with rfl|rfl<;>cases e),.inl ?_⟩
 obtain⟨η',φ',M'⟩:=hM.newAbs (Tch.alloc w (.map #[] 0) []) (r:=Fs M [] []) (v:=.map (some w.heap.size)) (F:=[w.heap.size]) (by simp) ⟨w.heap.size,[],rfl,λx=>(by simp),by simp,λx hx=>(by simp at hx;subst hx;simp),Cw.new _ _ _,λx hx=>(by cases hx),λx hx=>(by cases hx)⟩ (Dm hj) hd
 refine⟨_,_,?_,_,_,_,_,M',hK⟩
 simp only[execOp,ho]
 exact CP (by rfl)
theorem PB(i:Nat)(q:ByteArray) {x ix:Operand}(ho:o.op=.lookup M.t x ix true)(hx:ev C.Γ fr x=.own i)(hg:BA i σ=some (Fs M m X).own)(hix:ev C.Γ fr ix=.d (M.dK q))(hkd:kd≠5/\kd≠2)(hd:CZ o.dst n=true) {y:RowV} {bo:Bool}
  (hy:((get m q).getD M.z,(get m q).isSome)=(y,bo)) (hK:K (Cm o.dst (.d (.tuple [M.dV y,.bool bo])) fr) σ):AY C n kd o K fr σ:=by
 refine B5 hkd.1 hkd.2 hd λB S w0 η φ a w hM=>?_
 obtain⟨b,G,h⟩:=Mc hM.mem hg
 have e1:=Hh (AV hM x) hx
 have e2:=M.repK _ _ _ _ (EL (AV hM ix) hix)
 have hr:=h.map.lookup M.hk M.ht M.hz q true
 have hy1:((get m q).map M.encV).getD (M.encV M.z)=M.encV y:=by
  rw[<-(Prod.mk.inj hy).1];cases get m q<;>rfl
 rw[hy1,(Prod.mk.inj hy).2]at hr
 obtain⟨cs,g1,g2⟩:=M.ofV (B++Ak φ σ) w y
 refine .inr ⟨_,.tuple #[M.encV y,.bool bo],hK,?_,⟨[.tuple #[M.encV y,.bool bo]],?_,rfl⟩,λ_=>by simp[Bf,ho]⟩
 ·simp only[execOp,ho]
  rw[e1,e2,h.val]
  exact CP hr
 ·simp only[A4,RepC,Al]
  exact⟨[cs,[.bool bo]],⟨cs,_,rfl,g1,[.bool bo],[],rfl,rfl,rfl⟩,by simp[g2,Fc]⟩
theorem pL {B:List Nat} {σ:Sg} {η:Nat->Value} {φ:Nat->List Nat} {w:World} {v a b:Value} {k:Int}(h:RD B σ η φ w (.agg [.agg [.d (.raw a),.d (.raw b)],.d (.int .i64 k)]) v):v=.agg #[a,b,.int .i64 k]:=by
 obtain⟨cs,h,rfl⟩:=h
 simp only[A4,AX,RepC]at h
 obtain⟨_,_,rfl,⟨_,_,rfl,rfl,_,_,rfl,rfl,rfl⟩,_,_,rfl,rfl,rfl⟩:=h
 rfl
theorem Rw(i:Nat)(q:ByteArray)(y:RowV) {x ix vx:Operand}(ho:o.op=.mapUpdate M.t x ix vx)(hx:ev C.Γ fr x=.own i)(hg:BA i σ=some (Fs M m X).own)(hix:ev C.Γ fr ix=.d (M.dK q))(hv:∀{B:List Nat} {σ:Sg} {η:Nat->Value} {φ:Nat->List Nat} {w:World} {v:Value},RD B σ η φ w (ev C.Γ fr vx) v->v=M.encV y)
  (hy:∀(O:List Nat) (w:World),(∀x∈X,RepC O w x.2 [x.1])->(∀r∈m,RepC O w (Bx r.2.p.labels) [r.2.lv]/\RepC O w (Er r.2.p.edges) [r.2.ev])->RepC O w (Bx y.p.labels) [y.lv]/\RepC O w (Er y.p.edges) [y.ev]) (hkd:kd≠5/\kd≠2/\kd≠0) (hd:CZ o.dst n=true)
  (hK:BP (B2 id i (Fs M (put m q y) X).own σ) λσ=>K (Cm o.dst (.d .undef) fr) σ):AY C n kd o K fr σ:=by
 rw[Bl]at hK
 refine C6 hkd.1 hkd.2.1 λB S w0 η φ a w hM=>⟨λe=>absurd e hkd.2.2,.inr ?_⟩
 have e1:=Hh (AV hM x) hx
 have e2:=M.repK _ _ _ _ (EL (AV hM ix) hix)
 have e3:=hv (AV hM vx)
 obtain⟨b,G,h⟩:=Mc hM.mem hg
 obtain⟨w',hr,hm',ht⟩:=h.map.update M.hk M.ht q y
 have hi:=AP (Bd hg)
 have hX:∀c∈[b],c∈φ i:=λc hc=>by rw[AG.1 hc];exact(h.mem b).2 (.inl rfl)
 have hF:∀c∈φ i,c∈φ i\/w.heap.size<=c:=λc hc=>.inl hc
 have hlo:=G6 ht (G:=G) (λx hx hb=>h.nb (by rw[<-AG.1 hb];exact hx))
 have hyr:=hy _ _ h.ad h.rows
 have hrows:∀r∈put m q y,RepC (Jj w' G) w' (Bx r.2.p.labels) [r.2.lv]/\RepC (Jj w' G) w' (Er r.2.p.edges) [r.2.ev]:=λr hrm=>by
  have hc:r∈m\/r=(q,y):=by
   unfold put at hrm
   split at hrm
   ·exact List.mem_or_eq_of_mem_set hrm
   ·rcases Ag.1 hrm with h1|h1
    ·exact .inl h1
    ·exact .inr (AG.1 h1)
  rcases hc with hc|rfl
  ·exact⟨RepC.later hlo _ _ (h.rows r hc).1,RepC.later hlo _ _ (h.rows r hc).2⟩
  ·exact⟨RepC.later hlo _ _ hyr.1,RepC.later hlo _ _ hyr.2⟩
 have hl:=Later.turn (σ:=σ) B ht hX hi hF id (Fs M (put m q y) X).own
 have hmm:=hM.mem.turnSame ht hX hi hF (o:=(Fs M (put m q y) X).own) ⟨b,G,h.val,h.mem,h.nb,λx hx=>CK (h.lt x hx) ht.size,hm',λx hx=>RepC.later hlo _ _ (h.ad x hx),hrows⟩
 have M':Models C B S w0 n fr _ η _ a w':=⟨hmm,hM.fr.later hl (λj hj=>⟨by rw[Bg];exact hj,rfl⟩),hM.defers,hM.size⟩
 refine⟨w',?_,_,_,_,_,M'.put hd ⟨[Go.undef],by simp[A4,RepC],rfl⟩,hK⟩
 simp only[execOp,ho]
 rw[e1,e2,e3,h.val]
 exact Yp hr
theorem Jk {T:Fm}(hC:C.Ok T) {t:TypeId} {x v:Operand} {e:TyI} {ds:List Dat} {a b:Value} {k:Int}(j:Nat)(ho:o.op=.store t x v)(he:En t T=some e)(hes:e.size=3)(hx:ev C.Γ fr x=.own j)(hg:BA j σ=some (.cells t ds))(hds:KN ds=3)(hv:ev C.Γ fr v=.d (.agg [.agg [.raw a,.raw b],.int .i64 k]))(ha:a.oneCell'=true)(hb:b.oneCell'=true)(hkd:kd≠5/\kd≠2)(hd:CZ o.dst n=true)
  (hK:BP (B2 id j (.cells t [.d (.agg [.raw a,.raw b]),.d (.int .i64 k)]) σ) λσ=>K (Cm o.dst (.d .undef) fr) σ):AY C n kd o K fr σ:=by
 rw[Bl]at hK
 refine C6 hkd.1 hkd.2 λB S w0 η φ ac w hM=>⟨λ_=>by simp[Bf,ho],.inr ?_⟩
 have ht:=hC.ty he
 obtain⟨cx,hcx,e2⟩:=EL (AV hM v) hv
 obtain⟨c1,h1,e1⟩:=by have:=AV hM x;rw[hx]at this;exact this
 simp only[A4]at h1
 obtain⟨_,rfl⟩:=h1
 simp only[RepC,RepCs]at hcx
 obtain⟨_,_,rfl,⟨_,_,rfl,rfl,_,_,rfl,rfl,rfl⟩,_,_,rfl,rfl,rfl⟩:=hcx
 obtain⟨g,cs,g1,g2,g3,g4⟩:=CT hM.mem hg
 have hl:=Hw _ _ g4
 rw[hds]at hl
 have hone:∀u∈[a,b,Value.int .i64 k],u.oneCell'=true:=by
  intro u hu
  simp only[Ar,bT,or_false]at hu
  rcases hu with rfl|rfl|rfl
  ·exact ha
  ·exact hb
  ·rfl
 obtain⟨w',r1,r2,r3⟩:=GL.splice (P:=C.P) g3 (o:=0) (x:=[a,b,.int .i64 k]) (by rw[hl];simp) hone
 have e4:splice cs 0 [a,b,.int .i64 k]=[a,b,.int .i64 k]:=by simp[splice,hl]
 rw[e4]at r2
 have hT:=Gl hM.mem hg g1 g2 (ds':=[.d (.agg [.raw a,.raw b]),.d (.int .i64 k)]) (by
  simp only[AX,A4,RepC,RepCs]
  exact⟨[a,b],_,rfl,⟨[a],_,rfl,rfl,[b],_,rfl,rfl,rfl⟩,_,_,rfl,rfl,rfl⟩) r2 r3
 have M':Models C B S w0 n fr _ η φ ac w':=⟨hT.1,hT.frame hM.fr,hM.defers,hM.size⟩
 refine⟨w',?_,_,_,_,_,M'.put hd ⟨[Go.undef],by simp[A4,RepC],rfl⟩,hK⟩
 simp only[execOp,ho]
 rw[e1,e2]
 refine Yp ?_
 simp only[BD,kE,Fc,g1]
 simp only[Instr.storeAt,Instr.sureAddr,A0,AQ,Ay,storeVar,ht.sizeOf,hes]
 simp[Value.cells]
 simp[r1]
theorem _root_.Go.Sx.Mem.give {B S:List Nat} {w0 w:World} {η:Nat->Value} {φ:Nat->List Nat}(h:Mem C B S w0 σ η φ w) {i j:Nat}(hi:i∈Bp σ)(hj:j∈Bp σ)(hij:i≠j) {F:List Nat}(hF:∀b,b∈F↔b∈φ i\/b∈φ j) {r:Absn}(h1:r.R w (η i) F) {x:Da}(hx:x.one=true)(hxr:∀O,RepC O w x [η j]):
  Mem C B S w0 (CS (Bw j x) j (B2 id i r.own σ)) η (Ds φ i F) w/\Later (B++Ak φ σ) w (B++Ak (Ds φ i F) (CS (Bw j x) j (B2 id i r.own σ))) w:=by
 have hids:Bp (CS (Bw j x) j (B2 id i r.own σ))=(Bp σ).filter (· !=j):=by rw[Eb,Bg]
 have hin:∀k,k∈Bp (CS (Bw j x) j (B2 id i r.own σ))↔k∈Bp σ/\k≠j:=λk=>by rw[hids,A3];simp
 have e3:∀k,k≠i->Ds φ i F k=φ k:=λk a=>C0 _ _ _ a
 have mb:∀{φ:Nat->List Nat} {σ:Sg} {b:Nat},b∈Ak φ σ↔∃k∈Bp σ,b∈φ k:=⟨λh=>by obtain⟨p,hp,hb⟩:=A9.1 h;exact⟨p.1,AP hp,hb⟩,λ⟨_,hk,hb⟩=>Ba hk hb⟩
 have hO:∀b,b∈B++Ak (Ds φ i F) (CS (Bw j x) j (B2 id i r.own σ))↔b∈B++Ak φ σ:=λb=>by
  simp only[Ag,mb,hin]
  refine or_congr Iff.rfl ⟨?_,?_⟩
  ·rintro⟨k,⟨hk,hkj⟩,hb⟩
   by_cases e:k=i
   ·subst e;rw[CI]at hb
    rcases(hF b).1 hb with hb|hb
    ·exact⟨k,hk,hb⟩
    ·exact⟨j,hj,hb⟩
   ·rw[e3 k e]at hb;exact⟨k,hk,hb⟩
  ·rintro⟨k,hk,hb⟩
   by_cases e:k=i
   ·subst e;exact⟨k,⟨hk,hij⟩,by rw[CI];exact(hF b).2 (.inl hb)⟩
   ·by_cases e2:k=j
    ·subst e2;exact⟨i,⟨hi,hij⟩,by rw[CI];exact(hF b).2 (.inr hb)⟩
    ·exact⟨k,⟨hk,e2⟩,by rw[e3 k e];exact hb⟩
 have hl:Later (B++Ak φ σ) w (B++Ak (Ds φ i F) (CS (Bw j x) j (B2 id i r.own σ))) w:=⟨Av _,λ_ _ _=>rfl,λb hn _ hm=>hn ((hO b).1 hm)⟩
 have hcov:∀k,k∈Bp σ->k≠j->∀b∈Ds φ i F k,b∈φ k\/(k=i/\b∈φ j):=λk hk _ b hb=>by
  by_cases e:k=i
  ·subst e;rw[CI]at hb
   rcases(hF b).1 hb with hb|hb
   ·exact .inl hb
   ·exact .inr ⟨rfl,hb⟩
  ·rw[e3 k e]at hb;exact .inl hb
 refine⟨⟨h.tch,?_,?_,?_,?_,h.out,λg hg=>(h.glob g hg).later hl⟩,hl⟩
 ·intro p hp
  obtain⟨q,hq,hqj,rfl⟩:=Ey hp
  rcases H9 hq with rfl|⟨q',hq',hqi,rfl⟩
  ·simp only[CI];exact h1
  ·simp only[e3 q'.1 hqi]
   exact(h.own q' hq').kill hx hl (λk hk hkj=>⟨(hin k).2 ⟨hk,hkj⟩,rfl⟩) (hxr _) (Tch.refl [] w) (λ_ _=>by simp)
 ·rw[hids];exact h.nodup.filter _
 ·intro k hk m hm hkm b hb1 hb2
  obtain⟨hk,hkj⟩:=(hin k).1 hk
  obtain⟨hm,hmj⟩:=(hin m).1 hm
  rcases hcov k hk hkj b hb1 with g1|⟨e1,g1⟩<;>rcases hcov m hm hmj b hb2 with g2|⟨e2,g2⟩
  ·exact h.disj k hk m hm hkm b g1 g2
  ·exact h.disj k hk j hj hkj b g1 g2
  ·exact h.disj m hm j hj hmj b g2 g1
  ·exact hkm (e1.trans e2.symm)
 ·intro k hk b hb
  obtain⟨hk,hkj⟩:=(hin k).1 hk
  rcases hcov k hk hkj b hb with g1|⟨_,g1⟩
  ·exact h.new k hk b g1
  ·exact h.new j hj b g1
theorem Q6(i j:Nat) {q:Bool} {f:FuncId} {args:List Dat} {K:KD} {E k:Nat} {ds:List Da}(hg:BA i σ=some (Fs M m X).own)(hj:BA j σ=some (.slice E k ds))(hfl:EU ds=true)
  (h:∀u,u.oneCell'=true->BI C q f (Fg j (.raw u) args) K (Ek j (.raw u) fr) (CS (Bw j (.raw u)) j (B2 id i (Fs M m ((u,.list k ds)::X)).own σ))):BI C q f args K fr σ:=by
 unfold BI at h⊢
 rintro B S w0 η φ n a w vs hM ⟨css,hr,rfl⟩
 obtain⟨b,G,hb⟩:=Mc hM.mem hg
 obtain⟨cs,hs,ej,hrj,hkk⟩:=Bq hM.mem hj
 have hi:=AP (Bd hg)
 have hj':=AP (Bd hj)
 have hij:i≠j:=λe=>by rw[e,hj]at hg;cases hg
 have hbj:b∉φ j:=λhm=>hM.mem.disj i hi j hj' hij b ((hb.mem b).2 (.inl rfl)) hm
 have hmore:=Rv (w:=w) (G:=G) (G':=G++φ j) (λx hx=>Az _ hx)
 have hlist:RepC (Jj w (G++φ j)) w (.list k ds) [η j]:=by
  have hlen:=C2 hrj
  have hr2:=Al.flat (O':=Jj w (G++φ j)) (w':=w) ds cs hfl hrj
  simp only[RepC]
  rcases hs.shape with⟨he,hn⟩|⟨g,cap,he,hc⟩
  ·subst hn
   have:ds=[]:=AE hlen.symm
   subst this
   exact⟨none,0,[],by rw[he];rfl,by simp,by unfold maxLen;omega,by simp[Al],by simp,.inl rfl⟩
  ·have hgi:g∈φ j:=by rw[ej,he];simp[Value.ownBlock]
   refine⟨_,cap,cs,by rw[he,hlen],by omega,?_,hr2,hkk,.inr ⟨g,0,rfl,λhm=>(HD.1 hm).2 (An _ hgi),hs.lt (by rw[he];rfl),Ht hs he⟩⟩
   rcases hs.2 with⟨h1,_⟩|⟨_,_,_,h1,_,_,_,h2,_⟩
   ·rw[he]at h1;cases h1
   ·rw[he]at h1;cases h1;exact h2
 have hR:(Fs M m ((η j,.list k ds)::X)).R w (η i) (φ i++φ j):=by
  refine⟨b,G++φ j,hb.val,λx=>?_,λhm=>?_,λx hx=>?_,hb.map,λx hx=>?_,λr hr=>⟨RepC.later hmore _ _ (hb.rows r hr).1,RepC.later hmore _ _ (hb.rows r hr).2⟩⟩
  ·rw[Ag,Ag,hb.mem]
   constructor
   ·rintro((h|h)|h)
    ·exact .inl h
    ·exact .inr (.inl h)
    ·exact .inr (.inr h)
   ·rintro(h|h|h)
    ·exact .inl (.inl h)
    ·exact .inl (.inr h)
    ·exact .inr h
  ·rcases Ag.1 hm with h|h
   ·exact hb.nb h
   ·exact hbj h
  ·rcases Ag.1 hx with h|h
   ·exact hb.lt x h
   ·exact hM.mem.lt x (An _ (Ba hj' h))
  ·rcases Ar.1 hx with rfl|hx
   ·exact hlist
   ·exact RepC.later hmore _ _ (hb.ad x hx)
 have hraw:∀O,RepC O w (.raw (η j)) [η j]:=λO=>by simp only[RepC]
 obtain⟨hm2,hl2⟩:=hM.mem.give hi hj' hij (F:=φ i++φ j) (λx=>Ag) hR (x:=.raw (η j)) rfl hraw
 have hI:∀x∈Bp σ,x≠j->x∈Bp (CS (Bw j (.raw (η j))) j (B2 id i (Fs M m ((η j,.list k ds)::X)).own σ))/\η x=η x:=λx hx hne=>⟨by rw[Eb,Bg];exact A3.2 ⟨hx,by simpa using hne⟩,rfl⟩
 have hk2:=A7.kill (i:=j) (x:=.raw (η j)) rfl hl2 hI (hraw _) args css hr
 exact h (η j) (hM.mem.oneV j hj') B S w0 η _ n a w _ ⟨hm2,hM.fr.kill rfl hl2 hI (hraw _),hM.defers,hM.size⟩ ⟨css,hk2,by rw[EB rfl]⟩
end
end Go.Proofs.YtjejpdfldmempaaGreatDoor
end
