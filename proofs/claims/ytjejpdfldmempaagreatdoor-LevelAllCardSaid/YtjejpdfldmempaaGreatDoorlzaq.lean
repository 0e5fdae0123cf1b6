/- Merged: Lst Scp Str Num Gvr Gra Pta Grc Grp Gri. -/
import Derived.Shelf.Strings.OnBuilder
import Derived.Shelf.Strconv.Itoa3
import Derived.Test.YtjejpdfldmempaaGreatDoorRows
import Derived.Lib.ItoaNum
import Derived.Lib.AtoiAll
import Derived.Lib.IndexMore
import Derived.Test.YtjejpdfldmempaaGreatDoorlzan
import Derived.Test.YtjejpdfldmempaaGreatDoorlzap
import Derived.Lib.LaidTab
import Derived.Test.YtjejpdfldmempaaGreatDoorlzaf
section
namespace Go.Proofs
open Go.Shelf
def Tryz.joinL_ren:Go.Shelf.Ren:=⟨λ|156=>106|165=>156|166=>157|169=>158|240=>216|241=>217|276=>250|277=>251|n=>n,λ|31=>178|9=>9|3=>3|4=>4|0=>0|20=>20|72=>228|76=>229|70=>226|37=>49|75=>39|127=>288|164=>245|5=>5|80=>231|n=>n,λ|n=>n⟩
theorem Tryz.joinL:Go.Proofs.Lays.n156 Tryz.prog Tryz.joinL_ren:={
 mixed:=by kernel_rfl
 f156:=Tryz.func106.trans (congrArg some (by kernel_rfl))
 f165:=Tryz.func156.trans (congrArg some (by kernel_rfl))
 f166:=Tryz.func157.trans (congrArg some (by kernel_rfl))
 f169:=Tryz.func158.trans (congrArg some (by kernel_rfl))
 f240:=Tryz.func216.trans (congrArg some (by kernel_rfl))
 f241:=Tryz.func217.trans (congrArg some (by kernel_rfl))
 f276:=Tryz.func250.trans (congrArg some (by kernel_rfl))
 f277:=Tryz.func251.trans (congrArg some (by kernel_rfl))
 t0:=Tryz.underlying0
 a0:=Tryz.isAgg0
 z0:=Tryz.sizeOf0
 v0:=Tryz.zeroValue0
 t3:=Tryz.underlying3
 a3:=Tryz.isAgg3
 z3:=Tryz.sizeOf3
 v3:=Tryz.zeroValue3
 t4:=Tryz.underlying4
 a4:=Tryz.isAgg4
 z4:=Tryz.sizeOf4
 v4:=Tryz.zeroValue4
 t9:=Tryz.underlying9
 a9:=Tryz.isAgg9
 z9:=Tryz.sizeOf9
 v9:=Tryz.zeroValue9
 t20:=Tryz.underlying20
 a20:=Tryz.isAgg20
 z20:=Tryz.sizeOf20
 v20:=Tryz.zeroValue20
 t31:=Tryz.underlying178
 a31:=Tryz.isAgg178
 z31:=Tryz.sizeOf178
 v31:=Tryz.zeroValue178
 t37:=Tryz.underlying49
 a37:=Tryz.isAgg49
 z37:=Tryz.sizeOf49
 v37:=Tryz.zeroValue49
 t70:=Tryz.underlying226
 a70:=Tryz.isAgg226
 z70:=Tryz.sizeOf226
 v70:=Tryz.zeroValue226
 t72:=Tryz.underlying228
 a72:=Tryz.isAgg228
 z72:=Tryz.sizeOf228
 v72:=Tryz.zeroValue228
 t75:=Tryz.underlying39
 a75:=Tryz.isAgg39
 z75:=Tryz.sizeOf39
 v75:=Tryz.zeroValue39
 t76:=Tryz.underlying229
 a76:=Tryz.isAgg229
 z76:=Tryz.sizeOf229
 v76:=Tryz.zeroValue229
 t127:=Tryz.underlying288
 a127:=Tryz.isAgg288
 z127:=Tryz.sizeOf288
 v127:=Tryz.zeroValue288
 t164:=Tryz.underlying245
 a164:=Tryz.isAgg245
 z164:=Tryz.sizeOf245
 v164:=Tryz.zeroValue245}
def Tryz.itoaL_ren:Go.Shelf.Ren:=⟨λ|171=>105|243=>155|246=>215|283=>246|284=>247|285=>248|286=>249|129=>154|317=>259|318=>260|319=>261|320=>262|337=>278|338=>279|n=>n,λ|3=>3|9=>9|2=>2|4=>4|171=>315|0=>0|53=>186|37=>49|5=>5|173=>317|212=>327|51=>184|20=>20|213=>328|46=>177|232=>342|233=>343|n=>n,λ|17=>1|18=>3|19=>4|n=>n⟩
theorem Tryz.itoaL:Go.Proofs.LaysM.n171 Tryz.prog Tryz.itoaL_ren:={
 mixed:=by kernel_rfl
 f129:=Tryz.func154.trans (congrArg some (by kernel_rfl))
 f171:=Tryz.func105.trans (congrArg some (by kernel_rfl))
 f243:=Tryz.func155.trans (congrArg some (by kernel_rfl))
 f246:=Tryz.func215.trans (congrArg some (by kernel_rfl))
 f283:=Tryz.func246.trans (congrArg some (by kernel_rfl))
 f284:=Tryz.func247.trans (congrArg some (by kernel_rfl))
 f285:=Tryz.func248.trans (congrArg some (by kernel_rfl))
 f286:=Tryz.func249.trans (congrArg some (by kernel_rfl))
 f317:=Tryz.func259.trans (congrArg some (by kernel_rfl))
 f318:=Tryz.func260.trans (congrArg some (by kernel_rfl))
 f319:=Tryz.func261.trans (congrArg some (by kernel_rfl))
 f320:=Tryz.func262.trans (congrArg some (by kernel_rfl))
 f337:=Tryz.func278.trans (congrArg some (by kernel_rfl))
 f338:=Tryz.func279.trans (congrArg some (by kernel_rfl))
 t0:=Tryz.underlying0
 a0:=Tryz.isAgg0
 z0:=Tryz.sizeOf0
 v0:=Tryz.zeroValue0
 t2:=Tryz.underlying2
 a2:=Tryz.isAgg2
 z2:=Tryz.sizeOf2
 v2:=Tryz.zeroValue2
 t3:=Tryz.underlying3
 a3:=Tryz.isAgg3
 z3:=Tryz.sizeOf3
 v3:=Tryz.zeroValue3
 t4:=Tryz.underlying4
 a4:=Tryz.isAgg4
 z4:=Tryz.sizeOf4
 v4:=Tryz.zeroValue4
 t5:=Tryz.underlying5
 a5:=Tryz.isAgg5
 z5:=Tryz.sizeOf5
 v5:=Tryz.zeroValue5
 t9:=Tryz.underlying9
 a9:=Tryz.isAgg9
 z9:=Tryz.sizeOf9
 v9:=Tryz.zeroValue9
 t20:=Tryz.underlying20
 a20:=Tryz.isAgg20
 z20:=Tryz.sizeOf20
 v20:=Tryz.zeroValue20
 t37:=Tryz.underlying49
 a37:=Tryz.isAgg49
 z37:=Tryz.sizeOf49
 v37:=Tryz.zeroValue49
 t46:=Tryz.underlying177
 a46:=Tryz.isAgg177
 z46:=Tryz.sizeOf177
 v46:=Tryz.zeroValue177
 t51:=Tryz.underlying184
 a51:=Tryz.isAgg184
 z51:=Tryz.sizeOf184
 v51:=Tryz.zeroValue184
 t53:=Tryz.underlying186
 a53:=Tryz.isAgg186
 z53:=Tryz.sizeOf186
 v53:=Tryz.zeroValue186
 t171:=Tryz.underlying315
 a171:=Tryz.isAgg315
 z171:=Tryz.sizeOf315
 v171:=Tryz.zeroValue315
 t173:=Tryz.underlying317
 a173:=Tryz.isAgg317
 z173:=Tryz.sizeOf317
 v173:=Tryz.zeroValue317
 t212:=Tryz.underlying327
 a212:=Tryz.isAgg327
 z212:=Tryz.sizeOf327
 v212:=Tryz.zeroValue327
 t213:=Tryz.underlying328
 a213:=Tryz.isAgg328
 z213:=Tryz.sizeOf328
 t232:=Tryz.underlying342
 a232:=Tryz.isAgg342
 z232:=Tryz.sizeOf342
 v232:=Tryz.zeroValue342
 t233:=Tryz.underlying343
 a233:=Tryz.isAgg343
 z233:=Tryz.sizeOf343
 v233:=Tryz.zeroValue343
 g17:=by kernel_rfl
 g18:=by kernel_rfl
 g19:=by kernel_rfl
 i0:=by kernel_rfl
 i2:=by kernel_rfl
 i3:=by kernel_rfl
 i4:=by kernel_rfl
 i5:=by kernel_rfl
 i9:=by kernel_rfl
 i20:=by kernel_rfl
 i37:=by kernel_rfl
 i46:=by kernel_rfl
 i51:=by kernel_rfl
 i53:=by kernel_rfl
 i171:=by kernel_rfl
 i173:=by kernel_rfl
 i212:=by kernel_rfl
 i232:=by kernel_rfl
 i233:=by kernel_rfl
 m17:=by kernel_rfl
 m18:=by kernel_rfl
 m19:=by kernel_rfl}
end Go.Proofs
end
section
namespace Go.Gr
open Go
def bs(l:List UInt8):ByteArray:=⟨l.toArray⟩
theorem NQ(a b:List UInt8):bs a++bs b=bs (a++b):=by
 apply ByteArray.ext
 rw[ByteArray.data_append]
 simp[bs]
theorem H7(a:List UInt8):(bs a).size=a.length:=by simp[bs,ByteArray.size]
theorem lM {a b:List UInt8}(h:bs a=bs b):a=b:=by
 have:=congrArg (λx:ByteArray=>x.data.toList) h
 simpa[bs]using this
def wL:Nat->List UInt8
 |0=>[119,111,114,107]
 |1=>[100,101,108,105,118,101,114]
 |2=>[100,111,117,98,108,101]
 |3=>[99,114,97,115,104]
 |4=>[112,97,115,115]
 |_=>[102,105,110,105,115,104]
def wO(k n:Nat):List UInt8:=if k<4 then wL k++32::Lib.decDigits n else wL k
theorem Mw {n:Nat}(h:n<10):(UInt8.ofNat (48+n)).toNat=48+n:=by
 rw[UInt8.toNat_ofNat'];omega
theorem lA:∀n:Nat,∀c∈Lib.decDigits n,48<=c.toNat/\c.toNat<=57:=by
 intro n
 induction n using Nat.strongRecOn with
 |
  _ n ih=>
  intro c hc
  rw[Lib.decDigits]at hc
  split at hc
  ·rw[AA]at hc
   rw[hc,Mw (by omega)];omega
  ·rcases Ag.1 hc with h|h
   ·exact ih (n/10) (by omega) c h
   ·rw[AA]at h
    rw[h,Mw (by omega)];omega
theorem vA(n:Nat):Lib.decDigits n≠[]:=by
 rw[Lib.decDigits]
 split<;>simp
def val:List UInt8->Nat
 |[]=>0
 |c::l=>(c.toNat-48)*10^l.length+val l
theorem YV(c:UInt8):∀l:List UInt8,val (l++[c])=val l*10+(c.toNat-48)
 |[]=>by simp[val]
 |
  d::l=>by
  simp only[B2,val,YV c l,Ah,BF,Nat.pow_succ]
  rw[C0,Nat.mul_assoc,Jl]
theorem fI:∀n:Nat,val (Lib.decDigits n)=n:=by
 intro n
 induction n using Nat.strongRecOn with
 |
  _ n ih=>
  rw[Lib.decDigits]
  split
  ·simp only[val,Cb,Mw (by omega:n<10)];omega
  ·rw[YV,ih (n/10) (by omega),Mw (by omega)];omega
theorem pI(n:Nat)(h:n<=999999):(Lib.decDigits n).length<=6:=by
 rw[Lib.decDigits_length]
 rcases AP 6 (Lib.nDigits n)with h1|h1
 ·exfalso
  have h2:∀k m:Nat,k<Lib.nDigits m->10^k<=m\/k=0:=by
   intro k
   induction k with
   |zero=>intro m _;exact .inr rfl
   |
    succ k ih=>
    intro m hm
    left
    by_cases h10:m<10
    ·rw[Lib.nDigits_small h10]at hm;omega
    ·rw[Lib.nDigits_big h10]at hm
     rcases ih (m/10) (by omega)with h3|h3
     ·rw[Nat.pow_succ]
      have:=Ej 10 h3
      omega
     ·subst h3;omega
  rcases h2 6 n h1 with h3|h3
  ·omega
  ·omega
 ·exact h1
def vD(p:Nat×Nat):Prop:=p.1<6/\p.2<=999999/\(3<p.1->p.2=0)
def qW(b:List UInt8)(p:Nat×Nat):Prop:=vD p/\b=wO p.1 p.2
inductive Pars:List UInt8->List (Nat×Nat)->Bool->Prop
 |nil:Pars [] [] true
 |line {b:List UInt8} {p:Nat×Nat} {r:List UInt8} {l:List (Nat×Nat)} {ok:Bool}:qW b p->Pars r l ok->Pars (b++10::r) (p::l) ok
 |bad {b r:List UInt8}:10∉b->(∀p,¬qW b p)->Pars (b++10::r) [] false
 |last {b:List UInt8}:10∉b->b≠[]->Pars b [] false
end Go.Gr
end
section
namespace Go.Sx
open Go
theorem TN {a b:ByteArray} {K:Prop}(h:a.size+b.size<=9223372036854775807)(hK:K):a.size+b.size<=9223372036854775807/\K:=⟨h,hK⟩
end Go.Sx
end
section
namespace Go.Proofs.YtjejpdfldmempaaGreatDoor
open Go.Sx Go.RowKit Go.Reg Go.Gr
set_option maxRecDepth 100000
theorem pB {C:Cx} {O:List Nat} {w:World} {p:Nat×Da}(h:Glob C O w)(hp:p∈C.Γ):∃c,RepC O w p.2 c/\En w p.1 0 c/\∃cs t fr,w.heap[p.1]? =some (.cells cs t fr)/\cs.size=gsz p.2:=by
 obtain⟨⟨cs,h1,h2⟩,_,h3⟩:=h p hp
 simp only[RepC]at h1
 obtain⟨b,o,c,rfl,_,_,h4,h5⟩:=h1
 simp only[Ft,mX,Value.pointer.injEq,Aq,Addr.mk.injEq,and_true]at h2
 obtain⟨h6,rfl⟩:=h2
 subst h6
 exact⟨c,h4,h5,h3⟩
theorem Q4 {O:List Nat} {w:World} {k:IntKind}:∀{l:List Int} {c:List Value},RepCs O w (l.map (Da.int k)) c->c=l.map (Value.int k)
 |[],c,h=>by simpa only[BI,RepCs]using h
 |
  x::l,c,h=>by
  simp only[Au,RepCs,RepC]at h
  obtain⟨c1,c2,rfl,rfl,h⟩:=h
  rw[Q4 h];rfl
theorem rW {P:Program} {C:Cx} {O:List Nat} {w:World} {g:Nat} {k:IntKind} {l:List Int} {name:String}(h:Glob C O w)(hp:(g,.agg (l.map (Da.int k)))∈C.Γ)(hn:P.globalNamed name=some g):Lib.TabIs P w name k l:=by
 obtain⟨c,h1,h2,cs,t,fr,h3,h4⟩:=pB h hp
 simp only[RepC]at h1
 have hc:=Q4 h1
 subst hc
 unfold Lib.TabIs World.var?
 rw[hn,NV]
 rw[h3]
 simp only[Aq]
 have hsz:cs.size=l.length:=by rw[h4];simp[gsz]
 apply Array.ext
 ·simp[hsz]
 ·intro i h5 h6
  have:=h2 i (Value.int k (l[i]'(by omega))) (by rw[Ac,Aa (by omega)];rfl)
  simp only[World.cell?,h3,EL]at this
  rw[BD h5]at this
  simpa using this
theorem Tm {O:List Nat} {w:World} {s:ByteArray} {v:Value}(h:Rep O w (.str s) v):v=.string s:=by
 obtain⟨cs,h1,rfl⟩:=h
 simp only[RepC]at h1
 subst h1;rfl
end Go.Proofs.YtjejpdfldmempaaGreatDoor
end
section
namespace Go.Gr
structure Edg where
 a:Int
 b:Int
 deriving DecidableEq
def turn(e:Edg):Edg:=⟨min e.a e.b,max e.a e.b⟩
def CF(a b:Int):Int:=if a<b then-1 else if b<a then 1 else 0
def Ce(x y:Edg):Int:=if CF x.a y.a≠0 then CF x.a y.a else CF x.b y.b
theorem M0(a b:Int):CF a b<0↔a<b:=by unfold CF;split<;>first|omega|(split<;>omega)
theorem K6(a b:Int):CF a b=0↔a=b:=by unfold CF;split<;>first|omega|(split<;>omega)
theorem eJ(a b:Int):CF b a=-CF a b:=by unfold CF;split<;>split<;>first|omega|(split<;>omega)
theorem Eh(x y:Edg):Ce x y<0↔x.a<y.a\/(x.a=y.a/\x.b<y.b):=by
 unfold Ce
 have h1:=M0 x.a y.a
 have h2:=K6 x.a y.a
 have h3:=M0 x.b y.b
 split<;>omega
theorem pO(x y:Edg):Ce x y=0↔x=y:=by
 unfold Ce
 have h2:=K6 x.a y.a
 have h3:=K6 x.b y.b
 constructor
 ·intro h
  split at h
  ·omega
  ·cases x;cases y;simp_all
 ·rintro rfl
  rw[if_neg (by omega)];omega
theorem M1(x y:Edg):Ce x y<0\/x=y\/Ce y x<0:=by
 rw[Eh,Eh]
 by_cases h:x=y
 ·exact .inr (.inl h)
 ·have:¬(x.a=y.a/\x.b=y.b):=λ⟨h1,h2⟩=>h (by cases x;cases y;simp_all)
  omega
theorem Fm {x y z:Edg}(h1:Ce x y<0)(h2:Ce y z<0):Ce x z<0:=by
 rw[Eh]at*;omega
theorem Wr(x:Edg):¬Ce x x<0:=by rw[Eh];omega
theorem N1 {x y:Edg}(h:Ce x y<0):¬Ce y x<0:=by rw[Eh]at*;omega
theorem RA(e:Edg):turn (turn e)=turn e:=by unfold turn;simp only[Edg.mk.injEq];omega
theorem GJ(a b:Int):turn ⟨a,b⟩=turn ⟨b,a⟩:=by unfold turn;simp only[Edg.mk.injEq];omega
theorem I7 {e:Edg}(h:e.a<=e.b):turn e=e:=by cases e;unfold turn;simp only[Edg.mk.injEq]at*;omega
theorem Ms {α β:Type} {l:List α} {f g:α->List β}(h:∀x∈l,f x=g x):l.flatMap f=l.flatMap g:=by
 induction l with
 |nil=>rfl
 |cons x l ih=>rw[Bp,Bp,h x (by simp),ih (λy hy=>h y (by simp[hy]))]
def Cl(l:List Edg):Prop:=l.Pairwise (λx y=>Ce x y<0)
theorem MN:∀{l1 l2:List Edg},l1.Perm l2->Cl l1->Cl l2->l1=l2
 |[],l2,hp,_,_=>(List.nil_perm.1 hp).symm
 |x::l1,[],hp,_,_=>by simp at hp
 |
  x::l1,y::l2,hp,h1,h2=>by
  have g1:=BA.1 h1
  have g2:=BA.1 h2
  have hxy:x=y:=by
   have hx:x∈y::l2:=hp.mem_iff.1 (by simp)
   have hy:y∈x::l1:=hp.mem_iff.2 (by simp)
   rcases An.1 hx with h|h
   ·exact h
   ·rcases An.1 hy with h'|h'
    ·exact h'.symm
    ·exact absurd (g2.1 x h) (N1 (g1.1 y h'))
  subst hxy
  rw[MN (List.Perm.cons_inv hp) g1.2 g2.2]
theorem Kl {l:List Edg}(hn:l.Nodup)(h:l.Pairwise (λx y=>¬Ce y x<0)):Cl l:=by
 refine(hn.and h).imp ?_
 rintro x y ⟨h1,h2⟩
 rcases M1 x y with h|h|h
 ·exact h
 ·exact absurd h h1
 ·exact absurd h h2
theorem Cl.nodup {l:List Edg}(h:Cl l):l.Nodup:=h.imp λh e=>by subst e;exact Wr _ h
def NR(n:Nat)(R:Nat->List Int)(D:Nat->Nat):List Int:=(List.range n).flatMap λv=>R v++List.replicate (D v- (R v).length) 0
def off(D:Nat->Nat):Nat->Nat
 |0=>0
 |v+1=>off D v+D v
theorem GR(D:Nat->Nat) {v n:Nat}(h:v<=n):off D v<=off D n:=by
 induction n with
 |zero=>
           have:v=0:=by omega
           subst this;exact Az _
 |
  succ n ih=>
  rcases AP v (n+1)with h1|h1
  ·have:=ih (by omega);simp only[off];omega
  ·have:v=n+1:=by omega
   subst this;exact Az _
theorem M7(n:Nat)(R:Nat->List Int)(D:Nat->Nat):NR (n+1) R D=NR n R D++(R n++List.replicate (D n- (R n).length) 0):=by
 simp[NR,BN]
theorem TP {n:Nat} {R:Nat->List Int} {D:Nat->Nat}(h:∀v,(R v).length<=D v):(NR n R D).length=off D n:=by
 induction n with
 |zero=>rfl
 |
  succ n ih=>
  have:=h n
  rw[M7,Ah,ih]
  simp[off];omega
def Dz(R:Nat->List Int)(v:Nat)(u:Int):Nat->List Int:=λw=>if w=v then R v++[u]else R w
theorem ZI {n v:Nat} {R:Nat->List Int} {D:Nat->Nat}(u:Int)(h:∀v,(R v).length<=D v)(hv:v<n)(hr:(R v).length<D v):(NR n R D).set (off D v+(R v).length) u=NR n (Dz R v u) D:=by
 induction n with
 |zero=>omega
 |
  succ n ih=>
  rw[M7,M7]
  have hl:=TP (n:=n) h
  by_cases hvn:v<n
  ·have h1:off D v+(R v).length<(NR n R D).length:=by
    have:=GR D (show v+1<=n by omega)
    simp only[off]at this
    omega
   rw[List.set_append_left _ _ h1,ih hvn]
   have hne:¬n=v:=by omega
   simp[Dz,hne]
  ·have hvn':v=n:=by omega
   subst hvn'
   rw[List.set_append_right _ _ (by omega),hl,Nat.add_sub_cancel_left]
   have hsame:NR v (Dz R v u) D=NR v R D:=by
    unfold NR
    refine Ms λw hw=>?_
    have:¬w=v:=by have:=AJ.1 hw;omega
    simp[Dz,this]
   rw[hsame]
   congr 1
   have hd:D v- (R v).length=(D v- (R v).length-1)+1:=by omega
   rw[List.set_append_right _ _ (Az _),Gu,hd,List.replicate_succ,List.set_cons_zero]
   have hm:Dz R v u v=R v++[u]:=by simp[Dz]
   rw[hm,Ah,BF,Bk,show D v- ((R v).length+1)=D v- (R v).length-1 by omega]
   rfl
theorem W7 {n:Nat} {R:Nat->List Int} {D:Nat->Nat}(h:∀v,v<n->(R v).length=D v):NR n R D=(List.range n).flatMap R:=by
 unfold NR
 refine Ms λw hw=>?_
 rw[h w (AJ.1 hw)];simp
theorem map_set {α:Type}(m k:Nat)(f:Nat->α)(x:α):((List.range m).map f).set k x=(List.range m).map (λv=>if v=k then x else f v):=by
 apply Er
 intro i
 rw[List.getElem?_set]
 simp only[Ab,Bv,Ac]
 by_cases hi:i<m
 ·rw[E2 hi]
  by_cases e:k=i
  ·subst e;simp[hi]
  ·have:¬i=k:=λh=>e h.symm
   simp[e,this]
 ·have h1:(List.range m)[i]? =none:=by simp;omega
  rw[h1]
  by_cases e:k=i
  ·subst e;simp[hi]
  ·simp[e]
theorem T2 {α:Type} {m v:Nat}(f:Nat->α)(h:v<m):((List.range m).map f)[v]? =some (f v):=by simp[h]
def Eu(E:List Edg)(v:Nat):List Int:=(E.filter λe=>decide (e.b=(v:Int))).map (·.a)
def DT(E:List Edg)(v:Nat):List Int:=(E.filter λe=>decide (e.a=(v:Int))).map (·.b)
def Du(E:List Edg)(v:Nat):List Int:=Eu E v++DT E v
def Gg(E:List Edg)(v:Nat):List Int:=(E.zipIdx.filter λp=>decide (p.1.b=(v:Int))).map λp=>(p.2:Int)
def Fi(E:List Edg)(v:Nat):List Int:=(E.zipIdx.filter λp=>decide (p.1.a=(v:Int))).map λp=>(p.2:Int)
def Gp(E:List Edg)(v:Nat):List Int:=Gg E v++Fi E v
def FN(E:List Edg)(v:Nat):Nat:=(Du E v).length
theorem VH(E:List Edg)(e:Edg)(v:Nat):Gg (E++[e]) v=Gg E v++(if e.b=v then[(E.length:Int)]else[])/\Fi (E++[e]) v=Fi E v++(if e.a=v then[(E.length:Int)]else[]):=by
 unfold Gg Fi
 rw[List.zipIdx_append]
 constructor
 ·simp only[List.zipIdx_singleton,BJ,Ay]
  congr 1
  by_cases h:e.b=v<;>simp[h]
 ·simp only[List.zipIdx_singleton,BJ,Ay]
  congr 1
  by_cases h:e.a=v<;>simp[h]
theorem Kt(E:List Edg)(e:Edg)(v:Nat):Eu (E++[e]) v=Eu E v++(if e.b=v then[e.a]else[])/\DT (E++[e]) v=DT E v++(if e.a=v then[e.b]else[]):=by
 unfold Eu DT
 constructor
 ·simp only[BJ,Ay]
  congr 1
  by_cases h:e.b=v<;>simp[h]
 ·simp only[BJ,Ay]
  congr 1
  by_cases h:e.a=v<;>simp[h]
theorem Kx(E:List Edg)(v:Nat):(Gg E v).length=(Eu E v).length/\(Fi E v).length=(DT E v).length:=by
 have key:∀(f:Edg->Bool) (E:List Edg) (k:Nat),((E.zipIdx k).filter λp=>f p.1).length=(E.filter f).length:=by
  intro f E
  induction E with
  |nil=>intro k;rfl
  |
   cons e E ih=>
   intro k
   simp only[NW,NX]
   split<;>simp[ih]
 unfold Gg Eu Fi DT
 simp only[Ab]
 exact⟨key (λe=>decide (e.b=(v:Int))) E 0,key (λe=>decide (e.a=(v:Int))) E 0⟩
theorem Wm(E:List Edg)(e:Edg)(v:Nat):FN (E++[e]) v=FN E v+(if e.b=v then 1 else 0)+(if e.a=v then 1 else 0):=by
 unfold FN Du
 rw[(Kt E e v).1,(Kt E e v).2]
 simp only[Ah]
 split<;>split<;>simp<;>omega
theorem Pe(E:List Edg)(n:Nat)(h:∀e∈E,0<=e.a/\e.a<n/\0<=e.b/\e.b<n):off (FN E) n=2*E.length:=by
 have step:∀(E:List Edg) (e:Edg) (m:Nat),off (FN (E++[e])) m=off (FN E) m+(if 0<=e.b/\e.b<m then 1 else 0)+(if 0<=e.a/\e.a<m then 1 else 0):=by
  intro E e m
  induction m with
  |zero=>simp only[off];rw[if_neg (by omega),if_neg (by omega)]
  |
   succ m ih=>
   simp only[off,ih,Wm]
   by_cases h1:e.b=(m:Int)<;>by_cases h2:e.a=(m:Int)<;>by_cases h3:(0<=e.b/\e.b<(m:Int))<;>by_cases h4:(0<=e.a/\e.a<(m:Int))<;>simp[h1,h2,h3,h4]<;>(repeat' split)<;>omega
 have key:∀k,off (FN (E.take k)) n=2*(E.take k).length:=by
  intro k
  induction k with
  |
   zero=>
   simp only[List.take_zero,Cb]
   have:∀m,off (FN []) m=0:=λm=>by induction m with|zero=>rfl|succ m ih=>simp[off,ih,FN,Du,Eu,DT]
   rw[this]
  |
   succ k ih=>
   rw[Av]
   cases hk:E[k]? with
   |none=>simpa using ih
   |
    some e=>
    have:=h e (AB hk)
    simp only[Option.toList]
    rw[step,ih,if_pos ⟨this.2.2.1,this.2.2.2⟩,if_pos ⟨this.1,this.2.1⟩]
    simp;omega
 have:=key E.length
 rwa [De]at this
end Go.Gr
namespace Go.Gr
structure Gr where
 labels:List Int
 edges:List Edg
structure Gr.Ok(G:Gr):Prop where
 size:G.labels.length<=4096
 esize:G.edges.length<=16384
 lab:∀l∈G.labels,0<=l/\l<=255
 edge:∀e∈G.edges,0<=e.a/\e.a<e.b/\e.b<G.labels.length
 sorted:Cl G.edges
def B4(l:Int):Bool:=decide (l<0)||decide (255<l)
def Hc(n:Nat)(seen:List Edg)(e:Edg):Int:=
 if min e.a e.b<0\/(n:Int)<=max e.a e.b then 3 else if e.a=e.b then 1 else if turn e∈seen then 4 else 0
def C7(n:Nat)(edges:List Edg)(i:Nat):Int:=match edges[i]? with
 |some e=>Hc n ((edges.take i).map turn) e
 |none=>0
def Dt(labels:List Int)(edges:List Edg):Option (Int×Int×Bool):=
 if 4096<labels.length\/16384<edges.length then some (6,0,false)
 else match labels.findIdx? B4 with
  |some v=>some (3,(v:Int),false)
  |
   none=>match(List.range edges.length).find? (λi=>decide (C7 labels.length edges i≠0))with
   |some i=>some (C7 labels.length edges i,(i:Int),true)
   |none=>none
theorem G1 {labels:List Int} {edges:List Edg}(h:4096<labels.length\/16384<edges.length):Dt labels edges=some (6,0,false):=by
 unfold Dt;rw[if_pos h]
theorem G2 {labels:List Int} {edges:List Edg}(h:¬(4096<labels.length\/16384<edges.length)) {v:Nat} {l:Int}(hv:labels[v]? =some l)(hb:B4 l=true)(hn:∀x∈labels.take v,B4 x=false):Dt labels edges=some (3,(v:Int),false):=by
 unfold Dt
 rw[if_neg h]
 have:labels.findIdx? B4=some v:=by
  rw[AN]
  obtain⟨h1,h2⟩:=Ae.1 hv
  refine⟨h1,by rw[h2];exact hb,λj hj=>?_⟩
  have:=hn labels[j] (AQ.2 ⟨j,by omega,rfl⟩)
  simpa using this
 rw[this]
theorem Ea {labels:List Int} {edges:List Edg}(h:¬(4096<labels.length\/16384<edges.length))(hl:∀x∈labels,B4 x=false) {i:Nat}(hi:i<edges.length)(hb:C7 labels.length edges i≠0)(hn:∀j,j<i->C7 labels.length edges j=0):Dt labels edges=some (C7 labels.length edges i,(i:Int),true):=by
 unfold Dt
 rw[if_neg h]
 have h1:labels.findIdx? B4=none:=by
  rw[AM];exact hl
 have h2:(List.range edges.length).find? (λi=>decide (C7 labels.length edges i≠0))=some i:=by
  rw[List.find?_range_eq_some]
  refine⟨by simpa using hb,by simpa using hi,λj hj=>by simpa using hn j hj⟩
 rw[h1,h2]
theorem Hu {labels:List Int} {edges:List Edg}(h:¬(4096<labels.length\/16384<edges.length))(hl:∀x∈labels,B4 x=false)(hn:∀j,j<edges.length->C7 labels.length edges j=0):Dt labels edges=none:=by
 unfold Dt
 rw[if_neg h]
 have h1:labels.findIdx? B4=none:=by
  rw[AM];exact hl
 have h2:(List.range edges.length).find? (λi=>decide (C7 labels.length edges i≠0))=none:=by
  rw[List.find?_range_eq_none]
  intro j hj
  simpa using hn j hj
 rw[h1,h2]
theorem Wi {n:Nat} {edges:List Edg}(hn:∀j,j<edges.length->C7 n edges j=0):(edges.map turn).Nodup/\∀e∈edges.map turn,0<=e.a/\e.a<e.b/\e.b<n:=by
 have key:∀k,k<=edges.length->((edges.take k).map turn).Nodup/\∀e∈(edges.take k).map turn,0<=e.a/\e.a<e.b/\e.b<n:=by
  intro k
  induction k with
  |zero=>intro _;simp
  |
   succ k ih=>
   intro hk
   obtain⟨h1,h2⟩:=ih (by omega)
   have he:edges[k]? =some edges[k]:=Aa (by omega)
   generalize edges[k]=e at he
   have hc:=hn k (by omega)
   unfold C7 at hc
   rw[he]at hc
   simp only[Hc]at hc
   split at hc
   ·omega
   ·split at hc
    ·omega
    ·split at hc
     ·omega
     ·rename_i g1 g2 g3
      rw[Av,he]
      simp only[Option.toList,Ay,Au,BI]
      refine⟨?_,?_⟩
      ·rw[Dn]
       exact⟨h1,by simp,λa ha b hb e'=>by simp at hb;subst hb;subst e';exact g3 ha⟩
      ·intro x hx
       rcases Ag.1 hx with hx|hx
       ·exact h2 x hx
       ·simp at hx
        subst hx
        simp only[turn]
        omega
 have:=key edges.length (Az _)
 rwa [De]at this
theorem cG {labels:List Int} {edges:List Edg}(h:Dt labels edges=none):labels.length<=4096/\edges.length<=16384/\(∀x∈labels,B4 x=false)/\(edges.map turn).Nodup/\∀e∈edges.map turn,0<=e.a/\e.a<e.b/\e.b<labels.length:=by
 unfold Dt at h
 split at h
 ·cases h
 ·rename_i h0
  split at h
  ·cases h
  ·rename_i h1
   split at h
   ·cases h
   ·rename_i h2
    rw[List.find?_range_eq_none]at h2
    have h3:=Wi (n:=labels.length) (edges:=edges) (λj hj=>by have:=h2 j hj;simpa using this)
    exact⟨by omega,by omega,AM.1 h1,h3.1,h3.2⟩
theorem kO {labels:List Int} {edges E:List Edg}(h:Dt labels edges=none)(hp:E.Perm (edges.map turn))(hs:E.Pairwise (λx y=>¬Ce y x<0)):Gr.Ok ⟨labels,E⟩:=by
 obtain⟨h1,h2,h3,h4,h5⟩:=cG h
 refine⟨h1,by simp only;rw[hp.length_eq];simpa using h2,λl hl=>?_,λe he=>h5 e (hp.mem_iff.1 he),Kl (hp.nodup_iff.2 h4) hs⟩
 have:=h3 l hl
 simp[B4]at this
 omega
end Go.Gr
end
section
namespace Go.Gr
structure Pt where
 labels:List Int
 edges:List Edg
theorem O4 {α:Type} {f:Nat->Option α} {n i:Nat} {y:α}(h:∀k,k<i->f k=none)(hi:f i=some y)(hn:i<n):(List.range n).findSome? f=some y:=by
 rw[List.findSome?_eq_some_iff]
 refine⟨List.range i,i,(List.range (n-i-1)).map (λk=>i+1+k),?_,hi,λk hk=>h k (AJ.1 hk)⟩
 apply Er
 intro k
 by_cases h1:k<n
 ·rw[E2 h1]
  rcases WK k i with h2|h2|h2
  ·rw[BC (by simpa using h2),E2 h2]
  ·subst h2
   rw[Cm (by simp),Bv,Gu];rfl
  ·rw[Cm (by simp;omega),Bv]
   obtain⟨d,hd⟩:∃d,k-i=d+1:=⟨k-i-1,by omega⟩
   rw[hd,List.getElem?_cons_succ,Ac,E2 (by omega)]
   simp;omega
 ·rw[Bh (by simp;omega),Bh (by simp;omega)]
theorem JQ {α:Type} {f:Nat->Option α} {n:Nat}(h:∀k,k<n->f k=none):(List.range n).findSome? f=none:=by
 rw[List.findSome?_eq_none_iff]
 exactλk hk=>h k (AJ.1 hk)
def Ik(l:List Int):Option (Int×Nat):=if 8<l.length then some (6,0)else(List.range l.length).findSome? λi=>if B4 ((l[i]?).getD 0)then some (3,i)else none
def TK(n:Nat)(p:Option Edg)(e:Edg):Option Int:=
 if¬(0<=min e.a e.b/\max e.a e.b<n)then some 3 else if e.b<=e.a then some 2 else match p with
  |none=>none
  |some q=>if Ce q e<0 then none else some 2
def SE(n:Nat)(E:List Edg)(i:Nat):Option (Int×Nat):=match E[i]? with
 |none=>none
 |some e=>(TK n (if i=0 then none else E[i-1]?) e).map λc=>(c,i)
def Y7(n:Nat)(E:List Edg):Option (Int×Nat):=(List.range E.length).findSome? (SE n E)
def FI(p:Pt):Option (Int×Nat):=match Ik p.labels with
 |some x=>some x
 |none=>Y7 p.labels.length p.edges
theorem Sr {l:List Int}(h:Ik l=none):l.length<=8/\∀x∈l,0<=x/\x<=255:=by
 unfold Ik at h
 split at h
 ·cases h
 ·refine⟨by omega,λx hx=>?_⟩
  obtain⟨i,hi,rfl⟩:=BX.1 hx
  have:=(List.findSome?_eq_none_iff.1 h) i (AJ.2 hi)
  rw[Aa hi]at this
  simp[B4]at this
  omega
theorem dY {n:Nat} {E:List Edg}(h:Y7 n E=none):(∀e∈E,0<=e.a/\e.a<e.b/\e.b<n)/\∀i x y,E[i]? =some x->E[i+1]? =some y->Ce x y<0:=by
 have key:∀i e,E[i]? =some e->TK n (if i=0 then none else E[i-1]?) e=none:=by
  intro i e hx
  have:=(List.findSome?_eq_none_iff.1 h) i (AJ.2 (Ae.1 hx).1)
  unfold SE at this
  rw[hx]at this
  simpa using this
 refine⟨λe he=>?_,λi x y hx hy=>?_⟩
 ·obtain⟨i,hi,rfl⟩:=BX.1 he
  have:=key i _ (Aa hi)
  unfold TK at this
  split at this
  ·cases this
  ·split at this
   ·cases this
   ·omega
 ·have:=key (i+1) y hy
  rw[if_neg (by omega),TU,hx]at this
  unfold TK at this
  split at this
  ·cases this
  ·split at this
   ·cases this
   ·simp only at this
    split at this
    ·assumption
    ·cases this
end Go.Gr
end
section
namespace Go.Proofs.YtjejpdfldmempaaGreatDoor
open Go.Sx Go.RowKit Go.Reg Go.Gr
set_option maxRecDepth 100000
def dE(e:Edg):Da:=.agg [.int .i64 e.a,.int .i64 e.b]
def dI(n:Int):Da:=.int .i64 n
def AS(l:List Int):Da:=.list 1 (l.map dI)
def D0(l:List Edg):Da:=.list 2 (l.map dE)
def bR:List (Nat×Plan):=[]
def mA:List FuncId:=[]
theorem Gi(e:Edg):Pure C1 165 [dE e] (λy=>y=dE (turn e)):=by
 refine AK Tryz.func165 Tryz.ntmps165 mA bR ?_
 ((conv=>whnf);repeat' ((first|refine odw ?_|refine nx ?_|refine Aw (λ_=>?_) (λ_=>?_))<;>conv=>whnf))
 all_goals exact rfl
def sL:List (Nat×Plan):=[]
def vS:List FuncId:=[]
theorem Mb(a:Int):Pure C1 143 [.int .i64 a] (λy=>y=.bool false):=by
 refine AK Tryz.func143 Tryz.ntmps143 vS sL ?_
 ((conv=>whnf);repeat' ((first|refine odw ?_|refine nx ?_|refine Aw (λ_=>?_) (λ_=>?_))<;>conv=>whnf))
 show Da.plain _=_
 simp[Da.plain]
def XG:List (Nat×Plan):=[]
def fA:List FuncId:=[]
theorem G5(a b:Int):Pure C1 101 [.int .i64 a,.int .i64 b] (λy=>y=.int .i64 (CF a b)):=by
 refine AK Tryz.func101 Tryz.ntmps101 fA XG ?_
 ((conv=>whnf);repeat' ((first|refine odw ?_|refine nx ?_|refine Aw (λ_=>?_) (λ_=>?_))<;>conv=>whnf))
 refine AI rfl (Mb a) ?_;rintro y rfl;((conv=>whnf);repeat' ((first|refine odw ?_|refine nx ?_|refine Aw (λ_=>?_) (λ_=>?_))<;>conv=>whnf))
 refine AI rfl (Mb b) ?_;rintro y rfl;((conv=>whnf);repeat' ((first|refine odw ?_|refine nx ?_|refine Aw (λ_=>?_) (λ_=>?_))<;>conv=>whnf))
 ·have e:CF a b=-1:=by unfold CF;rw[if_pos (by assumption)]
  rw[e];exact rfl
 ·have e:CF a b=1:=by unfold CF;rw[if_neg (by assumption),if_pos (by assumption)]
  rw[e];exact rfl
 ·have e:CF a b=0:=by unfold CF;rw[if_neg (by assumption),if_neg (by assumption)]
  rw[e];exact rfl
def qL:List (Nat×Plan):=[]
def vR:List FuncId:=[]
theorem Zo(a b:Int):Pure C1 100 [.list 1 [.int .i64 a,.int .i64 b]] (λy=>y=.int .i64 (if a≠0 then a else b)):=by
 refine AK Tryz.func100 Tryz.ntmps100 vR qL ?_
 ((conv=>whnf);repeat' ((first|refine odw ?_|refine nx ?_|refine Aw (λ_=>?_) (λ_=>?_))<;>conv=>whnf))
 refine jZ (ι:=Nat) (λi=>i<=2/\(1<=i->a=0)/\(2<=i->b=0)) (λi=>[(3,.d (.int .i64 0)),(6,.d (.list 1 [.int .i64 a,.int .i64 b])),(7,.d (.int .i64 2)),(8,.d (.int .i64 i))]) (λ_=>[]) (λi=>2-i) 0 (λ_=>rfl) ⟨by omega,by omega,by omega⟩ ⟨rfl,rfl,rfl,rfl,trivial⟩ trivial ?_
 rintro i ⟨hi,h1,h2⟩
 refine Bj vR qL ?_
 rcases(show i=0\/i=1\/i=2 by omega)with rfl|rfl|rfl
 ·by_cases ha:a=0
  ·((conv=>whnf);repeat' ((first|refine odw ?_|refine nx ?_|refine Aw (λ_=>?_) (λ_=>?_))<;>conv=>whnf))
   refine⟨0,_,rfl,rfl,?_⟩
   ((conv=>whnf);repeat' ((first|refine odw ?_|refine nx ?_|refine Aw (λ_=>?_) (λ_=>?_))<;>conv=>whnf))
   exact⟨1,⟨by omega,λ_=>ha,by omega⟩,⟨rfl,rfl,rfl,rfl,trivial⟩,trivial,by omega⟩
  ·rw[if_pos ha]
   ((conv=>whnf);repeat' ((first|refine odw ?_|refine nx ?_|refine Aw (λ_=>?_) (λ_=>?_))<;>conv=>whnf))
   refine⟨0,_,rfl,rfl,?_⟩
   ((conv=>whnf);repeat' ((first|refine odw ?_|refine nx ?_|refine Aw (λ_=>?_) (λ_=>?_))<;>conv=>whnf))
   exact rfl
 ·rw[if_neg (by have:=h1 (by omega);omega)]
  by_cases hb:b=0
  ·((conv=>whnf);repeat' ((first|refine odw ?_|refine nx ?_|refine Aw (λ_=>?_) (λ_=>?_))<;>conv=>whnf))
   refine⟨1,_,rfl,rfl,?_⟩
   ((conv=>whnf);repeat' ((first|refine odw ?_|refine nx ?_|refine Aw (λ_=>?_) (λ_=>?_))<;>conv=>whnf))
   exact⟨2,⟨by omega,λ_=>h1 (by omega),λ_=>hb⟩,⟨rfl,rfl,rfl,rfl,trivial⟩,trivial,by omega⟩
  ·((conv=>whnf);repeat' ((first|refine odw ?_|refine nx ?_|refine Aw (λ_=>?_) (λ_=>?_))<;>conv=>whnf))
   refine⟨1,_,rfl,rfl,?_⟩
   ((conv=>whnf);repeat' ((first|refine odw ?_|refine nx ?_|refine Aw (λ_=>?_) (λ_=>?_))<;>conv=>whnf))
   exact rfl
 ·rw[if_neg (by have:=h1 (by omega);omega),h2 (by omega)]
  ((conv=>whnf);repeat' ((first|refine odw ?_|refine nx ?_|refine Aw (λ_=>?_) (λ_=>?_))<;>conv=>whnf))
  exact rfl
def iV:List (Nat×Plan):=[(1,.leaf [0,1,0,1,2,0,1,0,1,2,6,2,0] [0,2,5,7,1,3,6,8,4,9,10,11,12] [0,1,0,4,15,0,32,0,128,511,1023,2047,4095])]
def qG:List FuncId:=[101,100]
theorem XL(x y:Edg):Pure C1 166 [dE x,dE y] (λr=>r=.int .i64 (Ce x y)):=by
 refine AK Tryz.func166 Tryz.ntmps166 qG iV ?_
 ((conv=>whnf);repeat' ((first|refine odw ?_|refine nx ?_|refine Aw (λ_=>?_) (λ_=>?_))<;>conv=>whnf))
 refine AI rfl (G5 _ _) ?_;rintro r rfl;((conv=>whnf);repeat' ((first|refine odw ?_|refine nx ?_|refine Aw (λ_=>?_) (λ_=>?_))<;>conv=>whnf))
 refine AI rfl (G5 _ _) ?_;rintro r rfl;((conv=>whnf);repeat' ((first|refine odw ?_|refine nx ?_|refine Aw (λ_=>?_) (λ_=>?_))<;>conv=>whnf))
 refine OC tab rfl (Zo _ _) (λy hy=>by subst hy;rfl) ?_;rintro r rfl;((conv=>whnf);repeat' ((first|refine odw ?_|refine nx ?_|refine Aw (λ_=>?_) (λ_=>?_))<;>conv=>whnf))
 exact rfl
def PY:List (Nat×Plan):=[]
def Ub:List FuncId:=[]
theorem eD:Cu Tryz.prog Ub PY (Tryz.f60.body.getD .skip)=true:=by kernel_rfl
theorem aS(vs:Array Value)(w:World):(callFunc 60 vs).run C1.P w=.ok (.enter 60 vs) w:=by kernel_rfl
theorem Ix(l:List Int)(hl:l.length<=4294967296):DV C1 60 [AS l] 3 1 (λds=>ds=l.map dI):=by
 have hlm:(l.map dI).length=l.length:=Ab _
 refine Zt Fb (pl:=PY) (G:=Ub) Tryz.func60 rfl Tryz.ntmps60 aS eD (by simp) ?_
 cases l with
 |
  nil=>
  ((conv=>whnf);repeat' ((first|refine odw ?_|refine nx ?_|refine Aw (λ_=>?_) (λ_=>?_))<;>conv=>whnf))
  refine Zp rfl Tryz.underlying28 rfl rfl (.inr rfl) rfl ?_
  intro b
  cases b<;>((conv=>whnf);repeat' ((first|refine odw ?_|refine nx ?_|refine Aw (λ_=>?_) (λ_=>?_))<;>conv=>whnf))
  ·exact⟨rfl,rfl,rfl⟩
  ·exact rfl
 |
  cons x l=>
  have hlm2:(([]:List Da).length+((x::l).map dI).length)<=4294967296:=by rw[hlm];simpa using hl
  ((conv=>whnf);repeat' ((first|refine odw ?_|refine nx ?_|refine Aw (λ_=>?_) (λ_=>?_))<;>conv=>whnf))
  refine Hv hlm2 ?_
  ((conv=>whnf);repeat' ((first|refine odw ?_|refine nx ?_|refine Aw (λ_=>?_) (λ_=>?_))<;>conv=>whnf))
  exact⟨rfl,rfl,by simp⟩
end Go.Proofs.YtjejpdfldmempaaGreatDoor
end
section
namespace Go.Gr
theorem cU(E:List Edg)(i v:Nat):(Eu (E.take i) v).length<=(Eu E v).length:=by
 unfold Eu
 rw[Ab,Ab]
 exact((WL i E).filter _).length_le
theorem cJ(E:List Edg)(i v:Nat):(DT (E.take i) v).length<=(DT E v).length:=by
 unfold DT
 rw[Ab,Ab]
 exact((WL i E).filter _).length_le
theorem QS(E:List Edg)(v:Nat):FN E v<=E.length*2:=by
 unfold FN Du Eu DT
 rw[Ah,Ab,Ab]
 have h1:=Co (λe:Edg=>decide (e.b=(v:Int))) E
 have h2:=Co (λe:Edg=>decide (e.a=(v:Int))) E
 omega
def Ey(E:List Edg):Nat->Int
 |0=>0
 |v+1=>(FN E v:Int)
theorem QT(E:List Edg)(v:Nat):0<=Ey E v/\Ey E v<=E.length*2:=by
 cases v with
 |zero=>simp only[Ey];omega
 |succ v=>have:=QS E v;simp only[Ey];omega
theorem DR {E:List Edg} {i:Nat} {e:Edg}(h:E[i]? =some e):E.take (i+1)=E.take i++[e]:=by
 rw[Av,h];rfl
theorem Y9 {E:List Edg} {i:Nat} {a b:Nat}(h:E[i]? =some ⟨(a:Int),(b:Int)⟩)(hab:a<b)(v:Nat):
  Ey (E.take (i+1)) v=if v=b+1 then Ey (E.take i) (b+1)+1 else if v=a+1 then Ey (E.take i) (a+1)+1 else Ey (E.take i) v:=by
 rw[DR h]
 cases v with
 |zero=>simp[Ey]
 |
  succ v=>
  simp only[Ey,Wm,Nat.add_right_cancel_iff]
  by_cases h1:v=b
  ·subst h1
   rw[if_pos rfl,if_pos rfl,if_neg (by omega)];omega
  ·rw[if_neg (by omega),if_neg h1]
   by_cases h2:v=a
   ·subst h2;rw[if_pos rfl,if_pos rfl];omega
   ·rw[if_neg (by omega),if_neg h2];omega
def EY(E:List Edg)(j v:Nat):Int:=if v<=j then(off (FN E) v:Int)else Ey E v
theorem Xh(E:List Edg)(v:Nat):EY E 0 v=Ey E v:=by
 cases v with
 |zero=>rfl
 |succ v=>simp[EY]
theorem Xi(E:List Edg)(j v:Nat):EY E (j+1) v=if v=j+1 then EY E j (j+1)+EY E j j else EY E j v:=by
 simp only[EY]
 by_cases h:v=j+1
 ·subst h
  rw[if_pos (Az _),if_pos rfl,if_neg (by omega),if_pos (Az _)]
  simp only[off,Ey];omega
 ·rw[if_neg h]
  by_cases h2:v<=j
  ·rw[if_pos (by omega),if_pos h2]
  ·rw[if_neg (by omega),if_neg h2]
theorem sY(E:List Edg)(n:Nat)(h:∀e∈E,0<=e.a/\e.a<n/\0<=e.b/\e.b<n) {v:Nat}(hv:v<=n):off (FN E) v<=2*E.length:=by
 have:=GR (FN E) hv
 rw[Pe E n h]at this
 exact this
def FH(E:List Edg)(i j:Nat)(v:Nat):List Int:=Eu (E.take i) v++DT (E.take j) v
def Hm(E:List Edg)(i j:Nat)(v:Nat):List Int:=Gg (E.take i) v++Fi (E.take j) v
theorem Pb(E:List Edg)(i j v:Nat):(FH E i j v).length<=FN E v:=by
 unfold FH FN Du
 rw[Ah,Ah]
 have:=cU E i v
 have:=cJ E j v
 omega
theorem UF(E:List Edg)(i j v:Nat):(Hm E i j v).length=(FH E i j v).length:=by
 unfold FH Hm
 rw[Ah,Ah,(Kx _ v).1,(Kx _ v).2]
theorem Zg(E:List Edg)(i j v:Nat):(Hm E i j v).length<=FN E v:=by rw[UF];exact Pb E i j v
theorem RN(E:List Edg)(v:Nat):FH E 0 0 v=[]:=by simp[FH,Eu,DT]
theorem bB(E:List Edg)(v:Nat):Hm E 0 0 v=[]:=by simp[Hm,Gg,Fi]
theorem aZ {E:List Edg} {i:Nat} {a b:Nat}(h:E[i]? =some ⟨(a:Int),(b:Int)⟩):FH E (i+1) 0=Dz (FH E i 0) b a:=by
 funext v
 unfold FH Dz
 rw[DR h,(Kt _ _ _).1]
 simp only[List.take_zero,mY]
 by_cases hv:v=b
 ·subst hv;simp[DT]
 ·have:¬b=v:=λe=>hv e.symm
  simp[DT,hv,this]
theorem bD {E:List Edg} {i:Nat} {a b:Nat}(h:E[i]? =some ⟨(a:Int),(b:Int)⟩):Hm E (i+1) 0=Dz (Hm E i 0) b i:=by
 funext v
 have hi:i<E.length:=(Ae.1 h).1
 unfold Hm Dz
 rw[DR h,(VH _ _ _).1]
 simp only[List.take_zero,mY,As,G7 (Nat.le_of_lt hi)]
 by_cases hv:v=b
 ·subst hv;simp[Fi]
 ·have:¬b=v:=λe=>hv e.symm
  simp[Fi,hv,this]
theorem aY {E:List Edg} {k j:Nat} {a b:Nat}(h:E[j]? =some ⟨(a:Int),(b:Int)⟩):FH E k (j+1)=Dz (FH E k j) a b:=by
 funext v
 unfold FH Dz
 rw[DR h,(Kt _ _ _).2]
 simp only[mY]
 by_cases hv:v=a
 ·subst hv;simp
 ·have:¬a=v:=λe=>hv e.symm
  simp[hv,this]
theorem bC {E:List Edg} {k j:Nat} {a b:Nat}(h:E[j]? =some ⟨(a:Int),(b:Int)⟩):Hm E k (j+1)=Dz (Hm E k j) a j:=by
 funext v
 have hj:j<E.length:=(Ae.1 h).1
 unfold Hm Dz
 rw[DR h,(VH _ _ _).2]
 simp only[mY,As,G7 (Nat.le_of_lt hj)]
 by_cases hv:v=a
 ·subst hv;simp
 ·have:¬a=v:=λe=>hv e.symm
  simp[hv,this]
theorem gW(E:List Edg):FH E E.length E.length=Du E:=by funext v;simp[FH,Du]
theorem gX(E:List Edg):Hm E E.length E.length=Gp E:=by funext v;simp[Hm,Gp]
theorem jT(R:Nat->List Int)(v:Nat)(u:Int)(w:Nat):((Dz R v u w).length:Int)=if w=v then((R v).length:Int)+1 else(R w).length:=by
 unfold Dz;split<;>simp
theorem PK {E:List Edg} {i j i' j' v:Nat} {u:Int}(h:FH E i' j'=Dz (FH E i j) v u):(FH E i j v).length<FN E v:=by
 have:=Pb E i' j' v
 rw[h]at this
 simp only[Dz,if_true,Ah,BF]at this
 omega
theorem W6(n:Nat)(D:Nat->Nat)(R:Nat->List Int)(h:∀v,R v=[]):NR n R D=List.replicate (off D n) 0:=by
 induction n with
 |zero=>rfl
 |succ n ih=>rw[M7,ih,h n];simp[off,List.replicate_append_replicate]
end Go.Gr
end
section
namespace Go.Gr
def uR(x y:Edg):Bool:=decide (¬Ce y x<0)
def FC(edges:List Edg):List Edg:=(edges.map turn).mergeSort uR
theorem Gc(edges:List Edg):(FC edges).Perm (edges.map turn):=List.mergeSort_perm _ _
theorem Jb(edges:List Edg):(FC edges).Pairwise (λx y=>¬Ce y x<0):=by
 have h:=List.pairwise_mergeSort (le:=uR) (λa b c h1 h2=>by
  simp only[uR,decide_eq_true_eq]at*
  intro h3
  rcases M1 a b with h|h|h
  ·exact h2 (Fm h3 h)
  ·subst h;exact h2 h3
  ·exact h1 h) (λa b=>by
  simp only[uR,CA,decide_eq_true_eq]
  by_cases h:Ce b a<0
  ·exact .inr (N1 h)
  ·exact .inl h) (edges.map turn)
 exact h.imp (λh=>by simpa[uR]using h)
theorem M5 {edges E:List Edg}(hn:(edges.map turn).Nodup)(hp:E.Perm (edges.map turn))(hs:E.Pairwise (λx y=>¬Ce y x<0)):E=FC edges:=
 MN (hp.trans (Gc edges).symm) (Kl (hp.nodup_iff.2 hn) hs) (Kl ((Gc edges).nodup_iff.2 hn) (Jb edges))
theorem Cl.le {E:List Edg}(h:Cl E):E.Pairwise (λx y=>¬Ce y x<0):=h.imp λh=>N1 h
theorem M4 {labels:List Int} {edges:List Edg}(h:Dt labels edges=none):Gr.Ok ⟨labels,FC edges⟩:=kO h (Gc edges) (Jb edges)
theorem NO(edges:List Edg):(FC edges).length=edges.length:=by rw[(Gc edges).length_eq,Ab]
def JI(S:List Edg)(k:Nat)(e:Edg):List Edg:=S.take k++[e]++S.drop k
theorem Yo(S:List Edg)(k:Nat)(e:Edg):(JI S k e).Perm (e::S):=by
 unfold JI
 rw[Bk,qA]
 refine List.perm_middle.trans ?_
 rw[BZ]
theorem TB {S:List Edg} {k:Nat} {e:Edg}(hS:Cl S)(h1:∀x∈S.take k,Ce x e<0)(h2:∀x,S[k]? =some x->¬Ce x e<0)(hn:e∉S):Cl (JI S k e):=by
 unfold JI Cl
 rw[Bk,qA,Ct,BA]
 have hS':=hS
 unfold Cl at hS'
 rw[<-BZ k S,Ct]at hS'
 obtain⟨g1,g2,g3⟩:=hS'
 have hhead:∀y∈S.drop k,Ce e y<0:=by
  intro y hy
  rcases hd:S.drop k with _|⟨x,l⟩
  ·rw[hd]at hy;cases hy
  ·have hx:S[k]? =some x:=by
    have:=congrArg List.head? hd
    simpa using this
   have hxs:x∈S:=AB hx
   have hex:Ce e x<0:=by
    rcases M1 e x with h|h|h
    ·exact h
    ·exact absurd (h▸hxs) hn
    ·exact absurd h (h2 x hx)
   rw[hd]at hy g2
   rcases An.1 hy with h|h
   ·exact h▸hex
   ·exact Fm hex ((BA.1 g2).1 y h)
 refine⟨g1,⟨hhead,g2⟩,?_⟩
 intro a ha b hb
 rcases An.1 hb with h|h
 ·exact h▸h1 a ha
 ·exact g3 a ha b h
def dC(E:List Edg)(e:Edg):Int:=match E.findIdx? (λx=>decide (x=e))with
 |some i=>(i:Int)
 |none=>-1
theorem tI {E:List Edg} {e:Edg} {i:Nat}(h:E[i]? =some e)(hn:∀x∈E.take i,x≠e):dC E e=i:=by
 unfold dC
 have:E.findIdx? (λx=>decide (x=e))=some i:=by
  rw[AN]
  obtain⟨h1,h2⟩:=Ae.1 h
  refine⟨h1,by simp[h2],λj hj=>?_⟩
  have:=hn E[j] (AQ.2 ⟨j,by omega,rfl⟩)
  simp[this]
 rw[this]
theorem Q8 {E:List Edg} {e:Edg}(h:e∉E):dC E e=-1:=by
 unfold dC
 have:E.findIdx? (λx=>decide (x=e))=none:=by
  rw[AM]
  intro x hx
  have:x≠e:=λh'=>h (h'▸hx)
  simp[this]
 rw[this]
theorem Lt {E:List Edg} {e:Edg}:0<=dC E e↔e∈E:=by
 constructor
 ·intro h
  refine I6 λhn=>?_
  rw[Q8 hn]at h;omega
 ·intro h
  unfold dC
  split
  ·omega
  ·rename_i hn
   rw[AM]at hn
   have:=hn e h
   simp at this
structure Part(edges:List Edg)(i:Nat)(S:List Edg):Prop where
 strict:Cl S
 perm:S.Perm ((edges.take i).map turn)
theorem Part.zero(edges:List Edg):Part edges 0 []:=⟨List.Pairwise.nil,by simp⟩
theorem Part.next {edges S:List Edg} {i k:Nat} {e:Edg}(h:Part edges i S)(he:edges[i]? =some e)(hn:turn e∉S)(h1:∀x∈S.take k,Ce x (turn e)<0)(h2:∀x,S[k]? =some x->¬Ce x (turn e)<0):Part edges (i+1) (JI S k (turn e)):=by
 refine⟨TB h.strict h1 h2 hn,(Yo _ _ _).trans ?_⟩
 rw[DR he,Ay]
 simp only[Au,BI]
 exact(List.Perm.cons _ h.perm).trans (List.perm_append_comm (l₁:=[turn e]))
theorem Part.mem {edges S:List Edg} {i:Nat}(h:Part edges i S)(e:Edg):e∈S↔e∈(edges.take i).map turn:=h.perm.mem_iff
theorem Part.all {edges S:List Edg} {i:Nat}(h:Part edges i S)(hi:edges.length<=i):S=FC edges:=by
 have hp:=h.perm
 rw[Ak hi]at hp
 exact M5 (hp.nodup_iff.1 h.strict.nodup) hp h.strict.le
theorem Ex:∀{l1 l2:List Int},l1.Pairwise (· < ·)->l2.Pairwise (· < ·)->(∀x,x∈l1↔x∈l2)->l1=l2
 |[],[],_,_,_=>rfl
 |[],y::l2,_,_,h=>absurd ((h y).2 (by simp)) (by simp)
 |x::l1,[],_,_,h=>absurd ((h x).1 (by simp)) (by simp)
 |
  x::l1,y::l2,h1,h2,h=>by
  have g1:=BA.1 h1
  have g2:=BA.1 h2
  have hxy:x=y:=by
   rcases An.1 ((h x).1 (by simp))with e|e
   ·exact e
   ·rcases An.1 ((h y).2 (by simp))with e'|e'
    ·exact e'.symm
    ·have:=g2.1 x e;have:=g1.1 y e';omega
  subst hxy
  rw[Ex g1.2 g2.2 λz=>?_]
  constructor
  ·intro hz
   rcases An.1 ((h z).1 (by simp[hz]))with e|e
   ·have:=g1.1 z hz;omega
   ·exact e
  ·intro hz
   rcases An.1 ((h z).2 (by simp[hz]))with e|e
   ·have:=g2.1 z hz;omega
   ·exact e
theorem XU {E:List Edg} {v:Nat} {u:Int}:u∈Eu E v↔⟨u,v⟩∈E:=by
 simp only[Eu,Ar,A5,decide_eq_true_eq]
 constructor
 ·rintro⟨e,⟨he,hb⟩,rfl⟩;rw[<-hb];exact he
 ·intro h;exact⟨_,⟨h,rfl⟩,rfl⟩
theorem XT {E:List Edg} {v:Nat} {u:Int}:u∈DT E v↔⟨v,u⟩∈E:=by
 simp only[DT,Ar,A5,decide_eq_true_eq]
 constructor
 ·rintro⟨e,⟨he,hb⟩,rfl⟩;rw[<-hb];exact he
 ·intro h;exact⟨_,⟨h,rfl⟩,rfl⟩
theorem jW {G:Gr}(h:G.Ok) {v:Nat} {u:Int}:u∈Du G.edges v↔0<=u/\u<G.labels.length/\turn ⟨u,v⟩∈G.edges:=by
 unfold Du
 rw[Ag,XU,XT]
 constructor
 ·rintro(h1|h1)
  ·have:=h.edge _ h1
   simp only at this
   refine⟨by omega,by omega,?_⟩
   rw[I7 (by simp only;omega)];exact h1
  ·have:=h.edge _ h1
   simp only at this
   refine⟨by omega,by omega,?_⟩
   rw[GJ,I7 (by simp only;omega)];exact h1
 ·rintro⟨h0,h1,h2⟩
  by_cases hl:u<=(v:Int)
  ·rw[I7 (by simpa using hl)]at h2;exact .inl h2
  ·rw[GJ,I7 (by simp only;omega)]at h2;exact .inr h2
def Lz(E:List Edg)(v:Nat):List Int:=(E.zipIdx.filter λp=>decide (p.1.a=(v:Int)\/p.1.b=(v:Int))).map λp=>(p.2:Int)
theorem Ho(E:List Edg)(p:Edg×Nat->Bool):((E.zipIdx.filter p).map λq=>(q.2:Int)).Pairwise (· < ·):=by
 have key:∀(E:List Edg) (k:Nat),((E.zipIdx k).filter p).Pairwise (λx y=>x.2<y.2)/\∀x∈E.zipIdx k,k<=x.2:=by
  intro E
  induction E with
  |nil=>intro k;simp
  |
   cons e E ih=>
   intro k
   have:=ih (k+1)
   rw[NW]
   refine⟨?_,?_⟩
   ·rw[NX]
    split
    ·rw[BA]
     refine⟨λx hx=>?_,this.1⟩
     have:=this.2 x (A5.1 hx).1
     omega
    ·exact this.1
   ·intro x hx
    rcases An.1 hx with rfl|hx
    ·simp
    ·have:=this.2 x hx;omega
 rw[B6]
 exact(key E 0).1.imp λh=>by omega
theorem kL {G:Gr}(_h:G.Ok)(v:Nat):∀x,x∈Gp G.edges v↔x∈Lz G.edges v:=by
 intro x
 simp only[Gp,Gg,Fi,Lz,Ag,Ar,A5,decide_eq_true_eq]
 constructor
 ·rintro(⟨p,⟨h1,h2⟩,rfl⟩|⟨p,⟨h1,h2⟩,rfl⟩)
  ·exact⟨p,⟨h1,.inr h2⟩,rfl⟩
  ·exact⟨p,⟨h1,.inl h2⟩,rfl⟩
 ·rintro⟨p,⟨h1,h2|h2⟩,rfl⟩
  ·exact .inr ⟨p,⟨h1,h2⟩,rfl⟩
  ·exact .inl ⟨p,⟨h1,h2⟩,rfl⟩
theorem VI {G:Gr}(h:G.Ok)(v:Nat):(Gp G.edges v).Pairwise (· < ·):=by
 unfold Gp
 rw[Ct]
 refine⟨Ho _ _,Ho _ _,?_⟩
 intro a ha b hb
 simp only[Gg,Fi,Ar,A5,decide_eq_true_eq]at ha hb
 obtain⟨⟨x,i⟩,⟨h1,h2⟩,rfl⟩:=ha
 obtain⟨⟨y,j⟩,⟨h3,h4⟩,rfl⟩:=hb
 simp only at h2 h4⊢
 have hx:=Ri.1 h1
 have hy:=Ri.1 h3
 simp only at hx hy
 have ex:=h.edge x (AB hx)
 have ey:=h.edge y (AB hy)
 rcases WK i j with hij|hij|hij
 ·omega
 ·subst hij;rw[hx]at hy;cases hy;omega
 ·obtain⟨hi,ei⟩:=Ae.1 hx
  obtain⟨hj,ej⟩:=Ae.1 hy
  have:=AH.1 h.sorted j i hj hi hij
  rw[ei,ej,Eh]at this
  omega
theorem oX {G:Gr}(h:G.Ok)(v:Nat):Gp G.edges v=Lz G.edges v:=Ex (VI h v) (Ho _ _) (kL h v)
end Go.Gr
end
