/- Merged: Pmk Pmg Lnm Qtp Qii Qta Qtb Pgx Vpl Lvp Lvs Lvj Lvw Dlg Vof Vta Vtc Lvx Lvo. -/
import Derived.Test.YtjpmmkodoeipmaaGreatDoorrtar
import Derived.Test.YtjpmmkodoeipmaaGreatDoorrtau
import Derived.Test.YtjpmmkodoeipmaaGreatDoorrtav
import Derived.Test.YtjpmmkodoeipmaaGreatDoorrtas
import Derived.Test.YtjpmmkodoeipmaaGreatDoorrtaq
section
namespace Go.Gr
def RE(f:Nat->Nat->Bool)(i k:Nat):List Edg:=((List.range k).filter λx=>f x i).map λx:Nat=>⟨(x:Int),(i:Int)⟩
def Hz(f:Nat->Nat->Bool)(n:Nat):List Edg:=(List.range n).flatMap λi=>RE f i i
theorem tM(f:Nat->Nat->Bool)(i k:Nat):RE f i (k+1)=RE f i k++if f k i then[⟨(k:Int),(i:Int)⟩]else[]:=by
 unfold RE
 rw[CR,Cd,A7]
 congr 1
 by_cases hf:f k i<;>simp[hf]
theorem Vs(f:Nat->Nat->Bool)(n:Nat):Hz f (n+1)=Hz f n++RE f n n:=by simp[Hz,CR]
theorem dB(f:Nat->Nat->Bool)(i k:Nat):(RE f i k).length<=k:=by
 unfold RE
 rw[Ac]
 exact BI (CM _ _) (by simp)
theorem RC(f:Nat->Nat->Bool):∀n,(Hz f n).length<=n*n
 |0=>by simp[Hz]
 |
  n+1=>by
  have h1:=RC f n
  have h2:=dB f n n
  rw[Vs,Ah,Nat.mul_add,CT];omega
def Pj(E:List Edg)(l:List Int)(k i:Nat):Bool:=decide (turn ⟨(l[k]?).getD 0,(l[i]?).getD 0⟩∈E)
end Go.Gr
namespace Go.Proofs.YtjpmmkodoeipmaaGreatDoor
open Go.Sx Go.RowKit Go.Reg Go.Gr
set_option maxRecDepth 100000
def L8:ByteArray:=⟨#[108,105,115,116]⟩
def dP0:Da:=.agg [.nils,.nils]
def ADl:List FuncId:=[223]
theorem PK(G:Gr)(l:List Int)(hl:l.length<=100000):Pure C1 160 [dG G,Bh l] (λy=>y=Bh (l.map (EO G))):=by
 have hdl:(l.map dI).length=l.length:=Ac _
 refine AU Tryz.func160 Tryz.ntmps160 ADl [] ?_
 ((conv=>whnf);repeat' ((first|refine odw ?_|refine nx ?_|refine AB (λ_=>?_) (λ_=>?_))<;>conv=>whnf))
 refine AQ (ι:=Nat) (λi=>i<=l.length) (λi=>[(10,.d (.int .i64 i)),(9,.d (.int .i64 l.length)),(8,.d (Bh l)),(5,.own 300),(0,.d (dG G))]) (λi=>[(300,.slice 3 1 (((l.take i).map (EO G)).map dI))]) (λi=>l.length-i) 0 (λ_=>rfl) (Am _) (.own 5 300 3 1 rfl rfl (.refl _ _)) ⟨rfl,by rw[<-hdl];rfl,rfl,rfl,rfl,trivial⟩ ⟨rfl,trivial⟩ ?_
 intro i hi
 refine Ca ADl [] ?_
 by_cases hil:i<l.length
 ·have hx:=Ab hil
  generalize l[i]=x at hx
  have hxd:(l.map dI)[i]? =some (.int .i64 x):=by rw[Ad,hx];rfl
  have hlb:=jI G x
  have hll:(((l.take i).map (EO G)).map dI).length=i:=by simp only[Ac,A8];omega
  (conv=>whnf)
  (repeat' ((first|refine Aj ?_ ?_|refine AO hxd rfl ?_|refine Bq tab rfl hlb rfl ?_|refine nx ?_|refine AB (λ_=>?_) (λ_=>?_)|exact AE)<;>conv=>whnf))
  refine⟨i+1,_,_,by omega,.refl _ _,⟨rfl,rfl,rfl,rfl,rfl,trivial⟩,⟨Bj ?_,trivial⟩,by omega⟩
  rw[Au,hx];simp[dI]
 ·have e:l.take i=l:=Ak (by omega)
  rw[e]
  ((conv=>whnf);repeat' ((first|refine odw ?_|refine nx ?_|refine AB (λ_=>?_) (λ_=>?_))<;>conv=>whnf))
  exact rfl
def AAQ:List FuncId:=[161,162,160,159]
set_option maxHeartbeats 4000000 in
theorem gR(G:Gr)(hG:G.Ok)(l:List Int)(q:Pt)(hmk:l.length<=8->C9 G l=true->Pure C1 159 [Bh (l.map (EO G)),ET (Hz (Pj G.edges l) l.length)] (λy=>y=.tuple [FC q,.nili]))(hm:l.length<=9000000000000000000):
  Pure C1 111 [dG G,Bh l] (λy=>y=if 8<l.length then .tuple [dP0,dF 6 0 L8]else if C9 G l=false then .tuple [dP0,dF 2 0 L8]else .tuple [FC q,.nili]):=by
 have hdl:(l.map dI).length=l.length:=Ac _
 have hlk:=aV G hG l
 refine AU Tryz.func111 Tryz.ntmps111 AAQ [] ?_
 by_cases h8:8<l.length
 ·rw[if_pos h8]
  (conv=>whnf)
  (repeat' ((first|refine Aj ?_ ?_|refine Af rfl (CH 6 0 L8) ?_|refine nx ?_|refine AB (λ_=>?_) (λ_=>?_)|exact AE)<;>conv=>whnf))
  exact rfl
 rw[if_neg h8]
 cases hl:C9 G l with
 |
  false=>
  rw[hl]at hlk
  rw[if_pos rfl]
  (conv=>whnf)
  (repeat' ((first|refine Aj ?_ ?_|refine Af rfl hlk ?_|refine Af rfl (CH 2 0 L8) ?_|refine nx ?_|refine AB (λ_=>?_) (λ_=>?_)|exact AE)<;>conv=>whnf))
  exact rfl
 |
  true=>
  rw[hl]at hlk
  rw[if_neg (by decide)]
  have hmk:=hmk (by omega) hl
  have hql:=PK G l (by omega)
  have hcl:=RC (Pj G.edges l)
  have hsq:l.length*l.length<=8*8:=DN (by omega) (by omega)
  (conv=>whnf)
  (repeat' ((first|refine Aj ?_ ?_|refine Af rfl hlk ?_|refine nx ?_|refine AB (λ_=>?_) (λ_=>?_)|exact AE)<;>conv=>whnf))
  refine AQ (ι:=Nat) (λi=>i<=l.length) (λi=>[(26,.d (.int .i64 i)),(25,.d (.int .i64 l.length)),(24,.d (Bh l)),(6,.own 300),(4,.own 4),(1,.d (Bh l)),(0,.d (dG G))]) (λi=>[(4,.cells 54 [.d .nils,.d .nils]),(300,.slice 90 2 ((Hz (Pj G.edges l) i).map dE))]) (λi=>l.length-i) 0 (λ_=>rfl) (Am _) (.own 6 300 90 2 rfl rfl (.refl _ _)) ⟨rfl,by rw[<-hdl];rfl,rfl,rfl,rfl,rfl,rfl,trivial⟩ ⟨rfl,rfl,trivial⟩ ?_
  intro i hi
  refine Ca AAQ [] ?_
  by_cases hil:i<l.length
  ·have hx:=Ab hil
   have hadj:∀k u,l[k]? =some u->Pj G.edges l k i=decide (turn ⟨u,l[i]⟩∈G.edges):=λk u hk=>by unfold Pj;rw[hk,hx];rfl
   generalize l[i]=x at hx hadj
   have hxd:(l.map dI)[i]? =some (.int .i64 x):=by rw[Ad,hx];rfl
   have hsub:(l.map dI).take i=(l.take i).map dI:=by rw[Fj]
   have htl:((l.map dI).take i).length=i:=by rw[A8];omega
   have hci:=hcl i
   have hii:i*i<=8*8:=DN (by omega) (by omega)
   (conv=>whnf)
   (repeat' ((first|refine Aj ?_ ?_|refine AO hxd rfl ?_|refine Ku rfl (show i<=(l.map dI).length by omega) ?_|refine nx ?_|refine AB (λ_=>?_) (λ_=>?_)|exact AE)<;>conv=>whnf))
   refine AQ (ι:=Nat) (λk=>k<=i) (λk=>[(35,.d (.int .i64 k)),(34,.d (.int .i64 i)),(33,.d (.list 1 ((l.map dI).take i))),(26,.d (.int .i64 i)),(25,.d (.int .i64 l.length)),(24,.d (Bh l)),(8,.d (.int .i64 x)),(7,.d (.int .i64 i)),(6,.own 300),(4,.own 4),(1,.d (Bh l)),(0,.d (dG G))]) (λk=>[(4,.cells 54 [.d .nils,.d .nils]),(300,.slice 90 2 ((Hz (Pj G.edges l) i++RE (Pj G.edges l) i k).map dE))]) (λk=>i-k) 0 (λ_=>rfl) (Am _) (.refl _ _) ⟨rfl,OU (by rw[htl]),rfl,rfl,rfl,rfl,rfl,rfl,rfl,rfl,rfl,rfl,trivial⟩ ⟨rfl,by rw[show RE (Pj G.edges l) i 0=[]from rfl,Cq];rfl,trivial⟩ ?_
   intro k hk
   refine Ca AAQ [] ?_
   by_cases hki:k<i
   ·have hy:=Ab (l:=l) (i:=k) (by omega)
    generalize l[k]'(by omega)=u at hy
    have hyd:((l.map dI).take i)[k]? =some (.int .i64 u):=by rw[CX,if_pos hki,Ad,hy];rfl
    have hh:=Xc G hG u x
    have hst:=tM (Pj G.edges l) i k
    rw[hadj k u hy]at hst
    have hkl:=dB (Pj G.edges l) i k
    have hol:((Hz (Pj G.edges l) i++RE (Pj G.edges l) i k).map dE).length<=1000:=by rw[Ac,Ah];omega
    by_cases hd:turn ⟨u,x⟩∈G.edges
    ·rw[decide_eq_true hd]at hh hst
     rw[if_pos rfl]at hst
     (conv=>whnf)
     (repeat' ((first|refine Aj ?_ ?_|refine AO hyd rfl ?_|refine Bq tab rfl hh rfl ?_|refine nx ?_|refine AB (λ_=>?_) (λ_=>?_)|exact AE)<;>conv=>whnf))
     refine⟨k+1,_,_,by omega,.refl _ _,⟨rfl,rfl,rfl,rfl,rfl,rfl,rfl,rfl,rfl,rfl,rfl,rfl,trivial⟩,⟨rfl,Bj ?_,trivial⟩,by omega⟩
     rw[hst];simp[dE]
    ·rw[decide_eq_false hd]at hh hst
     rw[if_neg (by decide),Cq]at hst
     (conv=>whnf)
     (repeat' ((first|refine Aj ?_ ?_|refine AO hyd rfl ?_|refine Bq tab rfl hh rfl ?_|refine nx ?_|refine AB (λ_=>?_) (λ_=>?_)|exact AE)<;>conv=>whnf))
     exact⟨k+1,_,_,by omega,.refl _ _,⟨rfl,rfl,rfl,rfl,rfl,rfl,rfl,rfl,rfl,rfl,rfl,rfl,trivial⟩,⟨rfl,Bj (by rw[hst]),trivial⟩,by omega⟩
   ·have hke:k=i:=by omega
    subst hke
    ((conv=>whnf);repeat' ((first|refine odw ?_|refine nx ?_|refine AB (λ_=>?_) (λ_=>?_))<;>conv=>whnf))
    exact⟨k+1,_,_,by omega,.refl _ _,⟨rfl,rfl,rfl,rfl,rfl,rfl,rfl,trivial⟩,⟨rfl,Bj (by rw[Vs]),trivial⟩,by omega⟩
  ·have hie:i=l.length:=by omega
   subst hie
   (conv=>whnf)
   (repeat' ((first|refine Aj ?_ ?_|refine Dq 300 rfl ?_|refine Af rfl hql ?_|refine Af rfl hmk ?_|refine nx ?_|refine AB (λ_=>?_) (λ_=>?_)|exact AE)<;>conv=>whnf))
   exact rfl
end Go.Proofs.YtjpmmkodoeipmaaGreatDoor
end
section
namespace Go.Proofs.YtjpmmkodoeipmaaGreatDoor
open Go.Sx Go.RowKit Go.Reg Go.Gr
set_option maxRecDepth 100000
theorem RA {O:List Nat} {w:World}:∀{l:List Edg} {css:List (List Value)},Aq O w (l.map dE) css->css=l.map Co
 |[],css,h=>by simpa only[Bt,Aq]using h
 |
  e::l,css,h=>by
  simp only[Ap,Aq,dE,RepC,RepCs]at h
  obtain⟨c1,c2,rfl,⟨a1,a2,rfl,rfl,b1,b2,rfl,rfl,rfl⟩,h⟩:=h
  rw[RA h];rfl
theorem Vr(O:List Nat)(w:World):∀l:List Edg,Aq O w (l.map dE) (l.map Co)
 |[]=>by simp[Aq]
 |
  e::l=>by
  simp only[Ap,Aq,dE,RepC,RepCs]
  exact⟨_,_,rfl,⟨_,_,rfl,rfl,_,_,rfl,rfl,rfl⟩,Vr O w l⟩
theorem Xm {E:Nat} {w:World} {v:Value} {l:List Edg}:Sl E 2 id w v (l.map Co)↔Sl E 2 Co w v l:=by
 unfold Sl
 rw[Ac,Gw]
 exact SD
theorem jP(l:List Edg)(hl:l.length<=4294967296)(e:Edg)(i:Nat)(hi:i<=l.length):
  VD C1 222 90 2 (l.map dE) [.int .i64 i,.list 2 [dE e]] (λds=>ds=(l.take i++e::l.drop i).map dE):=by
 intro O w v css us hs hb hO hr hk hg hus
 obtain rfl:=RA hr
 obtain⟨v1,vs,rfl,h1,h2⟩:=Cg hus
 obtain⟨v2,vs2,rfl,h3,h4⟩:=Cg h2
 obtain rfl:=Dv h4
 obtain rfl:=EW h1
 obtain⟨cs,r,rfl⟩:=h3
 simp only[RepC]at r
 obtain⟨a,cap,css,rfl,hlc,hcm,hcs,hrow,hd⟩:=r
 have hcs':css=[Co e]:=RA (l:=[e]) hcs
 subst hcs'
 rcases hd with hd|⟨vb,vo,rfl,hvb,hvl,hcell⟩
 ·cases hd
 refine⟨enters_of Tryz.func222 (by kernel_rfl) rfl _ _,?_⟩
 refine(sE v l e i hi w (Xm.1 hs) hl vb vo cap (λhm=>hvb (hb vb hm)) (λj u hj=>hcell j u (by simpa using hj))).mono ?_
 rintro x w' ⟨v',rfl,hs',ht,hb'⟩
 refine⟨v',_,(l.take i++e::l.drop i).map Co,rfl,rfl,Xm.2 hs',hb',Vr _ _ _,λy hy=>?_,ht⟩
 obtain⟨z,_,rfl⟩:=An.1 hy
 exact⟨IN z,IM z⟩
theorem Y0(l:List Edg):GG (l.map dE)=true:=HP _ (λ_=>rfl) _
def xH:List (Nat×Plan):=[(8,.leaf [0,1,1,2,2,0,0,0,0,0] [0,1,2,3,4,5,6,7,8,9] [0,1,0,4,15,31,63,63,127,511]),
 (13,.leaf [0,1,0,1,2,6,3,0,3] [0,2,1,3,4,5,6,7,8] [0,1,0,0,8,24,63,127,255])]
def ADq:List FuncId:=[221,220,166]
set_option maxHeartbeats 4000000 in
theorem Uq(l:List Int)(hl:M0 l=none)(E:List Edg)(hE:E.length<=1000)(hw:∀e∈E,(0<=min e.a e.b/\max e.a e.b<(l.length:Int))/\e.a≠e.b)(hn:(E.map turn).Nodup):
  Pure C1 159 [Bh l,ET E] (λy=>y=.tuple [FC ⟨l,(E.map turn).foldl LG []⟩,.nili]):=by
 have hdl:(l.map dI).length=l.length:=Ac _
 have hdE:(E.map dE).length=E.length:=Ac _
 have h8:=(CQ hl).1
 have hlb:=PR l (by omega)
 rw[show Gu l=.nili by unfold Gu;rw[hl]]at hlb
 refine AU Tryz.func159 Tryz.ntmps159 ADq xH ?_
 (conv=>whnf)
 (repeat' ((first|refine Aj ?_ ?_|refine Af rfl hlb ?_|refine nx ?_|refine AB (λ_=>?_) (λ_=>?_)|exact AE)<;>conv=>whnf))
 refine EF 19 rfl rfl (It l (by omega)) ?_
 rintro ds rfl
 ((conv=>whnf);repeat' ((first|refine odw ?_|refine nx ?_|refine AB (λ_=>?_) (λ_=>?_))<;>conv=>whnf))
 refine AQ (ι:=Nat) (λi=>i<=E.length) (λi=>[(23,.d (.int .i64 i)),(22,.d (.int .i64 E.length)),(21,.d (ET E)),(7,.own 7),(4,.own 4),(0,.d (Bh l))]) (λi=>[(4,.cells 54 [.d .nils,.d .nils]),(7,.cells 54 [.d (Bh l),.own 300]),(300,.slice 90 2 ((KG E i).map dE))]) (λi=>E.length-i) 0 (λ_=>rfl) (Am _) (.frz 19 rfl (.ownc 7 300 90 2 rfl rfl (.there _ (.here _)) (.refl _ _))) ⟨rfl,by rw[<-hdE];rfl,rfl,rfl,rfl,rfl,trivial⟩ ⟨rfl,rfl,rfl,trivial⟩ ?_
 intro i hi
 refine Ca ADq xH ?_
 obtain⟨hst,hpe⟩:=ACC hn i
 have hal:(KG E i).length=i:=by rw[hpe.length_eq,Ac,A8];omega
 have hald:((KG E i).map dE).length=i:=by rw[Ac,hal]
 by_cases hil:i<E.length
 ·have hx:=Ab hil
  have hxw:=hw E[i] (AZ hil)
  have hstep:=uH hx
  have hnot:turn E[i]∉KG E i:=λhm=>by
   have:=hpe.mem_iff.1 hm
   rw[Fj]at this
   obtain⟨j,hj,he⟩:=Bc.1 this
   have hj':j<i:=by omega
   have hij:(E.map turn)[j]? =(E.map turn)[i]? :=by
    rw[Ab (by simp;omega),Ab (by simp;omega),he];simp
   have:=(FJ (by simp;omega) hn).1 hij
   omega
  generalize E[i]=x at hx hxw hstep hnot
  have hxd:(E.map dE)[i]? =some (.agg [.int .i64 x.a,.int .i64 x.b]):=by rw[Ad,hx];rfl
  have htu:=Lb x
  have hbs:=Ow _ Mi (KG E i) hst (by omega) (turn x)
  rw[decide_eq_false hnot]at hbs
  have hwi:=RV x l.length
  rw[decide_eq_true hxw.1,<-hdl]at hwi
  have hlt:=ADX (KG E i) (turn x)
  have hin:=jP (KG E i) (by omega) (turn x) (Jk (KG E i) (turn x)) hlt
  rw[show(KG E i).take (Jk (KG E i) (turn x))++turn x::(KG E i).drop (Jk (KG E i) (turn x))=KG E (i+1)from hstep.symm]at hin
  have hne:=hxw.2
  (conv=>whnf)
  (repeat' ((first|refine Aj ?_ ?_|refine AO hxd rfl ?_|refine Af rfl htu ?_|refine Bq tab rfl hbs rfl ?_|refine Af rfl hwi ?_|refine Dq 62 rfl ?_|refine nx ?_|refine AB (λ_=>?_) (λ_=>?_)|exact AE)<;>conv=>whnf))
  refine Xr tab rfl rfl hin (λds h=>by subst h;exact Y0 _) ?_
  rintro ds rfl
  ((conv=>whnf);repeat' ((first|refine odw ?_|refine nx ?_|refine AB (λ_=>?_) (λ_=>?_))<;>conv=>whnf))
  exact⟨i+1,_,_,by omega,.refl _ _,⟨rfl,rfl,rfl,rfl,rfl,rfl,trivial⟩,⟨rfl,rfl,rfl,trivial⟩,by omega⟩
 ·have hie:i=E.length:=by omega
  subst hie
  have e:KG E E.length=(E.map turn).foldl LG []:=by unfold KG;rw[E0]
  rw[e]
  ((conv=>whnf);repeat' ((first|refine odw ?_|refine nx ?_|refine AB (λ_=>?_) (λ_=>?_))<;>conv=>whnf))
  exact rfl
end Go.Proofs.YtjpmmkodoeipmaaGreatDoor
end
section
namespace Go.Proofs.YtjpmmkodoeipmaaGreatDoor
open Go.Gr
theorem iW {E:List Edg} {l:List Int} {e:Edg}:e∈C0 E l↔∃m:Nat,(m:Int)∈l/\E[m]? =some e:=by
 simp only[C0,List.mem_filterMap]
 constructor
 ·rintro⟨x,hx,h⟩
  split at h
  ·rename_i hr
   obtain⟨m,rfl⟩:=A9 hr.1
   exact⟨m,hx,by simpa using h⟩
  ·cases h
 ·rintro⟨m,hm,h⟩
  have:=(Ae.1 h).1
  exact⟨m,hm,by rw[if_pos ⟨by omega,by omega⟩,Bi];exact h⟩
theorem turn_nat {u m:Nat}(h:u≠m):(u<m/\turn ⟨(u:Int),(m:Int)⟩=⟨(u:Int),(m:Int)⟩)\/(m<u/\turn ⟨(u:Int),(m:Int)⟩=⟨(m:Int),(u:Int)⟩):=by
 rcases Nat.lt_or_gt_of_ne h with h|h
 ·exact .inl ⟨h,by unfold turn;simp only[Edg.mk.injEq];omega⟩
 ·exact .inr ⟨h,by unfold turn;simp only[Edg.mk.injEq];omega⟩
theorem oT {E:List Edg} {u m:Nat}(h:u≠m)(hu:u<E.length)(hm:m<E.length):turn ⟨(u:Int),(m:Int)⟩∈JW E E.length↔tch E u m=true:=by
 rw[N4]
 rcases turn_nat h with⟨h1,h2⟩|⟨h1,h2⟩<;>rw[h2]
 ·constructor
  ·rintro⟨a,b,_,_,_,ht,e⟩
   simp only[Edg.mk.injEq]at e
   rw[show u=a by omega,show m=b by omega];exact ht
  ·exactλht=>⟨u,m,hu,hm,h1,ht,rfl⟩
 ·constructor
  ·rintro⟨a,b,_,_,_,ht,e⟩
   simp only[Edg.mk.injEq]at e
   rw[show m=a by omega,show u=b by omega,lZ];exact ht
  ·exactλht=>⟨m,u,hm,hu,h1,by rw[lZ];exact ht,rfl⟩
theorem WV {G:Gr} {l:List Int}(h:C9 G l=true) {k:Nat} {v:Int}(hx:l[k]? =some v):DR G l k v=true:=by
 cases hh:DR G l k v with
 |true=>rfl
 |false=>rw[Ga hx hh]at h;cases h
theorem zD {G:Gr} {v:Int}:Gc (IE G) v=decide (0<=v/\v<G.edges.length):=by simp[Gc,IE]
theorem OQ {G:Gr} {l:List Int} {i:Nat} {v:Int}(h:¬(0<=v/\v<G.edges.length)\/v∈l.take i):DR (IE G) l i v=false:=by
 unfold DR
 rw[zD]
 rcases h with h|h<;>simp[h]
end Go.Proofs.YtjpmmkodoeipmaaGreatDoor
end
section
namespace Go.Gr
theorem Z4(f:Nat->Nat->Bool)(a b:Nat):CC (wE f a b):=by
 unfold CC wE
 rw[B7]
 refine Pp ?_ (List.Pairwise.filter _ AAJ)
 intro x y h
 rw[F3]
 exact .inr ⟨rfl,by show(x:Int)<y;omega⟩
theorem KX(f:Nat->Nat->Bool)(n a:Nat):CC (Zz f n a):=by
 unfold Zz CC
 rw[ACF]
 refine⟨λj _=>Z4 f j n,Pp ?_ AAJ⟩
 intro i j hij x hx y hy
 simp only[wE,An]at hx hy
 obtain⟨_,_,rfl⟩:=hx
 obtain⟨_,_,rfl⟩:=hy
 rw[F3]
 exact .inl (by show(i:Int)<j;omega)
theorem Ru {f:Nat->Nat->Bool} {n:Nat} {e:Edg}:e∈Hz f n↔∃k i:Nat,i<n/\k<i/\f k i=true/\e=⟨(k:Int),(i:Int)⟩:=by
 simp only[Hz,RE,AL,AN,An,A0]
 constructor
 ·rintro⟨i,hi,k,⟨h1,h2⟩,rfl⟩;exact⟨k,i,hi,h1,h2,rfl⟩
 ·rintro⟨k,i,hi,h1,h2,rfl⟩;exact⟨i,hi,k,⟨h1,h2⟩,rfl⟩
theorem S7(f:Nat->Nat->Bool)(n:Nat):(Hz f n).Nodup:=by
 unfold Hz List.Nodup
 rw[ACF]
 refine⟨λi _=>?_,Pp ?_ AAJ⟩
 ·unfold RE
  rw[B7]
  refine Pp ?_ (List.Pairwise.filter _ AAJ)
  intro x y h e
  have:(x:Int)=y:=congrArg Edg.a e
  omega
 ·intro i j hij x hx y hy e
  simp only[RE,An]at hx hy
  obtain⟨a,_,rfl⟩:=hx
  obtain⟨b,_,rfl⟩:=hy
  have:(i:Int)=j:=congrArg Edg.b e
  omega
theorem nI {L R:List Edg}(hn:(L.map turn).Nodup)(hR:CC R)(h:∀x,x∈L.map turn↔x∈R):(L.map turn).foldl LG []=R:=by
 obtain⟨h1,h2⟩:=MB _ hn [] List.Pairwise.nil (by simp)
 refine Oh h1 hR λx=>?_
 rw[h2.mem_iff,Cq]
 exact h x
theorem Pe(f:Nat->Nat->Bool)(n:Nat):(Hz f n).map turn=Hz f n:=by
 have:∀e∈Hz f n,turn e=id e:=λe he=>by
  obtain⟨k,i,_,h,_,rfl⟩:=Ru.1 he
  exact Nu (show(k:Int)<=i by omega)
 rw[Ec this,List.map_id]
theorem ABi(x y:Int):turn ⟨x,y⟩=⟨x,y⟩\/turn ⟨x,y⟩=⟨y,x⟩:=by
 unfold turn;simp only[Edg.mk.injEq];omega
theorem rT {E:List Edg}(hE:∀e∈E,e.a<e.b)(l:List Int):((Hz (Pj E l) l.length).map turn).foldl LG []=UE E l:=by
 refine nI (by rw[Pe];exact S7 _ _) (KX _ _ _) λx=>?_
 rw[Pe,Ru]
 unfold UE
 rw[Rr]
 constructor
 ·rintro⟨k,i,h1,h2,h3,rfl⟩
  exact⟨k,i,by omega,h1,h2,by unfold W9;rw[Kw hE];exact h3,rfl⟩
 ·rintro⟨j,x,h0,h1,h2,h3,rfl⟩
  unfold W9 at h3
  rw[Kw hE]at h3
  exact⟨j,x,h1,h2,h3,rfl⟩
theorem jR {l:List Int} {x:Int}(h:x∈l):∃i:Nat,i<l.length/\l[i]? =some x/\SG l x=i:=by
 have hs:(l.findIdx? λy=>decide (x=y)).isSome=true:=by
  rw[List.findIdx?_isSome,Ct];exact⟨x,h,by simp⟩
 obtain⟨i,hi⟩:=Option.isSome_iff_exists.1 hs
 have hi':=hi
 rw[Ba]at hi'
 obtain⟨h1,h2,_⟩:=hi'
 have h2:x=l[i]:=by simpa using h2
 exact⟨i,h1,by rw[Ab h1,<-h2],by unfold SG;rw[hi]⟩
theorem nS {l:List Int}(hn:l.Nodup) {i:Nat} {x:Int}(h:l[i]? =some x):SG l x=i:=by
 obtain⟨j,hj,h2,h3⟩:=jR (A6 h)
 rw[h3]
 have:=(FJ hj hn).1 (h2.trans h.symm)
 omega
def atE(v:List Int)(e:Edg):Edg:=⟨SG v e.a,SG v e.b⟩
theorem YE {v:List Int}(_hn:v.Nodup) {e:Edg}(h:e.a<e.b)(ha:e.a∈v)(hb:e.b∈v):∃i j:Nat,i<v.length/\j<v.length/\v[i]? =some e.a/\v[j]? =some e.b/\i≠j/\atE v e=⟨(i:Int),(j:Int)⟩:=by
 obtain⟨i,h1,h2,h3⟩:=jR ha
 obtain⟨j,h4,h5,h6⟩:=jR hb
 refine⟨i,j,h1,h4,h2,h5,λe'=>?_,by unfold atE;rw[h3,h6]⟩
 subst e'
 rw[h2]at h5
 have:=Cc h5
 omega
theorem yZ {E:List Edg}(hE:∀e∈E,e.a<e.b)(hn:E.Nodup)(v:List Int)(hv:v.Nodup)(hin:∀e∈E,e.a∈v/\e.b∈v):
  (((E.map (atE v)).map turn).Nodup)/\((E.map (atE v)).map turn).foldl LG []=UE E v:=by
 have hnd:((E.map (atE v)).map turn).Nodup:=by
  rw[ED]
  refine B7.2 (Er ?_ hn)
  intro x y hx hy hxy h
  refine hxy ?_
  simp only[Function.comp]at h
  obtain⟨i,j,h1,h2,h3,h4,h5,h6⟩:=YE hv (hE x hx) (hin x hx).1 (hin x hx).2
  obtain⟨i2,j2,k1,k2,k3,k4,k5,k6⟩:=YE hv (hE y hy) (hin y hy).1 (hin y hy).2
  rw[h6,k6]at h
  have hxl:=hE x hx
  have hyl:=hE y hy
  have hcase:(i=i2/\j=j2)\/(i=j2/\j=i2):=by
   unfold turn at h;simp only[Edg.mk.injEq]at h;omega
  rcases hcase with⟨rfl,rfl⟩|⟨rfl,rfl⟩
  ·rw[h3]at k3;rw[h4]at k4
   have e1:=Cc k3;have e2:=Cc k4
   cases x;cases y;simp_all
  ·rw[h3]at k4;rw[h4]at k3
   have e1:=Cc k3;have e2:=Cc k4
   omega
 refine⟨hnd,nI hnd (KX _ _ _) λx=>?_⟩
 unfold UE
 rw[Rr]
 simp only[ED,An,Function.comp]
 constructor
 ·rintro⟨e,he,rfl⟩
  obtain⟨i,j,h1,h2,h3,h4,h5,h6⟩:=YE hv (hE e he) (hin e he).1 (hin e he).2
  have ht:turn e=e:=Nu (Int.le_of_lt (hE e he))
  rw[h6]
  rcases Go.Proofs.YtjpmmkodoeipmaaGreatDoor.turn_nat h5 with⟨h7,h8⟩|⟨h7,h8⟩<;>rw[h8]
  ·refine⟨i,j,h1,h2,h7,?_,rfl⟩
   unfold W9;rw[Kw hE,h3,h4]
   simp only[Fh,decide_eq_true_eq]
   rw[show(⟨e.a,e.b⟩:Edg)=e from rfl,ht];exact he
  ·refine⟨j,i,h2,h1,h7,?_,rfl⟩
   unfold W9;rw[Kw hE,h3,h4]
   simp only[Fh,decide_eq_true_eq]
   rw[Ig,show(⟨e.a,e.b⟩:Edg)=e from rfl,ht];exact he
 ·rintro⟨j,x,h0,h1,h2,h3,rfl⟩
  unfold W9 at h3
  rw[Kw hE,decide_eq_true_eq]at h3
  have hj:=Ab h0
  have hx:=Ab h1
  refine⟨_,h3,?_⟩
  have g1:=nS hv hj
  have g2:=nS hv hx
  rw[hj,hx]at h3⊢
  simp only[Fh]at h3⊢
  rcases ABi v[j] v[x]with e|e<;>rw[e]<;>unfold atE<;>simp only[g1,g2]
  ·exact Nu (show(j:Int)<=x by omega)
  ·rw[Ig];exact Nu (show(j:Int)<=x by omega)
end Go.Gr
end
section
namespace Go.Proofs.YtjpmmkodoeipmaaGreatDoor
open Go.Sx Go.RowKit Go.Reg Go.Gr
set_option maxRecDepth 100000
theorem oX {G:Gr} {u m:Nat}(hu:u<G.edges.length)(hm:m<G.edges.length)(h:u≠m):Iz G.edges u m=I2 (IE G).edges m u:=by
 rw[fO]
 unfold I2 IE
 rw[CJ,decide_eq_true_eq]
 exact(oT h hu hm).symm
theorem uE {G:Gr} {t:List Int} {m:Nat}(hm:m<G.edges.length)(hn:¬(m:Int)∈t)(ht:∀u∈t,0<=u/\u<G.edges.length):t.any (λu=>Iz G.edges u m)=t.any (I2 (IE G).edges m):=by
 rw[CJ,Ct,Ct]
 have key:∀u∈t,Iz G.edges u m=I2 (IE G).edges m u:=λu hu=>by
  obtain⟨h1,h2⟩:=ht u hu
  obtain⟨k,rfl⟩:=A9 h1
  exact oX (by omega) hm (λe=>hn (by subst e;exact hu))
 constructor
 ·rintro⟨u,hu,h⟩;exact⟨u,hu,by rw[<-key u hu];exact h⟩
 ·rintro⟨u,hu,h⟩;exact⟨u,hu,by rw[key u hu];exact h⟩
def AEu:List FuncId:=[149]
theorem SF(l:List Int)(g:FuncId)(cs:List Da)(p:Int->Bool)(hp:∀x∈l,Pure C1 g (.int .i64 x::cs) (λy=>y=.bool (p x))):Pure C1 153 [Bh l,.func (.func g) [] cs] (λy=>y=.bool (l.any p)):=by
 refine AU Tryz.func153 Tryz.ntmps153 AEu [] ?_
 (conv=>whnf)
 (repeat' ((first|refine Aj ?_ ?_|refine Af rfl (JA l g cs p hp) ?_|refine nx ?_|refine AB (λ_=>?_) (λ_=>?_)|exact AE)<;>conv=>whnf))
 show Da.plain _=_
 have:=Ql l p
 cases h:l.any p<;>simp[Da.plain,this,h]
def AEv:List FuncId:=[219]
theorem qI(G:Gr)(id u:Int):Pure C1 218 [.int .i64 u,.ref (dG G),.ref (.int .i64 id)] (λy=>y=.bool (Iz G.edges u id)):=by
 refine AU Tryz.func218 Tryz.ntmps218 AEv [] ?_
 (conv=>whnf)
 (repeat' ((first|refine Aj ?_ ?_|refine Af rfl (fN G u id) ?_|refine nx ?_|refine AB (λ_=>?_) (λ_=>?_)|exact AE)<;>conv=>whnf))
 exact rfl
def xC:List (Nat×Plan):=[(5,.leaf [0,0,0,0,0,0,1,2,0] [0,1,2,3,4,5,6,7,8] [0,1,3,7,7,31,7,127,255])]
def ADk:List FuncId:=[217,152,153]
set_option maxHeartbeats 4000000 in
theorem XN(G:Gr)(l:List Int):Pure C1 155 [dG G,Bh l] (λy=>y=.bool (C9 (IE G) l)):=by
 refine Pure.assume (λO w us hr=>by obtain⟨v,vs,rfl,h1,h2⟩:=Cg hr;obtain⟨v2,vs2,rfl,h3,_⟩:=Cg h2;exact M4 h3) λhm=>?_
 have hl:(l.map dI).length=l.length:=Ac _
 refine AU Tryz.func155 Tryz.ntmps155 ADk xC ?_
 ((conv=>whnf);repeat' ((first|refine odw ?_|refine nx ?_|refine AB (λ_=>?_) (λ_=>?_))<;>conv=>whnf))
 refine AQ (ι:=Nat) (λi=>i<=l.length/\∀(j:Nat) (v:Int),j<i->l[j]? =some v->DR (IE G) l j v=true) (λi=>[(11,.d (.int .i64 i)),(10,.d (.int .i64 (l.map dI).length)),(9,.d (Bh l)),(2,.own 2),(1,.d (Bh l))]) (λ_=>[(2,.cells 28 [.d (dG G)])]) (λi=>l.length-i) 0 (λ_=>rfl) ⟨Am _,by intro j v h;omega⟩ (.refl _ _) ⟨rfl,rfl,rfl,rfl,rfl,trivial⟩ ⟨rfl,trivial⟩ ?_
 rintro i ⟨hi,hne⟩
 refine Ca ADk xC ?_
 by_cases hlt:i<l.length
 ·have hx:=Ab hlt
  generalize l[i]=y at hx
  have hxd:(l.map dI)[i]? =some (.int .i64 y):=by rw[Ad,hx];rfl
  have h1:=K7 G y
  have h2:=Ib (l.take i) y
  rw[Q1]at h2
  have hi2:i<=(l.map dI).length:=by omega
  by_cases hv:0<=y/\y<G.edges.length
  ·obtain⟨m,rfl⟩:=A9 hv.1
   have hml:m<G.edges.length:=by omega
   have he:=Ab hml
   generalize G.edges[m]=x at he
   have ey:Ff G.edges m=.tuple [dE x,.bool true]:=by unfold Ff;rw[if_pos hv,Bi,he];rfl
   rw[ey]at h1
   have hhv:Gc (IE G) m=true:=by rw[zD,decide_eq_true hv]
   by_cases hc:(m:Int)∈l.take i
   ·rw[decide_eq_true hc]at h2
    rw[Ga hx (OQ (.inr hc))]
    (conv=>whnf)
    (repeat' ((first|refine Aj ?_ ?_|refine AO hxd rfl ?_|refine Bq tab rfl h1 rfl ?_|refine Ku rfl hi2 ?_|refine Bq tab rfl h2 rfl ?_|refine nx ?_|refine AB (λ_=>?_) (λ_=>?_)|exact AE)<;>conv=>whnf))
    exact rfl
   ·rw[decide_eq_false hc]at h2
    by_cases h0:i=0
    ·have hyes:DR (IE G) l i m=true:=by simp[DR,hhv,h0]
     (conv=>whnf)
     (repeat' ((first|refine Aj ?_ ?_|refine AO hxd rfl ?_|refine Bq tab rfl h1 rfl ?_|refine Ku rfl hi2 ?_|refine Bq tab rfl h2 rfl ?_|refine nx ?_|refine AB (λ_=>?_) (λ_=>?_)|exact AE)<;>conv=>whnf))
     refine⟨i+1,_,_,⟨hlt,?_⟩,.refl _ _,⟨rfl,rfl,rfl,rfl,rfl,trivial⟩,⟨rfl,trivial⟩,by omega⟩
     intro j v hj hjv
     by_cases hji:j=i
     ·subst hji;rw[hx]at hjv;cases hjv;exact hyes
     ·exact hne j v (by omega) hjv
    ·have hpre:∀u∈l.take i,0<=u/\u<G.edges.length:=λu hu=>by
      obtain⟨j,hj,hju⟩:=Bc.1 hu
      have hj2:j<l.length:=by omega
      have h3:=hne j u (by omega) (by rw[Ab hj2,hju])
      by_cases hur:0<=u/\u<G.edges.length
      ·exact hur
      ·rw[OQ (.inl hur)]at h3;cases h3
     have h3:=SF (l.take i) 218 [.ref (dG G),.ref (.int .i64 m)] (λu=>Iz G.edges u m) (λu _=>qI G m u)
     rw[Q1,uE hml hc hpre]at h3
     have hla:DR (IE G) l i m=(l.take i).any (I2 (IE G).edges m):=by unfold DR;rw[hhv,decide_eq_false hc,decide_eq_false h0];simp
     cases hb:(l.take i).any (I2 (IE G).edges m)with
     |
      true=>
      have hyes:=hla.trans hb
      rw[hb]at h3
      (conv=>whnf)
      (repeat' ((first|refine Aj ?_ ?_|refine AO hxd rfl ?_|refine Bq tab rfl h1 rfl ?_|refine Ku rfl hi2 ?_|refine Bq tab rfl h2 rfl ?_|refine Bq tab rfl h3 rfl ?_|refine nx ?_|refine AB (λ_=>?_) (λ_=>?_)|exact AE)<;>conv=>whnf))
      refine⟨i+1,_,_,⟨hlt,?_⟩,.refl _ _,⟨rfl,rfl,rfl,rfl,rfl,trivial⟩,⟨rfl,trivial⟩,by omega⟩
      intro j v hj hjv
      by_cases hji:j=i
      ·subst hji;rw[hx]at hjv;cases hjv;exact hyes
      ·exact hne j v (by omega) hjv
     |
      false=>
      rw[hb]at h3
      rw[Ga hx (hla.trans hb)]
      (conv=>whnf)
      (repeat' ((first|refine Aj ?_ ?_|refine AO hxd rfl ?_|refine Bq tab rfl h1 rfl ?_|refine Ku rfl hi2 ?_|refine Bq tab rfl h2 rfl ?_|refine Bq tab rfl h3 rfl ?_|refine nx ?_|refine AB (λ_=>?_) (λ_=>?_)|exact AE)<;>conv=>whnf))
      exact rfl
  ·have ey:Ff G.edges y=.tuple [dE ⟨0,0⟩,.bool false]:=by unfold Ff;rw[if_neg hv]
   rw[ey]at h1
   rw[Ga hx (OQ (.inl hv))]
   (conv=>whnf)
   (repeat' ((first|refine Aj ?_ ?_|refine AO hxd rfl ?_|refine Bq tab rfl h1 rfl ?_|refine nx ?_|refine AB (λ_=>?_) (λ_=>?_)|exact AE)<;>conv=>whnf))
   exact rfl
 ·have hie:i=l.length:=by omega
  subst hie
  rw[Mz λj v hj=>hne j v (Ae.1 hj).1 hj]
  ((conv=>whnf);repeat' ((first|refine odw ?_|refine nx ?_|refine AB (λ_=>?_) (λ_=>?_))<;>conv=>whnf))
  exact rfl
end Go.Proofs.YtjpmmkodoeipmaaGreatDoor
end
section
namespace Go.Proofs.YtjpmmkodoeipmaaGreatDoor
open Go.Sx Go.RowKit Go.Reg Go.Gr
set_option maxRecDepth 100000
theorem WY {G:Gr}(hG:G.Ok) {x:Int}(hx:0<=x/\x<G.labels.length):0<=EO G x/\EO G x<=255:=by
 obtain⟨m,rfl⟩:=A9 hx.1
 have hm:m<G.labels.length:=by omega
 unfold EO
 rw[if_pos hx,Bi,Ab hm]
 exact hG.lab _ (AZ hm)
theorem Sw {G:Gr}(hG:G.Ok) {v:List Int}(h8:v.length<=8)(hv:∀x∈v,0<=x/\x<G.labels.length):M0 (v.map (EO G))=none:=by
 refine Yq (by rw[Ac];omega) (λk y hk hy=>?_)
 rw[Ad]at hy
 obtain⟨x,hx,rfl⟩:=Ck.1 hy
 have:=WY hG (hv x (A6 hx))
 unfold BZ
 simp;omega
theorem OO {G:Gr} {l:List Int}(h:C9 G l=true):∀x∈l,0<=x/\x<G.labels.length:=by
 intro x hx
 obtain⟨i,hi⟩:=EV.1 hx
 have:=WV h hi
 unfold DR Gc at this
 simp only[Ar,decide_eq_true_eq]at this
 exact this.1
theorem OP {G:Gr} {l:List Int}(h:C9 G l=true):l.Nodup:=by
 rw[List.nodup_iff_pairwise_ne,AM]
 intro i j hi hj hij he
 have:=WV h (Ab hj)
 unfold DR at this
 simp only[Ar,Cm,decide_eq_false_iff_not]at this
 exact this.2.1 (by rw[<-he];exact Bc.2 ⟨i,by omega,rfl⟩)
def Og(G:Gr)(l:List Int):Pt:=⟨l.map (EO G),UE G.edges l⟩
theorem ZH(G:Gr)(hG:G.Ok)(l:List Int)(hm:l.length<=9000000000000000000):
  Pure C1 111 [dG G,Bh l] (λy=>y=if 8<l.length then .tuple [dP0,dF 6 0 L8]else if C9 G l=false then .tuple [dP0,dF 2 0 L8]else .tuple [FC (Og G l),.nili]):=by
 refine gR G hG l (Og G l) (λh8 hl=>?_) hm
 have hlt:∀e∈G.edges,e.a<e.b:=λe he=>(hG.edge e he).2.1
 have hsq:l.length*l.length<=8*8:=DN h8 h8
 have hcl:=RC (Pj G.edges l) l.length
 have:=Uq (l.map (EO G)) (Sw hG h8 (OO hl)) (Hz (Pj G.edges l) l.length) (by omega) (λe he=>?_) (by rw[Pe];exact S7 _ _)
 ·rw[rT hlt]at this;exact this
 ·obtain⟨k,i,h1,h2,_,rfl⟩:=Ru.1 he
  rw[Ac]
  refine⟨⟨?_,?_⟩,?_⟩<;>simp only<;>omega
theorem Vj {E:List Edg} {l:List Int}:∀e∈C0 E l,e∈E:=λe he=>by
 obtain⟨m,_,h⟩:=iW.1 he
 exact A6 h
theorem kJ {E:List Edg}(hE:E.Nodup) {l:List Int}(hl:l.Nodup):(C0 E l).Nodup:=by
 unfold C0
 refine List.Pairwise.filterMap _ ?_ hl
 intro x y hxy e he e2 he2 h
 subst h
 split at he
 ·rename_i h1
  split at he2
  ·rename_i h2
   obtain⟨m,rfl⟩:=A9 h1.1
   obtain⟨k,rfl⟩:=A9 h2.1
   simp only[Bi]at he he2
   have hm:=(Ae.1 he).1
   have:=(FJ hm hE).1 (he.trans he2.symm)
   exact hxy (by rw[this])
  ·cases he2
 ·cases he
def Vm(G:Gr)(l:List Int):Pt:=⟨(C8 (C0 G.edges l)).map (EO G),UE (C0 G.edges l) (C8 (C0 G.edges l))⟩
def Xn(G:Gr)(l:List Int):Da:=if C9 (IE G) l=false then .tuple [dP0,.nils,dF 2 0 L8]else if 8<(C8 (C0 G.edges l)).length then .tuple [dP0,.nils,dF 6 0 L8]else .tuple [FC (Vm G l),Bh (C8 (C0 G.edges l)),.nili]
def xD:List (Nat×Plan):=[(10,.leaf [0,0,0,1,2,0,0,1,2,0,6,3,0] [0,1,2,5,6,3,7,4,8,9,10,11,12] [0,0,0,4,14,0,0,64,254,510,1022,2047,4095])]
def ADm:List FuncId:=[155,156,157,158,160,159]
set_option maxHeartbeats 4000000 in
theorem gT(G:Gr)(hG:G.Ok)(l:List Int)(hm:l.length<=1000):Pure C1 110 [dG G,Bh l] (λy=>y=Xn G l):=by
 have hdl:(l.map dI).length=l.length:=Ac _
 have hlk:=XN G l
 have hvs:=fI G l (by omega)
 have hen:=Xl G l (by omega)
 have hvl:=RW (C0 G.edges l)
 have hel:=Pb G.edges l
 unfold Xn
 refine AU Tryz.func110 Tryz.ntmps110 ADm xD ?_
 cases hl:C9 (IE G) l with
 |
  false=>
  rw[hl]at hlk
  rw[if_pos rfl]
  (conv=>whnf)
  (repeat' ((first|refine Aj ?_ ?_|refine Af rfl hlk ?_|refine Af rfl (CH 2 0 L8) ?_|refine nx ?_|refine AB (λ_=>?_) (λ_=>?_)|exact AE)<;>conv=>whnf))
  exact rfl
 |
  true=>
  rw[hl]at hlk
  rw[if_neg (by decide)]
  have hlt:∀e∈C0 G.edges l,e.a<e.b:=λe he=>(hG.edge e (Vj e he)).2.1
  have hEn:=kJ hG.sorted.nodup (l:=l) (OP hl)
  obtain⟨hVn,hVm⟩:=KN (C0 G.edges l)
  have hin:∀e∈C0 G.edges l,e.a∈C8 (C0 G.edges l)/\e.b∈C8 (C0 G.edges l):=λe he=>⟨(hVm _).2 ⟨e,he,.inl rfl⟩,(hVm _).2 ⟨e,he,.inr rfl⟩⟩
  have hVr:∀x∈C8 (C0 G.edges l),0<=x/\x<G.labels.length:=λx hx=>by
   obtain⟨e,he,h⟩:=(hVm x).1 hx
   obtain⟨g1,g2,g3⟩:=hG.edge e (Vj e he)
   rcases h with rfl|rfl<;>omega
  clear hVm
  unfold Vm
  generalize hE:C0 G.edges l=E at*
  generalize hV:C8 E=V at*
  have hdV:(V.map dI).length=V.length:=Ac _
  have hdE:(E.map dE).length=E.length:=Ac _
  by_cases h8:8<V.length
  ·rw[if_pos h8]
   (conv=>whnf)
   (repeat' ((first|refine Aj ?_ ?_|refine Af rfl hlk ?_|refine Af rfl hvs ?_|refine Af rfl (CH 6 0 L8) ?_|refine nx ?_|refine AB (λ_=>?_) (λ_=>?_)|exact AE)<;>conv=>whnf))
   exact rfl
  ·rw[if_neg h8]
   (conv=>whnf)
   (repeat' ((first|refine Aj ?_ ?_|refine Af rfl hlk ?_|refine Af rfl hvs ?_|refine Af rfl hen ?_|refine nx ?_|refine AB (λ_=>?_) (λ_=>?_)|exact AE)<;>conv=>whnf))
   obtain⟨hnd,hmade⟩:=yZ hlt hEn V hVn hin
   have hql:=PK G V (by omega)
   have hmk:=Uq (V.map (EO G)) (Sw hG (by omega) hVr) (E.map (atE V)) (by rw[Ac];omega) (λe he=>by
    obtain⟨x,hx,rfl⟩:=An.1 he
    obtain⟨i,j,h1,h2,_,_,h5,h6⟩:=YE hVn (hlt x hx) (hin x hx).1 (hin x hx).2
    rw[h6,Ac]
    refine⟨⟨?_,?_⟩,?_⟩<;>simp only<;>omega) hnd
   rw[hmade]at hmk
   refine AQ (ι:=Nat) (λi=>i<=E.length) (λi=>[(31,.d (.int .i64 i)),(30,.d (.int .i64 (E.map dE).length)),(29,.d (ET E)),(8,.own 300),(7,.d (Bh V)),(4,.own 4),(0,.d (dG G))]) (λi=>[(4,.cells 54 [.d .nils,.d .nils]),(300,.slice 90 2 (((E.take i).map (atE V)).map dE))]) (λi=>E.length-i) 0 (λ_=>rfl) (Am _) (.own 8 300 90 2 rfl rfl (.refl _ _)) ⟨rfl,rfl,rfl,rfl,rfl,rfl,rfl,trivial⟩ ⟨rfl,rfl,trivial⟩ ?_
   intro i hi
   refine Ca ADm xD ?_
   by_cases hil:i<E.length
   ·have hx:=Ab hil
    generalize E[i]=x at hx
    have hxd:(E.map dE)[i]? =some (.agg [.int .i64 x.a,.int .i64 x.b]):=by rw[Ad,hx];rfl
    have h1:=OV V x.a
    have h2:=OV V x.b
    (conv=>whnf)
    (repeat' ((first|refine Aj ?_ ?_|refine AO hxd rfl ?_|refine Bq tab rfl h1 rfl ?_|refine Bq tab rfl h2 rfl ?_|refine nx ?_|refine AB (λ_=>?_) (λ_=>?_)|exact AE)<;>conv=>whnf))
    refine⟨i+1,_,_,by omega,.refl _ _,⟨rfl,rfl,rfl,rfl,rfl,rfl,rfl,trivial⟩,⟨rfl,Bj ?_,trivial⟩,by omega⟩
    rw[Au,hx];simp[dE,atE]
   ·have e:E.take i=E:=Ak (by omega)
    rw[e]
    (conv=>whnf)
    (repeat' ((first|refine Aj ?_ ?_|refine Dq 300 rfl ?_|refine Af rfl hql ?_|refine Af rfl hmk ?_|refine nx ?_|refine AB (λ_=>?_) (λ_=>?_)|exact AE)<;>conv=>whnf))
    exact rfl
end Go.Proofs.YtjpmmkodoeipmaaGreatDoor
end
section
namespace Go.Proofs.YtjpmmkodoeipmaaGreatDoor
open Go.Sx Go.RowKit Go.Reg Go.Gr
set_option maxRecDepth 100000
theorem Le(l:List Opp)(h16:l.length<=16)(hok:∀o∈l,Fg o=0):Pure C1 54 [JS l] (λy=>y=.nili):=by
 have hl:(l.map dO).length=l.length:=Ac _
 refine AU Tryz.func54 Tryz.ntmps54 [] [] ?_
 ((conv=>whnf);repeat' ((first|refine odw ?_|refine nx ?_|refine AB (λ_=>?_) (λ_=>?_))<;>conv=>whnf))
 refine AQ (ι:=Nat) (λi=>i<=l.length) (λi=>[(12,.d (.int .i64 i)),(11,.d (.int .i64 (l.map dO).length)),(10,.d (JS l))]) (λ_=>[]) (λi=>l.length-i) 0 (λ_=>rfl) (Am _) (.refl _ _) ⟨rfl,rfl,rfl,trivial⟩ trivial ?_
 intro i hi
 refine Ca [] [] ?_
 by_cases hil:i<l.length
 ·have hx:=Ab hil
  have hoi:=hok _ (AZ hil)
  generalize l[i]=o at hx hoi
  have hxd:(l.map dO)[i]? =some (.agg [.int .i64 o.kind,.int .i64 o.n]):=by rw[Ad,hx];rfl
  have hr:=PO o i
  unfold KY at hr
  rw[if_pos hoi]at hr
  (conv=>whnf)
  (repeat' ((first|refine Aj ?_ ?_|refine AO hxd rfl ?_|refine Af rfl hr ?_|refine nx ?_|refine AB (λ_=>?_) (λ_=>?_)|exact AE)<;>conv=>whnf))
  exact⟨i+1,_,_,hil,.refl _ _,⟨rfl,rfl,rfl,trivial⟩,trivial,by omega⟩
 ·((conv=>whnf);repeat' ((first|refine odw ?_|refine nx ?_|refine AB (λ_=>?_) (λ_=>?_))<;>conv=>whnf))
  exact rfl
theorem Y2(l:List Edg)(g:FuncId)(cs:List Da)(p:Edg->Bool)(hm:l.length<=9223372036854775807)(hp:∀x∈l,Pure C1 g (dE x::cs) (λy=>y=.bool (p x))):Pure C1 297 [ET l,.func (.func g) [] cs] (λy=>y=.int .i64 (NQ (l.findIdx? p))):=by
 have hl:(l.map dE).length=l.length:=Ac _
 refine AU Tryz.func297 Tryz.ntmps297 [] [] ?_
 ((conv=>whnf);repeat' ((first|refine odw ?_|refine nx ?_|refine AB (λ_=>?_) (λ_=>?_))<;>conv=>whnf))
 refine AQ (ι:=Nat) (λi=>i<=l.length/\∀y∈l.take i,p y=false) (λi=>[(8,.d (.int .i64 i)),(7,.d (.int .i64 (l.map dE).length)),(1,.d (.func (.func g) [] cs)),(0,.d (ET l))]) (λ_=>[]) (λi=>l.length-i) 0 (λ_=>rfl) ⟨Am _,by simp⟩ (.refl _ _) ⟨rfl,rfl,rfl,rfl,trivial⟩ trivial ?_
 rintro i ⟨hi,hne⟩
 refine Ca [] [] ?_
 by_cases hlt:i<l.length
 ·have hx:=Ab hlt
  generalize l[i]=y at hx
  have hxd:(l.map dE)[i]? =some (.agg [.int .i64 y.a,.int .i64 y.b]):=by rw[Ad,hx];rfl
  have hpy:=hp y (A6 hx)
  cases hy:p y with
  |
   true=>
   rw[hy]at hpy
   rw[Yx hx hy hne]
   (conv=>whnf)
   (repeat' ((first|refine Aj ?_ ?_|refine AO hxd rfl ?_|refine Af (FR _ _) hpy ?_|refine nx ?_|refine AB (λ_=>?_) (λ_=>?_)|exact AE)<;>conv=>whnf))
   exact rfl
  |
   false=>
   rw[hy]at hpy
   (conv=>whnf)
   (repeat' ((first|refine Aj ?_ ?_|refine AO hxd rfl ?_|refine Af (FR _ _) hpy ?_|refine nx ?_|refine AB (λ_=>?_) (λ_=>?_)|exact AE)<;>conv=>whnf))
   refine⟨i+1,_,_,⟨hlt,?_⟩,.refl _ _,⟨rfl,rfl,rfl,rfl,trivial⟩,trivial,by omega⟩
   intro z hz
   rw[Au,hx]at hz
   rcases Ag.1 hz with hz|hz
   ·exact hne z hz
   ·simp at hz;subst hz;exact hy
 ·have hii:l.take i=l:=Ak (by omega)
  rw[hii]at hne
  rw[R1 hne]
  ((conv=>whnf);repeat' ((first|refine odw ?_|refine nx ?_|refine AB (λ_=>?_) (λ_=>?_))<;>conv=>whnf))
  exact rfl
theorem nT {α:Type}(l:List α)(p:α->Bool):0<=NQ (l.findIdx? p)↔l.any p=true:=by
 cases h:l.findIdx? p with
 |
  none=>
  rw[Bd]at h
  constructor
  ·intro h2;simp[NQ]at h2
  ·intro h2
   obtain⟨x,hx,hpx⟩:=Ct.1 h2
   rw[h x hx]at hpx;cases hpx
 |
  some i=>
  obtain⟨h1,h2,_⟩:=Ba.1 h
  constructor
  ·intro _;exact Ct.2 ⟨_,AZ h1,h2⟩
  ·intro _;simp[NQ]
def ACK:List FuncId:=[297]
theorem SJ(l:List Edg)(g:FuncId)(cs:List Da)(p:Edg->Bool)(hm:l.length<=9223372036854775807)(hp:∀x∈l,Pure C1 g (dE x::cs) (λy=>y=.bool (p x))):Pure C1 294 [ET l,.func (.func g) [] cs] (λy=>y=.bool (l.any p)):=by
 refine AU Tryz.func294 Tryz.ntmps294 ACK [] ?_
 (conv=>whnf)
 (repeat' ((first|refine Aj ?_ ?_|refine Af rfl (Y2 l g cs p hm hp) ?_|refine nx ?_|refine AB (λ_=>?_) (λ_=>?_)|exact AE)<;>conv=>whnf))
 show Da.plain _=_
 have:=nT l p
 cases h:l.any p<;>simp[Da.plain,this,h]
def AAT:List FuncId:=[296]
theorem oW(p:Pt)(e:Edg)(hm:p.labels.length<=9223372036854775807)(hme:p.edges.length<=9223372036854775807):Pure C1 295 [dE e,.ref (FC p)] (λy=>y=.bool ((List.range p.labels.length).any λv=>GF p.edges e.a v&&GF p.edges e.b v)):=by
 have hdl:(p.labels.map dI).length=p.labels.length:=Ac _
 refine AU Tryz.func295 Tryz.ntmps295 AAT [] ?_
 ((conv=>whnf);repeat' ((first|refine odw ?_|refine nx ?_|refine AB (λ_=>?_) (λ_=>?_))<;>conv=>whnf))
 refine AQ (ι:=Nat) (λi=>i<=p.labels.length/\∀v,v<i->(GF p.edges e.a v&&GF p.edges e.b v)=false) (λi=>[(8,.d (.int .i64 i)),(7,.d (.int .i64 (p.labels.map dI).length)),(2,.own 2),(1,.d (.ref (FC p)))]) (λ_=>[(2,.cells 90 [.d (.int .i64 e.a),.d (.int .i64 e.b)])]) (λi=>p.labels.length-i) 0 (λ_=>rfl) ⟨Am _,by intro v h;omega⟩ (.refl _ _) ⟨rfl,rfl,rfl,rfl,trivial⟩ ⟨rfl,trivial⟩ ?_
 rintro i ⟨hi,hne⟩
 refine Ca AAT [] ?_
 by_cases hil:i<p.labels.length
 ·have h1:=Wy p e.a i hme
  have h2:=Wy p e.b i hme
  rw[show decide (turn ⟨e.a,(i:Int)⟩∈p.edges)=GF p.edges e.a i from rfl]at h1
  rw[show decide (turn ⟨e.b,(i:Int)⟩∈p.edges)=GF p.edges e.b i from rfl]at h2
  cases g1:GF p.edges e.a i<;>cases g2:GF p.edges e.b i<;>rw[g1]at h1<;>rw[g2]at h2
  ·(conv=>whnf)
   (repeat' ((first|refine Aj ?_ ?_|refine Af rfl h1 ?_|refine Af rfl h2 ?_|refine nx ?_|refine AB (λ_=>?_) (λ_=>?_)|exact AE)<;>conv=>whnf))
   exact⟨i+1,_,_,⟨hil,λv hv=>by rcases BN v i with g|g;exact hne v g;rw[show v=i by omega,g1];rfl⟩,.refl _ _,⟨rfl,rfl,rfl,rfl,trivial⟩,⟨rfl,trivial⟩,by omega⟩
  ·(conv=>whnf)
   (repeat' ((first|refine Aj ?_ ?_|refine Af rfl h1 ?_|refine Af rfl h2 ?_|refine nx ?_|refine AB (λ_=>?_) (λ_=>?_)|exact AE)<;>conv=>whnf))
   exact⟨i+1,_,_,⟨hil,λv hv=>by rcases BN v i with g|g;exact hne v g;rw[show v=i by omega,g1];rfl⟩,.refl _ _,⟨rfl,rfl,rfl,rfl,trivial⟩,⟨rfl,trivial⟩,by omega⟩
  ·(conv=>whnf)
   (repeat' ((first|refine Aj ?_ ?_|refine Af rfl h1 ?_|refine Af rfl h2 ?_|refine nx ?_|refine AB (λ_=>?_) (λ_=>?_)|exact AE)<;>conv=>whnf))
   exact⟨i+1,_,_,⟨hil,λv hv=>by rcases BN v i with g|g;exact hne v g;rw[show v=i by omega,g1,g2];rfl⟩,.refl _ _,⟨rfl,rfl,rfl,rfl,trivial⟩,⟨rfl,trivial⟩,by omega⟩
  ·have e1:((List.range p.labels.length).any λv=>GF p.edges e.a v&&GF p.edges e.b v)=true:=Ct.2 ⟨i,AN.2 hil,by rw[g1,g2];rfl⟩
   rw[e1]
   (conv=>whnf)
   (repeat' ((first|refine Aj ?_ ?_|refine Af rfl h1 ?_|refine Af rfl h2 ?_|refine nx ?_|refine AB (λ_=>?_) (λ_=>?_)|exact AE)<;>conv=>whnf))
   exact rfl
 ·have e1:((List.range p.labels.length).any λv=>GF p.edges e.a v&&GF p.edges e.b v)=false:=by
   rw[Pq]
   intro h
   obtain⟨v,hv,h⟩:=Ct.1 h
   rw[hne v (by have:=AN.1 hv;omega)]at h;cases h
  rw[e1]
  ((conv=>whnf);repeat' ((first|refine odw ?_|refine nx ?_|refine AB (λ_=>?_) (λ_=>?_))<;>conv=>whnf))
  exact rfl
def AFn:List FuncId:=[294]
theorem VG(p:Pt)(hm:p.labels.length<=9223372036854775807)(hme:p.edges.length<=9223372036854775807):Pure C1 291 [FC p] (λy=>y=.bool (oV p)):=by
 have hc:=SJ p.edges 295 [.ref (FC p)] (λe=>(List.range p.labels.length).any λv=>GF p.edges e.a v&&GF p.edges e.b v) hme (λe _=>oW p e hm hme)
 refine AU Tryz.func291 Tryz.ntmps291 AFn [] ?_
 (conv=>whnf)
 (repeat' ((first|refine Aj ?_ ?_|refine Bq tab rfl hc rfl ?_|refine nx ?_|refine AB (λ_=>?_) (λ_=>?_)|exact AE)<;>conv=>whnf))
 exact rfl
def ADr:List FuncId:=[293]
theorem Y7(p:Pt)(n:Int)(hm:p.labels.length<=9223372036854775807)(hme:p.edges.length<=4294967296):Pure C1 289 [FC p,.int .i64 n] (λy=>y=.bool (tG p n)):=by
 have hdl:(p.labels.map dI).length=p.labels.length:=Ac _
 refine AU Tryz.func289 Tryz.ntmps289 ADr [] ?_
 ((conv=>whnf);repeat' ((first|refine odw ?_|refine nx ?_|refine AB (λ_=>?_) (λ_=>?_))<;>conv=>whnf))
 refine AQ (ι:=Nat) (λi=>i<=p.labels.length/\∀v,v<i->((SK p.edges (v:Int):Nat):Int)<=n) (λi=>[(9,.d (.int .i64 i)),(8,.d (.int .i64 (p.labels.map dI).length)),(2,.own 2),(1,.d (.int .i64 n))]) (λ_=>[(2,.cells 54 [.d (Bh p.labels),.d (ET p.edges)])]) (λi=>p.labels.length-i) 0 (λ_=>rfl) ⟨Am _,by intro v h;omega⟩ (.refl _ _) ⟨rfl,rfl,rfl,rfl,trivial⟩ ⟨rfl,trivial⟩ ?_
 rintro i ⟨hi,hne⟩
 refine Ca ADr [] ?_
 by_cases hil:i<p.labels.length
 ·have h1:=XV p i hme
  by_cases hd:((SK p.edges (i:Int):Nat):Int)<=n
  ·(conv=>whnf)
   (repeat' ((first|refine Aj ?_ ?_|refine Af rfl h1 ?_|refine nx ?_|refine AB (λ_=>?_) (λ_=>?_)|exact AE)<;>conv=>whnf))
   exact⟨i+1,_,_,⟨hil,λv hv=>by rcases BN v i with g|g;exact hne v g;rw[show v=i by omega];exact hd⟩,.refl _ _,⟨rfl,rfl,rfl,rfl,trivial⟩,⟨rfl,trivial⟩,by omega⟩
  ·have e1:tG p n=false:=by
    rw[Pq]
    intro h
    exact hd (of_decide_eq_true (Dn.1 h i (AN.2 hil)))
   rw[e1]
   (conv=>whnf)
   (repeat' ((first|refine Aj ?_ ?_|refine Af rfl h1 ?_|refine nx ?_|refine AB (λ_=>?_) (λ_=>?_)|exact AE)<;>conv=>whnf))
   exact rfl
 ·have e1:tG p n=true:=Dn.2 λv hv=>decide_eq_true (hne v (by have:=AN.1 hv;omega))
  rw[e1]
  ((conv=>whnf);repeat' ((first|refine odw ?_|refine nx ?_|refine AB (λ_=>?_) (λ_=>?_))<;>conv=>whnf))
  exact rfl
theorem bP(o:Opp)(l:Int):Pure C1 288 [.int .i64 l,.ref (dO o)] (λy=>y=.bool (decide (o.n<l))):=by
 refine AU Tryz.func288 Tryz.ntmps288 [] [] ?_
 ((conv=>whnf);repeat' ((first|refine odw ?_|refine nx ?_|refine AB (λ_=>?_) (λ_=>?_))<;>conv=>whnf))
 exact rfl
theorem bO(o:Opp)(l:Int):Pure C1 290 [.int .i64 l,.ref (dO o)] (λy=>y=.bool (decide (l≠o.n))):=by
 refine AU Tryz.func290 Tryz.ntmps290 [] [] ?_
 ((conv=>whnf);repeat' ((first|refine odw ?_|refine nx ?_|refine AB (λ_=>?_) (λ_=>?_))<;>conv=>whnf))
 exact rfl
def AFq:List FuncId:=[291,289]
theorem jV(o:Opp)(p:Pt)(hk:1<=o.kind/\o.kind<=8)(hm:p.labels.length<=8)(hme:p.edges.length<=4294967296):Pure C1 284 [dO o,FC p] (λy=>y=.bool (Dl o p)):=by
 have hdl:(p.labels.map dI).length=p.labels.length:=Ac _
 have hde:(p.edges.map dE).length=p.edges.length:=Ac _
 have hc1:=Jo p.labels 288 [.ref (dO o)] (λl=>decide (o.n<l)) (λl _=>bP o l)
 have hc2:=Jo p.labels 290 [.ref (dO o)] (λl=>decide (l≠o.n)) (λl _=>bO o l)
 have htr:=VG p (by omega) (by omega)
 have hdg:=Y7 p o.n (by omega) hme
 have hvl:=Ic p.labels
 have hk8:o.kind=1\/o.kind=2\/o.kind=3\/o.kind=4\/o.kind=5\/o.kind=6\/o.kind=7\/o.kind=8:=by omega
 refine AU Tryz.func284 Tryz.ntmps284 AFq [] ?_
 rcases hk8 with h|h|h|h|h|h|h|h
 ·have eh:Dl o p=decide (p.edges.length=p.labels.length*(p.labels.length-1)/2):=by unfold Dl;simp[h]
  rw[eh]
  have hmul:∀N:Nat,N<=8->IntKind.i64.wrap ((N:Int)*((N:Int)-1))=((N*(N-1):Nat):Int):=by
   intro N hN
   have:N=0\/N=1\/N=2\/N=3\/N=4\/N=5\/N=6\/N=7\/N=8:=by omega
   rcases this with rfl|rfl|rfl|rfl|rfl|rfl|rfl|rfl|rfl<;>decide
  have hm2:=hmul (p.labels.map dI).length (by omega)
  have hdiv:∀N:Nat,N<=8->IntKind.i64.wrap (((N*(N-1):Nat):Int).tdiv 2)=((N*(N-1)/2:Nat):Int):=by
   intro N hN
   have:N=0\/N=1\/N=2\/N=3\/N=4\/N=5\/N=6\/N=7\/N=8:=by omega
   rcases this with rfl|rfl|rfl|rfl|rfl|rfl|rfl|rfl|rfl<;>decide
  have hm3:=hdiv (p.labels.map dI).length (by omega)
  ((conv=>whnf);repeat' ((first|refine odw ?_|refine nx ?_|refine AB (λ_=>?_) (λ_=>?_))<;>conv=>whnf))
  refine⟨_,hm2,?_⟩
  ((conv=>whnf);repeat' ((first|refine odw ?_|refine nx ?_|refine AB (λ_=>?_) (λ_=>?_))<;>conv=>whnf))
  refine⟨_,hm3,?_⟩
  ((conv=>whnf);repeat' ((first|refine odw ?_|refine nx ?_|refine AB (λ_=>?_) (λ_=>?_))<;>conv=>whnf))
  exact congrArg Da.bool (by rw[CJ,decide_eq_true_eq,decide_eq_true_eq,hde,hdl];exact Int.ofNat_inj)
 ·have eh:Dl o p=!p.labels.any λl=>decide (o.n<l):=by unfold Dl;simp[h]
  rw[eh]
  (conv=>whnf)
  (repeat' ((first|refine Aj ?_ ?_|refine Bq tab rfl hc1 rfl ?_|refine nx ?_|refine AB (λ_=>?_) (λ_=>?_)|exact AE)<;>conv=>whnf))
  exact rfl
 ·have eh:Dl o p=tG p o.n:=by unfold Dl;simp[h]
  rw[eh]
  (conv=>whnf)
  (repeat' ((first|refine Aj ?_ ?_|refine Af rfl hdg ?_|refine nx ?_|refine AB (λ_=>?_) (λ_=>?_)|exact AE)<;>conv=>whnf))
  exact rfl
 ·have eh:Dl o p=decide ((p.labels.length:Int)<=o.n):=by unfold Dl;simp[h]
  rw[eh,<-hdl]
  ((conv=>whnf);repeat' ((first|refine odw ?_|refine nx ?_|refine AB (λ_=>?_) (λ_=>?_))<;>conv=>whnf))
  exact rfl
 ·have eh:Dl o p=decide ((p.edges.length:Int)<=o.n):=by unfold Dl;simp[h]
  rw[eh,<-hde]
  ((conv=>whnf);repeat' ((first|refine odw ?_|refine nx ?_|refine AB (λ_=>?_) (λ_=>?_))<;>conv=>whnf))
  exact rfl
 ·have eh:Dl o p=decide ((D3 p.labels).length=p.labels.length):=by unfold Dl;simp[h]
  rw[eh]
  (conv=>whnf)
  (repeat' ((first|refine Aj ?_ ?_|refine Af rfl hvl ?_|refine nx ?_|refine AB (λ_=>?_) (λ_=>?_)|exact AE)<;>conv=>whnf))
  refine EF 300 rfl rfl (RZ p.labels (by omega)) ?_;rintro ds rfl
  (conv=>whnf)
  refine dX rfl rfl (S6 (p.labels.mergeSort λx y=>decide (x<=y)) (by rw[QI];omega)) ?_;rintro ds rfl
  ((conv=>whnf);repeat' ((first|refine odw ?_|refine nx ?_|refine AB (λ_=>?_) (λ_=>?_))<;>conv=>whnf))
  exact congrArg Da.bool (by rw[CJ,decide_eq_true_eq,decide_eq_true_eq,Ac,Ac];exact Int.ofNat_inj)
 ·have eh:Dl o p=!p.labels.any λl=>decide (l≠o.n):=by unfold Dl;simp[h]
  rw[eh]
  (conv=>whnf)
  (repeat' ((first|refine Aj ?_ ?_|refine Bq tab rfl hc2 rfl ?_|refine nx ?_|refine AB (λ_=>?_) (λ_=>?_)|exact AE)<;>conv=>whnf))
  exact rfl
 ·have eh:Dl o p=!oV p:=by unfold Dl;simp[h]
  rw[eh]
  (conv=>whnf)
  (repeat' ((first|refine Aj ?_ ?_|refine Af rfl htr ?_|refine nx ?_|refine AB (λ_=>?_) (λ_=>?_)|exact AE)<;>conv=>whnf))
  exact rfl
theorem tQ {o:Opp}(h:Fg o=0):1<=o.kind/\o.kind<=8:=by
 unfold Fg at h
 apply ER
 intro hn
 rw[if_pos (by omega)]at h
 omega
theorem Mh {p:Pt}(h:Dk p=none):p.labels.length<=8/\p.edges.length<=64:=by
 obtain⟨h1,h2,h3⟩:=BK h
 have h8:p.labels.length<=8:=by
  apply ER
  intro hn
  unfold M0 at h1
  rw[if_pos (by omega)]at h1
  cases h1
 have:=FI h3.nodup (m:=prs p.labels.length) λe he=>N5.2 (h2 e he)
 rw[XP]at this
 have hm:p.labels.length*(p.labels.length-1)<=8*8:=DN h8 (by omega)
 omega
def AEx:List FuncId:=[99,113,284]
theorem pA(o:Opp)(p:Pt)(hc:Fg o=0)(hp:Dk p=none):Pure C1 264 [dO o,FC p] (λy=>y=.bool (Dl o p)):=by
 have hs:=Mh hp
 have hr:=PO o 0
 unfold KY at hr
 rw[if_pos hc]at hr
 have hpr:=EK p (by omega) (by omega)
 rw[Fm hp]at hpr
 have hh:=jV o p (tQ hc) hs.1 (by omega)
 refine AU Tryz.func264 Tryz.ntmps264 AEx [] ?_
 (conv=>whnf)
 (repeat' ((first|refine Aj ?_ ?_|refine Bq tab rfl hr rfl ?_|refine Bq tab rfl hpr rfl ?_|refine Bq tab rfl hh rfl ?_|refine nx ?_|refine AB (λ_=>?_) (λ_=>?_)|exact AE)<;>conv=>whnf))
 exact rfl
def AEz:List FuncId:=[264]
theorem cE(o:Opp)(p:Pt)(hc:Fg o=0)(hp:Dk p=none):Pure C1 263 [dO o,.ref (FC p)] (λy=>y=.bool (!Dl o p)):=by
 have ht:=pA o p hc hp
 refine AU Tryz.func263 Tryz.ntmps263 AEz [] ?_
 (conv=>whnf)
 (repeat' ((first|refine Aj ?_ ?_|refine Bq tab rfl ht rfl ?_|refine nx ?_|refine AB (λ_=>?_) (λ_=>?_)|exact AE)<;>conv=>whnf))
 exact rfl
theorem Ye(l:List Opp)(g:FuncId)(cs:List Da)(p:Opp->Bool)(hm:l.length<=9223372036854775807)(hp:∀x∈l,Pure C1 g (dO x::cs) (λy=>y=.bool (p x))):Pure C1 262 [JS l,.func (.func g) [] cs] (λy=>y=.int .i64 (NQ (l.findIdx? p))):=by
 have hl:(l.map dO).length=l.length:=Ac _
 refine AU Tryz.func262 Tryz.ntmps262 [] [] ?_
 ((conv=>whnf);repeat' ((first|refine odw ?_|refine nx ?_|refine AB (λ_=>?_) (λ_=>?_))<;>conv=>whnf))
 refine AQ (ι:=Nat) (λi=>i<=l.length/\∀y∈l.take i,p y=false) (λi=>[(8,.d (.int .i64 i)),(7,.d (.int .i64 (l.map dO).length)),(1,.d (.func (.func g) [] cs)),(0,.d (JS l))]) (λ_=>[]) (λi=>l.length-i) 0 (λ_=>rfl) ⟨Am _,by simp⟩ (.refl _ _) ⟨rfl,rfl,rfl,rfl,trivial⟩ trivial ?_
 rintro i ⟨hi,hne⟩
 refine Ca [] [] ?_
 by_cases hlt:i<l.length
 ·have hx:=Ab hlt
  generalize l[i]=y at hx
  have hxd:(l.map dO)[i]? =some (.agg [.int .i64 y.kind,.int .i64 y.n]):=by rw[Ad,hx];rfl
  have hpy:=hp y (A6 hx)
  cases hy:p y with
  |
   true=>
   rw[hy]at hpy
   rw[Yx hx hy hne]
   (conv=>whnf)
   (repeat' ((first|refine Aj ?_ ?_|refine AO hxd rfl ?_|refine Af (FR _ _) hpy ?_|refine nx ?_|refine AB (λ_=>?_) (λ_=>?_)|exact AE)<;>conv=>whnf))
   exact rfl
  |
   false=>
   rw[hy]at hpy
   (conv=>whnf)
   (repeat' ((first|refine Aj ?_ ?_|refine AO hxd rfl ?_|refine Af (FR _ _) hpy ?_|refine nx ?_|refine AB (λ_=>?_) (λ_=>?_)|exact AE)<;>conv=>whnf))
   refine⟨i+1,_,_,⟨hlt,?_⟩,.refl _ _,⟨rfl,rfl,rfl,rfl,trivial⟩,trivial,by omega⟩
   intro z hz
   rw[Au,hx]at hz
   rcases Ag.1 hz with hz|hz
   ·exact hne z hz
   ·simp at hz;subst hz;exact hy
 ·have hii:l.take i=l:=Ak (by omega)
  rw[hii]at hne
  rw[R1 hne]
  ((conv=>whnf);repeat' ((first|refine odw ?_|refine nx ?_|refine AB (λ_=>?_) (λ_=>?_))<;>conv=>whnf))
  exact rfl
def AFr:List FuncId:=[262]
theorem kG(l:List Opp)(p:Pt)(h16:l.length<=16)(hok:∀o∈l,Fg o=0)(hp:Dk p=none):Pure C1 210 [JS l,FC p] (λy=>y=.int .i64 (NQ (l.findIdx? λo=>!Dl o p))):=by
 have hi:=Ye l 263 [.ref (FC p)] (λo=>!Dl o p) (by omega) (λo ho=>cE o p (hok o ho) hp)
 refine AU Tryz.func210 Tryz.ntmps210 AFr [] ?_
 (conv=>whnf)
 (repeat' ((first|refine Aj ?_ ?_|refine Bq tab rfl hi rfl ?_|refine nx ?_|refine AB (λ_=>?_) (λ_=>?_)|exact AE)<;>conv=>whnf))
 exact rfl
def AFp:List FuncId:=[54,113,210]
theorem UK(l:List Opp)(p:Pt)(h16:l.length<=16)(hok:∀o∈l,Fg o=0)(hp:Dk p=none):Pure C1 141 [JS l,FC p] (λy=>y=.bool (l.all λo=>Dl o p)):=by
 have hs:=Mh hp
 have hr:=Le l h16 hok
 have hpr:=EK p (by omega) (by omega)
 rw[Fm hp]at hpr
 have hf:=kG l p h16 hok hp
 have hia:=nT l λo=>!Dl o p
 refine AU Tryz.func141 Tryz.ntmps141 AFp [] ?_
 (conv=>whnf)
 (repeat' ((first|refine Aj ?_ ?_|refine Bq tab rfl hr rfl ?_|refine Bq tab rfl hpr rfl ?_|refine Bq tab rfl hf rfl ?_|refine nx ?_|refine AB (λ_=>?_) (λ_=>?_)|exact AE)<;>conv=>whnf))
 refine congrArg Da.bool ?_
 rw[CJ,decide_eq_true_eq,<-Int.not_le,hia]
 simp
end Go.Proofs.YtjpmmkodoeipmaaGreatDoor
end
section
namespace Go.Proofs.YtjpmmkodoeipmaaGreatDoor
open Go.Gr
def pick:List Int->Nat->List Int
 |[],_=>[]
 |x::s,m=>(if m % 2=1 then[x]else[])++pick s (m/2)
theorem Ut:∀{s p:List Int},p.Sublist s->∃m,m<2^s.length/\pick s m=p
 |_,_,.slnil=>⟨0,by simp,rfl⟩
 |
  _,_,.cons x h=>by
  obtain⟨m,hm,hp⟩:=Ut h
  refine⟨2*m,?_,?_⟩
  ·rw[Ax,Nat.pow_succ];omega
  ·unfold pick
   rw[if_neg (by omega),show 2*m/2=m by omega];exact hp
 |
  _,_,.cons_cons x h=>by
  obtain⟨m,hm,hp⟩:=Ut h
  refine⟨2*m+1,?_,?_⟩
  ·rw[Ax,Nat.pow_succ];omega
  ·unfold pick
   rw[if_pos (by omega),show(2*m+1)/2=m by omega,hp];rfl
theorem wG {s p:List Int}(hs:s.Pairwise (· < ·))(hp:p.Pairwise (· < ·))(h:∀x∈p,x∈s):p.Sublist s:=by
 have:p=s.filter (λx=>decide (x∈p)):=Hi hp (hs.sublist EG) λx=>by
  rw[A0,decide_eq_true_eq];exact⟨λhx=>⟨h x hx,hx⟩,λhx=>hx.2⟩
 rw[this];exact EG
theorem OA {s:List Int}(h:s.Pairwise (· < ·)):s.Nodup:=h.imp λh=>by omega
def LB(G:Gr)(l:List Int):List (List Int):=(Ky G l).map λx=>l++[x]
def pX(G:Gr):Nat->List (List Int)
 |0=>(I9 G.labels.length).map λv=>[v]
 |k+1=>(pX G k).flatMap (LB G)
theorem Xp(G:Gr)(v:Int):Ew G [v]=Gc G v:=by
 have:=Jq G [] v
 rw[BC]at this
 rw[this]
 have h1:Ew G []=true:=Lx λi v h=>by simp at h
 rw[h1,lT];rfl
theorem UC {G:Gr}(hG:G.Ok):∀(k:Nat) {x:List Int},x∈pX G k↔Ew G x=true/\x.length=k+1
 |
  0,x=>by
  unfold pX
  rw[An]
  constructor
  ·rintro⟨v,hv,rfl⟩
   rw[Xp]
   have:=Ko.1 hv
   exact⟨Qm this.1 this.2,rfl⟩
  ·rintro⟨h1,h2⟩
   obtain⟨v,rfl⟩:=C4.1 h2
   rw[Xp]at h1
   refine⟨v,Ko.2 ?_,rfl⟩
   unfold Gc at h1
   simpa using h1
 |
  k+1,x=>by
  unfold pX
  rw[AL]
  constructor
  ·rintro⟨l,hl,hx⟩
   obtain⟨h1,h2⟩:=(UC hG k).1 hl
   unfold LB at hx
   obtain⟨v,hv,rfl⟩:=An.1 hx
   have:=(Qo hG).1 hv
   rw[Jq,this.1,this.2]
   exact⟨rfl,by rw[Ah,h2];rfl⟩
  ·rintro⟨h1,h2⟩
   have hne:x≠[]:=λe=>by rw[e]at h2;simp at h2
   have hx:=List.dropLast_concat_getLast hne
   generalize x.getLast hne=v at hx
   generalize x.dropLast=l at hx
   subst hx
   rw[Jq,Ar]at h1
   rw[Ah,B8]at h2
   refine⟨l,(UC hG k).2 ⟨h1.1,by omega⟩,?_⟩
   unfold LB
   exact An.2 ⟨v,(Qo hG).2 h1,rfl⟩
theorem iZ(G:Gr)(x:List Int):UG G (D3 x)=UG G x:=aT (BG x).2
theorem jA {G:Gr} {l:List Int}(h:C9 G l=true) {x:Int}(hx:x∈l):Gc G x=true:=by
 obtain⟨i,hi,rfl⟩:=C7.1 hx
 exact(Ln.1 (ON h (Ab hi))).1
end Go.Proofs.YtjpmmkodoeipmaaGreatDoor
namespace Go.Proofs.YtjpmmkodoeipmaaGreatDoor
open Go.Gr
def Ui(G:Gr)(l:List Int)(k:Nat):List Int:=(I9 k).filter λv=>decide (l=[])||candB G l v
 where candB (G:Gr) (l:List Int) (v:Int):Bool:=!decide (v∈l)&&l.any (I2 G.edges v)
theorem wF {G:Gr}(hG:G.Ok)(l:List Int):Ui G l G.labels.length=Hv G l:=by
 refine Hi ((Nt _).sublist EG) (WG G l) λx=>?_
 unfold Ui
 rw[A0,Ko]
 by_cases hl:l=[]
 ·unfold Hv
  rw[if_pos hl,Ko]
  simp[hl]
 ·rw[aD hl]
  unfold Ui.candB
  simp only[hl,decide_false,Bool.false_or,Ar,Cm,decide_eq_false_iff_not,Tf]
  constructor
  ·rintro⟨h1,h2,u,hu,h3⟩
   have:=(Vl hG h3).1
   unfold Gc at this
   exact⟨⟨u,hu,(Rs hG).2 ⟨by simpa using this,h1.1,h1.2,by rw[Ig];exact h3⟩⟩,h2⟩
  ·rintro⟨⟨u,hu,h3⟩,h2⟩
   obtain⟨g1,g2,g3,g4⟩:=(Rs hG).1 h3
   exact⟨⟨g2,g3⟩,h2,u,hu,by rw[Ig];exact g4⟩
end Go.Proofs.YtjpmmkodoeipmaaGreatDoor
end
section
namespace Go.Proofs.YtjpmmkodoeipmaaGreatDoor
open Go.Gr
def Q8:List Int->List Int->Bool
 |[],[]=>false
 |[],_::_=>true
 |_::_,[]=>false
 |x::a,y::b=>decide (x<y)||(decide (x=y)&&Q8 a b)
theorem eB:∀{a b:List Int},a.length=b.length->Q8 a b=true->∀(x y:List Int),Q8 (a++x) (b++y)=true
 |[],[],_,h,_,_=>by simp[Q8]at h
 |[],_::_,e,_,_,_=>by simp at e
 |_::_,[],e,_,_,_=>by simp at e
 |
  p::a,q::b,e,h,x,y=>by
  simp only[Q8,AV,Dj,Ar,decide_eq_true_eq]at h⊢
  rcases h with h|⟨h1,h2⟩
  ·exact .inl h
  ·exact .inr ⟨h1,eB (by simpa using e) h2 x y⟩
theorem eC:∀(a:List Int) {x y:Int},x<y->Q8 (a++[x]) (a++[y])=true
 |[],x,y,h=>by simp[Q8,h]
 |
  p::a,x,y,h=>by
  simp only[Q8,AV,Dj,Ar,decide_eq_true_eq]
  exact .inr ⟨trivial,eC a h⟩
def GV(G:Gr)(ps:List Int->Bool)(l:List Int):List (List Int):=(LB G l).filter ps
def CF(G:Gr)(ps:List Int->Bool):Nat->List (List Int)
 |0=>(pX G 0).filter ps
 |k+1=>(CF G ps k).flatMap (GV G ps)
def lH(ps:List Int->Bool)(l:List Int):Bool:=(List.range l.length).all λn=>ps (l.take (n+1))
theorem Xw(ps:List Int->Bool)(l:List Int)(v:Int):lH ps (l++[v])=(lH ps l&&ps (l++[v])):=by
 unfold lH
 rw[Ah,B8,CR,List.all_append,List.all_cons,List.all_nil,Bool.and_true]
 congr 1
 ·rw[CJ,Dn,Dn]
  have h:∀n∈List.range l.length,(l++[v]).take (n+1)=l.take (n+1):=λn hn=>BX (by have:=AN.1 hn;omega)
  exact⟨λg n hn=>by rw[<-h n hn];exact g n hn,λg n hn=>by rw[h n hn];exact g n hn⟩
 ·rw[Ak (by simp)]
theorem Hm {G:Gr}(hG:G.Ok) {ps:List Int->Bool}:∀(k:Nat) {x:List Int},x∈CF G ps k↔Ew G x=true/\x.length=k+1/\lH ps x=true
 |
  0,x=>by
  unfold CF
  rw[A0,UC hG]
  constructor
  ·rintro⟨⟨h1,h2⟩,h3⟩
   obtain⟨v,rfl⟩:=C4.1 h2
   exact⟨h1,h2,by simpa[lH]using h3⟩
  ·rintro⟨h1,h2,h3⟩
   obtain⟨v,rfl⟩:=C4.1 h2
   exact⟨⟨h1,h2⟩,by simpa[lH]using h3⟩
 |
  k+1,x=>by
  unfold CF
  rw[AL]
  unfold GV LB
  constructor
  ·rintro⟨l,hl,hx⟩
   obtain⟨h1,h2,h3⟩:=(Hm hG k).1 hl
   obtain⟨hx,hp⟩:=A0.1 hx
   obtain⟨v,hv,rfl⟩:=An.1 hx
   have:=(Qo hG).1 hv
   rw[Jq,this.1,this.2,Xw,h3,hp]
   exact⟨rfl,by rw[Ah,h2];rfl,rfl⟩
  ·rintro⟨h1,h2,h3⟩
   have hne:x≠[]:=λe=>by rw[e]at h2;simp at h2
   have hx:=List.dropLast_concat_getLast hne
   generalize x.getLast hne=v at hx
   generalize x.dropLast=l at hx
   subst hx
   rw[Jq,Ar]at h1
   rw[Xw,Ar]at h3
   rw[Ah,B8]at h2
   exact⟨l,(Hm hG k).2 ⟨h1.1,by omega,h3.1⟩,A0.2 ⟨An.2 ⟨v,(Qo hG).2 h1,rfl⟩,h3.2⟩⟩
theorem sJ(G:Gr)(l:List Int):(Ky G l).Pairwise (· < ·):=by
 unfold Ky
 split
 ·exact(WG G l).sublist EG
 ·exact .nil
theorem jX(G:Gr)(ps:List Int->Bool)(l:List Int):(GV G ps l).Pairwise λa b=>Q8 a b=true:=by
 unfold GV LB
 refine ACH EG ?_
 rw[B7]
 exact(sJ G l).imp λh=>eC l h
theorem Wo {G:Gr}(hG:G.Ok)(ps:List Int->Bool):∀k,(CF G ps k).Pairwise λa b=>Q8 a b=true
 |
  0=>by
  unfold CF pX
  refine ACH EG ?_
  rw[B7]
  exact(Nt _).imp λh=>by simp[Q8,h]
 |
  k+1=>by
  unfold CF
  rw[ACF]
  refine⟨λl _=>jX G ps l,?_⟩
  refine Er ?_ (Wo hG ps k)
  intro a b ha hb hab x hx y hy
  unfold GV LB at hx hy
  obtain⟨v,_,rfl⟩:=An.1 (A0.1 hx).1
  obtain⟨u,_,rfl⟩:=An.1 (A0.1 hy).1
  exact eB (by rw[((Hm hG k).1 ha).2.1,((Hm hG k).1 hb).2.1]) hab _ _
theorem AEo {a b:List Int}(h:Q8 a b=true):a≠b:=by
 rintro rfl
 induction a with
 |nil=>simp[Q8]at h
 |cons x a ih=>simp[Q8]at h;exact ih h
theorem qA {G:Gr}(hG:G.Ok) {ps:List Int->Bool} {k:Nat} {a b:List Int}(ha:a∈CF G ps k)(hb:b∈CF G ps k)(e:D3 a=D3 b):a=b:=by
 have h1:=WU hG ((Hm hG k).1 ha).1
 have h2:=WU hG ((Hm hG k).1 hb).1
 rw[<-iZ]at h1 h2
 rw[e,h2]at h1
 exact(Cc h1).symm
theorem yO {α:Type}:∀{l m:List α},l.Nodup->(∀x∈l,x∈m)->l.length<=m.length
 |[],_,_,_=>Am _
 |
  x::l,m,hn,hs=>by
  obtain⟨a,b,rfl⟩:=List.append_of_mem (hs x Nq)
  rw[Cp]at hn
  have:=yO (l:=l) (m:=a++b) hn.2 λy hy=>by
   have h:=hs y (AA _ hy)
   rw[Ag,Ai]at h
   rw[Ag]
   rcases h with h|h|h
   ·exact .inl h
   ·exact absurd (h▸hy) hn.1
   ·exact .inr h
  rw[Ah]at this
  rw[Ax,Ah,Ax]
  omega
theorem Ug {G:Gr}(hG:G.Ok)(ps:List Int->Bool)(k:Nat):(CF G ps k).length<=2^G.labels.length:=by
 have hs:((CF G ps k).map D3).Nodup:=by
  unfold List.Nodup
  rw[B7]
  refine Er ?_ (Wo hG ps k)
  exactλha hb hab e=>AEo hab (qA hG ha hb e)
 have hl:=yO hs (m:=(List.range (2^G.labels.length)).map (pick (I9 G.labels.length))) λp hp=>by
  obtain⟨x,hx,rfl⟩:=An.1 hp
  have hc:=((Hm hG k).1 hx).1
  have hlk:=II hG hc
  have hsub:=wG (Nt G.labels.length) (BG x).1 λy hy=>by
   have:=jA hlk ((BG x).2 y|>.1 hy)
   unfold Gc at this
   exact Ko.2 (by simpa using this)
  obtain⟨m,hm,he⟩:=Ut hsub
  rw[JX]at hm
  exact An.2 ⟨m,AN.2 hm,he⟩
 simpa using hl
theorem O9 {G:Gr} {ps:List Int->Bool} {k:Nat}(h:CF G ps k=[]):∀m,k<=m->CF G ps m=[]:=by
 intro m hm
 induction m with
 |zero=>rw[show k=0 by omega]at h;exact h
 |
  succ m ih=>
  rcases BN m k with hk|hk
  ·rw[show m+1=k by omega];exact h
  ·unfold CF;rw[ih hk];rfl
def FO(G:Gr)(ps:List Int->Bool):Nat->List (List (List Int))
 |0=>[]
 |d+1=>if CF G ps d=[]then FO G ps d else FO G ps d++[CF G ps d]
theorem HJ {G:Gr} {ps:List Int->Bool}:∀{d:Nat},(∀k,k<d->CF G ps k≠[])->FO G ps d=(List.range d).map (CF G ps)
 |0,_=>rfl
 |
  d+1,h=>by
  unfold FO
  rw[if_neg (h d (by omega)),HJ λk hk=>h k (by omega),CR,A7];rfl
theorem Ud {G:Gr} {ps:List Int->Bool} {k:Nat}(h:CF G ps k=[]):∀{d:Nat},k<=d->FO G ps d=FO G ps k:=by
 intro d hd
 induction d with
 |zero=>rw[show k=0 by omega]
 |
  succ d ih=>
  rcases BN d k with hk|hk
  ·rw[show d+1=k by omega]
  ·conv=>lhs;unfold FO
   rw[if_pos (O9 h d hk),ih hk]
theorem Ue(G:Gr)(ps:List Int->Bool)(d:Nat):∃m,m<=d/\FO G ps d=(List.range m).map (CF G ps)/\(∀k,k<m->CF G ps k≠[])/\(m<d->CF G ps m=[]):=by
 by_cases h:∃k,k<d/\CF G ps k=[]
 ·obtain⟨k,hk,he⟩:=h
  let q:Nat->Bool:=λk=>decide (CF G ps k=[])
  have hx:∃m,CF G ps m=[]/\m<=k/\∀j,j<m->CF G ps j≠[]:=by
   clear hk
   induction k with
   |zero=>exact⟨0,he,Ay _,λj hj=>absurd hj (Nat.not_lt_zero _)⟩
   |
    succ k ih=>
    by_cases hz:∃j,j<=k/\CF G ps j=[]
    ·obtain⟨j,hj,hz⟩:=hz
     have hz':=O9 hz k hj
     obtain⟨m,h1,h2,h3⟩:=ih hz'
     exact⟨m,h1,by omega,h3⟩
    ·exact⟨k+1,he,Ay _,λj hj e=>hz ⟨j,by omega,e⟩⟩
  obtain⟨m,h1,h2,h3⟩:=hx
  exact⟨m,by omega,by rw[Ud h1 (show m<=d by omega),HJ h3],h3,λ_=>h1⟩
 ·exact⟨d,Ay _,HJ λk hk e=>h ⟨k,hk,e⟩,λk hk e=>h ⟨k,hk,e⟩,λh=>absurd h (Nat.lt_irrefl _)⟩
end Go.Proofs.YtjpmmkodoeipmaaGreatDoor
end
section
namespace Go.Proofs.YtjpmmkodoeipmaaGreatDoor
open Go.Gr
def CL(G:Gr)(e:Bool):Gr:=if e=true then IE G else G
theorem JV {G:Gr}(hG:G.Ok)(hn:G.labels.length<=10)(hm:G.edges.length<=30)(e:Bool):(CL G e).Ok:=by
 unfold CL
 split
 ·have:=Sk hG hn hm
  exact ABM hG (by omega) (by omega)
 ·exact hG
theorem oQ(G:Gr)(e:Bool):(CL G e).labels.length=if e=true then G.edges.length else G.labels.length:=by
 unfold CL
 cases e with
 |true=>rw[if_pos rfl,if_pos rfl];exact B9
 |false=>rfl
theorem oP {G:Gr}(hG:G.Ok)(hn:G.labels.length<=10)(hm:G.edges.length<=30):aR G=.tuple [dG (CL G true),.nili]:=iY hG hn hm
def Rx(l:List Opp)(p:Pt):Bool:=(Dk p).isNone&&l.all λo=>Dl o p
def Ld(G:Gr)(e:Bool)(l:List Opp)(x:List Int):Bool:=C9 (CL G e) x&&if e=true then decide ((C8 (C0 G.edges x)).length<=8)&&Rx l (Vm G x)else decide (x.length<=8)&&Rx l (Og G x)
def JJ(G:Gr)(ps:List Int->Bool)(m:Nat):Nat:=((List.range m).map λk=>(CF G ps k).length).sum
theorem Ka(G:Gr)(ps:List Int->Bool)(m:Nat):JJ G ps (m+1)=JJ G ps m+(CF G ps m).length:=by
 unfold JJ
 rw[CR,A7,List.sum_append];simp
theorem mC {G:Gr}(hG:G.Ok)(ps:List Int->Bool):∀m,JJ G ps m<=m*2^G.labels.length
 |0=>by simp[JJ]
 |
  m+1=>by
  rw[Ka,Nat.succ_mul]
  have:=mC hG ps m
  have:=Ug hG ps m
  omega
theorem pH(G:Gr)(ps:List Int->Bool) {m d:Nat}(h:m<=d):JJ G ps m<=JJ G ps d:=by
 induction d with
 |zero=>rw[show m=0 by omega];exact Ay _
 |
  succ d ih=>
  rw[Ka]
  rcases BN d m with g|g
  ·rw[show m=d+1 by omega,Ka];exact Ay _
  ·have:=ih g;omega
theorem Zc {G:Gr}(hG:G.Ok)(ps:List Int->Bool)(hn:G.labels.length<=8) {m:Nat}(hm:m<=8):JJ G ps m<=2048:=by
 have h1:=mC hG ps m
 have h2:2^G.labels.length<=256:=BI (JQ (by decide) hn) (by decide)
 have h3:m*2^G.labels.length<=8*256:=DN hm h2
 omega
theorem AB1 {G:Gr} {ps:List Int->Bool} {d k:Nat} {R:List (List Int)}(h:(FO G ps d)[k]? =some R):R=CF G ps k:=by
 obtain⟨m,_,e,_,_⟩:=Ue G ps d
 rw[e,Ad]at h
 rcases BN k m with g|g
 ·rw[Df g]at h;exact(Cc h).symm
 ·rw[AI (by rw[Dt];exact g)]at h;cases h
theorem Uc(G:Gr)(ps:List Int->Bool)(d:Nat):(FO G ps d).length<=d:=by
 obtain⟨m,h,e,_,_⟩:=Ue G ps d
 rw[e,Ac,Dt];exact h
theorem sB {l:List Opp} {p:Pt} {n:Nat}(hp:PtOk n p)(hl:∀o∈l,Fg o=0):(l.all λo=>Un o p)=l.all λo=>Dl o p:=by
 induction l with
 |nil=>rfl
 |
  cons o l ih=>
  rw[List.all_cons,List.all_cons,ih λx hx=>hl x (AA _ hx)]
  have h0:=hl o Nq
  unfold Fg at h0
  rw[sH hp]
  ·apply ER;intro h;rw[if_pos (.inl (by omega))]at h0;omega
  ·apply ER;intro h;rw[if_pos (.inr (by omega))]at h0;omega
end Go.Proofs.YtjpmmkodoeipmaaGreatDoor
end
section
namespace Go.Proofs.YtjpmmkodoeipmaaGreatDoor
open Go.Sx Go.RowKit Go.Reg Go.Gr
set_option maxRecDepth 100000
def dJ(G:Gr)(e:Bool)(d:Int)(l:List Opp):Da:=.agg [dG G,.bool e,.int .i64 d,JS l]
structure JobOk(G:Gr)(e:Bool)(d:Int)(l:List Opp):Prop where
 ok:G.Ok
 n:G.labels.length<=7
 m:G.edges.length<=30
 me:e=true->G.edges.length<=8
 d:1<=d/\d<=8
 l16:l.length<=16
 lok:∀o∈l,Fg o=0
theorem nN {n:Nat} {p:Pt}(hp:PtOk n p)(h8:n<=8)(hl:∀x∈p.labels,0<=x/\x<=255):Dk p=none:=by
 unfold Dk
 have h1:M0 p.labels=none:=by
  refine Yq (by rw[hp.len];omega) λk y hk hy=>?_
  have:=hl y (A6 hy)
  unfold BZ
  simp;omega
 rw[h1]
 refine MF λi hi=>?_
 have hx:=Ab hi
 have he:=hp.edge _ (AZ hi)
 generalize hE:p.edges[i]=e at hx he
 unfold Y6
 rw[hx]
 simp only
 rw[AAE]
 unfold Y5
 rw[if_neg (by rw[hp.len];simp;omega),if_neg (by omega)]
 by_cases h0:i=0
 ·rw[if_pos h0]
 ·rw[if_neg h0]
  have hj:i-1<p.edges.length:=by omega
  rw[Ab hj]
  simp only
  rw[if_pos]
  have:=AM.1 hp.strict (i-1) i hj hi (by omega)
  rwa [hE]at this
section
variable {G:Gr} {e:Bool} {d:Int} {l:List Opp}
def AFw:List FuncId:=[54,56]
theorem Oy(h:JobOk G e d l):Pure C1 19 [dJ G e d l] (λy=>y=.tuple [dG (CL G e),.nili]):=by
 have hp:=Le l h.l16 h.lok
 have hlo:=zC G h.ok (by have:=h.m;omega)
 rw[oP h.ok (by have:=h.n;omega) h.m]at hlo
 have h1:=h.d.1
 have h2:=h.d.2
 refine AU Tryz.func19 Tryz.ntmps19 AFw [] ?_
 cases e with
 |
  true=>
  (conv=>whnf)
  (repeat' ((first|refine Aj ?_ ?_|refine Af rfl hp ?_|refine Af rfl hlo ?_|refine nx ?_|refine AB (λ_=>?_) (λ_=>?_)|exact AE)<;>conv=>whnf))
  exact rfl
 |
  false=>
  (conv=>whnf)
  (repeat' ((first|refine Aj ?_ ?_|refine Af rfl hp ?_|refine Af rfl hlo ?_|refine nx ?_|refine AB (λ_=>?_) (λ_=>?_)|exact AE)<;>conv=>whnf))
  exact rfl
theorem Su(h:JobOk G e d l):Pure C1 26 [dJ G e d l] (λy=>y=.nili):=by
 have hw:=Oy h
 refine AU Tryz.func26 Tryz.ntmps26 [] [] ?_
 (conv=>whnf)
 (repeat' ((first|refine Aj ?_ ?_|refine Af rfl hw ?_|refine nx ?_|refine AB (λ_=>?_) (λ_=>?_)|exact AE)<;>conv=>whnf))
 exact rfl
theorem bC(x:Int)(X:List Int)(hl:(x::X).length<=2000000000):Pure C1 88 [Bh (x::X)] (λy=>y=Bh (x::X)):=by
 have hlm:((x::X).map dI).length=(x::X).length:=Ac _
 refine AU Tryz.func88 Tryz.ntmps88 QG Mj ?_
 have hlm2:(([]:List Da).length+((x::X).map dI).length)<=4294967296:=by rw[hlm];simp at hl⊢;omega
 ((conv=>whnf);repeat' ((first|refine odw ?_|refine nx ?_|refine AB (λ_=>?_) (λ_=>?_))<;>conv=>whnf))
 all_goals first|exact rfl|(refine J9 hlm2 ?_;((conv=>whnf);repeat' ((first|refine odw ?_|refine nx ?_|refine AB (λ_=>?_) (λ_=>?_))<;>conv=>whnf));exact rfl)
theorem sC {X:List Int}(h0:X≠[])(hl:X.length<=1000):Pure C1 88 [Bh X] (λy=>y=Bh X):=by
 cases X with
 |nil=>exact absurd rfl h0
 |cons x X=>exact bC x X (by omega)
def iD(G:Gr)(e:Bool)(x:List Int):Da:=if e=true then Xn G x else if 8<x.length then .tuple [dP0,.nils,dF 6 0 L8]else if C9 G x=false then .tuple [dP0,.nils,dF 2 0 L8]else .tuple [FC (Og G x),Bh x,.nili]
def ADH:List (Nat×Plan):=[(9,.split 0 2 (.leaf [1,0,3,3,0,0] [1,0,2,3,4,5] [0,0,3,7,15,31]) (.leaf [1,0,3,3,0,0] [1,2,0,3,4,5] [6,0,2,7,15,31]))]
def AFy:List FuncId:=[26,110,111]
theorem Ot(h:JobOk G e d l)(X:List Int)(h0:X≠[])(hx:X.length<=1000):Pure C1 65 [dJ G e d l,Bh X] (λz=>z=iD G e X):=by
 have hr:=Su h
 have hcl:=sC h0 hx
 have hq:=gT G h.ok X hx
 have hv:=ZH G h.ok X (by omega)
 refine AU Tryz.func65 Tryz.ntmps65 AFy ADH ?_
 cases e with
 |
  true=>
  unfold iD
  rw[if_pos rfl]
  unfold Xn at hq⊢
  by_cases h1:C9 (IE G) X=false
  ·rw[if_pos h1]at hq⊢
   (conv=>whnf)
   (repeat' ((first|refine Aj ?_ ?_|refine Bq tab rfl hr rfl ?_|refine Af rfl hq ?_|refine nx ?_|refine AB (λ_=>?_) (λ_=>?_)|exact AE)<;>conv=>whnf))
   exact rfl
  ·rw[if_neg h1]at hq⊢
   by_cases h2:8<(C8 (C0 G.edges X)).length
   ·rw[if_pos h2]at hq⊢
    (conv=>whnf)
    (repeat' ((first|refine Aj ?_ ?_|refine Bq tab rfl hr rfl ?_|refine Af rfl hq ?_|refine nx ?_|refine AB (λ_=>?_) (λ_=>?_)|exact AE)<;>conv=>whnf))
    exact rfl
   ·rw[if_neg h2]at hq⊢
    (conv=>whnf)
    (repeat' ((first|refine Aj ?_ ?_|refine Bq tab rfl hr rfl ?_|refine Af rfl hq ?_|refine nx ?_|refine AB (λ_=>?_) (λ_=>?_)|exact AE)<;>conv=>whnf))
    exact rfl
 |
  false=>
  unfold iD
  rw[if_neg (by decide)]
  by_cases h1:8<X.length
  ·rw[if_pos h1]at hv⊢
   (conv=>whnf)
   (repeat' ((first|refine Aj ?_ ?_|refine Bq tab rfl hr rfl ?_|refine Af rfl hv ?_|refine nx ?_|refine AB (λ_=>?_) (λ_=>?_)|exact AE)<;>conv=>whnf))
   exact rfl
  ·rw[if_neg h1]at hv⊢
   by_cases h2:C9 G X=false
   ·rw[if_pos h2]at hv⊢
    (conv=>whnf)
    (repeat' ((first|refine Aj ?_ ?_|refine Bq tab rfl hr rfl ?_|refine Af rfl hv ?_|refine nx ?_|refine AB (λ_=>?_) (λ_=>?_)|exact AE)<;>conv=>whnf))
    exact rfl
   ·rw[if_neg h2]at hv⊢
    (conv=>whnf)
    (repeat' ((first|refine Aj ?_ ?_|refine Bq tab rfl hr rfl ?_|refine Af rfl hv ?_|refine Af rfl hcl ?_|refine nx ?_|refine AB (λ_=>?_) (λ_=>?_)|exact AE)<;>conv=>whnf))
    exact rfl
theorem Nz(h:JobOk G e d l):(CL G e).labels.length<=8:=by
 rw[oQ]
 split
 ·exact h.me (by assumption)
 ·have:=h.n;omega
theorem zK(hG:G.Ok) {E:List Edg} {V:List Int}(h8:V.length<=8)(hr:∀x∈V,0<=x/\x<(G.labels.length:Int)):Dk ⟨V.map (EO G),UE E V⟩=none:=by
 refine nN (n:=V.length) ⟨Ac _,λe he=>?_,KX _ _ _⟩ h8 λx hx=>?_
 ·obtain⟨j,x,hj,hx,hjx,_,rfl⟩:=Rr.1 he
  simp only;omega
 ·obtain⟨y,hy,rfl⟩:=An.1 hx
  exact WY hG (hr y hy)
theorem WZ(hG:G.Ok) {X:List Int}(h8:(C8 (C0 G.edges X)).length<=8):Dk (Vm G X)=none:=by
 refine zK hG h8 λx hx=>?_
 obtain⟨e,he,hxe⟩:=((KN _).2 x).1 hx
 have:=hG.edge e (Vj e he)
 omega
theorem Rz(hG:G.Ok) {X:List Int}(h8:X.length<=8)(hl:C9 G X=true):Dk (Og G X)=none:=zK hG h8 (OO hl)
def AFx:List FuncId:=[65,141]
theorem ZM(h:JobOk G e d l)(X:List Int)(h0:X≠[])(hx:X.length<=1000):Pure C1 97 [dJ G e d l,Bh X] (λz=>z=.bool (Ld G e l X)):=by
 have hp:=Ot h X h0 hx
 refine AU Tryz.func97 Tryz.ntmps97 AFx [] ?_
 cases e with
 |
  true=>
  unfold iD at hp
  rw[if_pos rfl]at hp
  unfold Xn at hp
  unfold Ld
  rw[show CL G true=IE G from rfl,if_pos rfl]
  by_cases h1:C9 (IE G) X=false
  ·rw[if_pos h1]at hp
   rw[h1]
   (conv=>whnf)
   (repeat' ((first|refine Aj ?_ ?_|refine Af rfl hp ?_|refine nx ?_|refine AB (λ_=>?_) (λ_=>?_)|exact AE)<;>conv=>whnf))
   exact rfl
  ·rw[if_neg h1]at hp
   rw[Bool.not_eq_false]at h1
   rw[h1]
   by_cases h2:8<(C8 (C0 G.edges X)).length
   ·rw[if_pos h2]at hp
    rw[decide_eq_false (by omega)]
    (conv=>whnf)
    (repeat' ((first|refine Aj ?_ ?_|refine Af rfl hp ?_|refine nx ?_|refine AB (λ_=>?_) (λ_=>?_)|exact AE)<;>conv=>whnf))
    exact rfl
   ·rw[if_neg h2]at hp
    rw[decide_eq_true (by omega)]
    have he:=WZ (X:=X) h.ok (by omega)
    have hk:=UK l (Vm G X) h.l16 h.lok he
    unfold Rx
    rw[he]
    (conv=>whnf)
    (repeat' ((first|refine Aj ?_ ?_|refine Af rfl hp ?_|refine Bq tab rfl hk rfl ?_|refine nx ?_|refine AB (λ_=>?_) (λ_=>?_)|exact AE)<;>conv=>whnf))
    exact congrArg Da.bool (by simp)
 |
  false=>
  unfold iD at hp
  rw[if_neg (by decide)]at hp
  unfold Ld
  rw[show CL G false=G from rfl,if_neg (by decide)]
  by_cases h2:8<X.length
  ·rw[if_pos h2]at hp
   rw[decide_eq_false (show¬X.length<=8 by omega),Bool.false_and,Bool.and_false]
   (conv=>whnf)
   (repeat' ((first|refine Aj ?_ ?_|refine Af rfl hp ?_|refine nx ?_|refine AB (λ_=>?_) (λ_=>?_)|exact AE)<;>conv=>whnf))
   exact rfl
  ·rw[if_neg h2]at hp
   by_cases h1:C9 G X=false
   ·rw[if_pos h1]at hp
    rw[h1]
    (conv=>whnf)
    (repeat' ((first|refine Aj ?_ ?_|refine Af rfl hp ?_|refine nx ?_|refine AB (λ_=>?_) (λ_=>?_)|exact AE)<;>conv=>whnf))
    exact rfl
   ·rw[if_neg h1]at hp
    rw[Bool.not_eq_false]at h1
    rw[h1,decide_eq_true (show X.length<=8 by omega)]
    have he:=Rz h.ok (by omega) h1
    have hk:=UK l (Og G X) h.l16 h.lok he
    unfold Rx
    rw[he]
    (conv=>whnf)
    (repeat' ((first|refine Aj ?_ ?_|refine Af rfl hp ?_|refine Bq tab rfl hk rfl ?_|refine nx ?_|refine AB (λ_=>?_) (λ_=>?_)|exact AE)<;>conv=>whnf))
    exact congrArg Da.bool (by simp)
def AFz:List FuncId:=[97]
theorem jL(h:JobOk G e d l)(X:List Int)(h0:X≠[])(hx:X.length<=1000):Pure C1 96 [Bh X,.ref (dJ G e d l)] (λz=>z=.bool (!Ld G e l X)):=by
 have hp:=ZM h X h0 hx
 refine AU Tryz.func96 Tryz.ntmps96 AFz [] ?_
 (conv=>whnf)
 (repeat' ((first|refine Aj ?_ ?_|refine Bq tab rfl hp rfl ?_|refine nx ?_|refine AB (λ_=>?_) (λ_=>?_)|exact AE)<;>conv=>whnf))
 exact rfl
end
end Go.Proofs.YtjpmmkodoeipmaaGreatDoor
end
section
namespace Go.Reg
open Go Go.RowKit Go.Sort Go.Proofs
abbrev encV(v:Value):List Value:=[v]
theorem IL(l:List Value):l.flatMap encV=l:=by induction l with
 |nil=>rfl
 |cons v l ih=>rw[BE,ih];rfl
abbrev OK:Value:=.slice none 0 0
theorem Sl.zeroV {P:Program} {E:Nat} {w:World} {l:List Value} {g c:Nat}(h:Sl E 1 encV w (.slice (some ⟨g,0,none⟩) l.length c) l) {m:Nat}(hm:m<=l.length):
  ∃w',(storeCells ⟨g,m,none⟩ (List.replicate (l.length-m) OK)).run P w=.ok () w'/\Sl E 1 encV w' (.slice (some ⟨g,0,none⟩) l.length c) (l.take m++List.replicate (l.length-m) OK)/\Tch [g] w w':=by
 rcases h.2 with⟨h1,_⟩|⟨g',cap',cur,h1,h0,hg,hc,hmx,hs,ht⟩
 ·cases h1
 ·cases h1
  rw[F4]at hs
  have hsz:l.length<=cur.size:=by omega
  have hr:=run_storeCells_at P g m E (List.replicate (l.length-m) OK) 0 cur w hg (by rw[B9];omega) (by intro v hv;rw[lP hv];rfl)
  rw[Eu,B9]at hr
  have hl2:(l.take m++List.replicate (l.length-m) OK).length=l.length:=by rw[Ah,A8,B9];omega
  have e0:m+(l.length-m)=l.length:=by omega
  rw[e0]at hr
  refine⟨_,hr,?_,⟨rfl,rfl,rfl,by simp[World.setRow],λj hj hn=>by
    have:g≠j:=λe=>hn (by simp[e])
    simp[World.setRow,CB,this]⟩⟩
  unfold Sl
  rw[IL,hl2]
  refine⟨by omega,.inr ⟨g,c,(cur.toList.take m++List.replicate (l.length-m) OK++cur.toList.drop l.length).toArray,rfl,Am _,setRow_heap w g cur _ E (0,0) hg,hc,hmx,?_,?_⟩⟩
  ·simp;omega
  ·rw[IL,F4]at ht
   rw[F4]
   have h1:(cur.toList.take m++List.replicate (l.length-m) OK).length=l.length:=by simp;omega
   rw[BX (by omega),Ak (by omega),<-ht,HV,LI hm]
end Go.Reg
namespace Go.Sx
open Go Go.RowKit Go.Reg Go.Gr Go.Proofs Go.Proofs.YtjpmmkodoeipmaaGreatDoor
def L7(E:Nat)(l:List Value)(m g c:Nat):Absn where
 R w v F:=v=.slice (if c=m then some ⟨g,0,none⟩else some ⟨g,m,none⟩) (l.length-m) (c-m)/\F=[g]/\m<=l.length/\Sl E 1 encV w (.slice (some ⟨g,0,none⟩) l.length c) l
 keep:=by
  rintro S w w' v F ⟨rfl,rfl,hm,h⟩ t hd
  exact⟨rfl,rfl,hm,h.keep t (λb hb=>by simp[Value.ownBlock]at hb;subst hb;exact hd g (by simp))⟩
 lt:=by
  rintro w v F ⟨rfl,rfl,hm,h⟩ x hx
  simp at hx;subst hx
  exact h.lt rfl
 one:=by rintro w v F ⟨rfl,rfl,hm,h⟩;rfl
theorem ZX {O:List Nat} {w:World}:∀{ds:List Da} {css:List (List Value)},Aq O w ds css->(∀x∈css,EN 1 x)->∃vs:List Value,css=vs.map encV/\vs.length=ds.length
 |[],css,h,_=>by simp only[Aq]at h;subst h;exact⟨[],rfl,rfl⟩
 |
  d::ds,css,h,hr=>by
  simp only[Aq]at h
  obtain⟨c1,c2,rfl,_,h2⟩:=h
  obtain⟨vs,rfl,hl⟩:=ZX h2 λx hx=>hr x (AA _ hx)
  obtain⟨v,rfl⟩:=C4.1 (hr c1 Nq).1
  exact⟨v::vs,rfl,by rw[Ax,Ax,hl]⟩
theorem lU {E:Nat} {w:World} {v:Value} {l:List Value}:Sl E 1 id w v (l.map encV)↔Sl E 1 encV w v l:=by
 unfold Sl
 rw[Ac,List.flatMap_id,IL]
 rw[show(l.map encV).flatten=l from by rw[<-List.flatMap_def];exact IL l]
theorem YU:∀{ds:List Da} {vs:List Value},(∀d∈ds,d.one=true)->vs.length=ds.length->List.zipWith DZ ds (vs.map encV)=vs
 |[],[],_,_=>rfl
 |[],_::_,_,h=>by cases h
 |_::_,[],_,h=>by cases h
 |
  d::ds,v::vs,h1,h2=>by
  rw[Ap,Bf,YU (λd hd=>h1 d (AA _ hd)) (by simpa using h2),SR (h1 d Nq)];rfl
section
variable {C:Cx} {T:Hb} {n kd:Nat} {fr:Fr} {σ:Sg} {E i:Nat} {l:List Value} {o:Oper} {K:Fr->Sg->Prop} {B S:List Nat} {w0 w w':World} {η:Nat->Value} {φ:Nat->List Nat} {a:Act}
theorem Models.pins(hM:Models C B S w0 n fr σ η φ a w) {g:Nat}(hg:BJ g σ=none) {xs:List Da} {us:List Value} {css:List (List Value)}(hr:Aq (B++Ao φ σ) w xs css)(hu:us=List.zipWith DZ xs css):Models C B S w0 n fr ((g,.ghost [.tuple us.toArray] [.d (.tuple xs)])::σ) (CE η g .nilFunc) (CE φ g []) a w:=by
 have hi':=CO hg
 obtain⟨hm,hl⟩:=hM.mem.add (Tch.refl [] w) hi' (v:=.nilFunc) (F:=[]) (o:=.ghost [.tuple us.toArray] [.d (.tuple xs)]) (by simp) ⟨rfl,rfl,[[.tuple us.toArray]],by simp only[AG,AJ,RepC];exact⟨_,_,rfl,⟨css,hr,by rw[hu]⟩,rfl⟩,rfl⟩
 exact⟨hm,hM.fr.add hi' hl,hM.defers,hM.size⟩
theorem vT:∀{σ:Sg} {i:Nat},i∉BB σ->BJ i σ=none
 |[],_,_=>rfl
 |
  (j,o)::σ,i,h=>by
  cases hs:BJ i ((j,o)::σ)with
  |none=>rfl
  |some q=>exact absurd (AW (AT hs)) h
theorem yC(m gh:Nat) {ds:List Da} {t:TypeId} {x lo:Operand} {e ee:TyI}(hC:C.Ok T)(i:Nat)(ho:o.op=.slice t x (some lo) none none)(he:GL t T=some e)(hk2:e.kd=2)(hee:GL e.elem T=some ee)(h1:ee.size=1)(hx:ev C.Γ fr x=.own i)(hg:BJ i σ=some (.slice E 1 ds))(hgh:BJ gh σ=none)(hone:∀d∈ds,d.one=true) {mi:Int}(hlo:ev C.Γ fr lo=.d (.int .i64 mi))(hmi:mi=m)(hm:m<=ds.length)(hl:ds≠[])(hkd:kd≠5/\kd≠2)(hd:Dh o.dst n=true)
  (hK:∀g c vs,vs.length=ds.length->Ge (Fe i (.raw (.slice (some ⟨g,0,none⟩) ds.length c)) fr) λfr=>Ch (Fi gh (.ghost [.tuple (vs.take m).toArray] [.d (.tuple (ds.take m))]) (AX (BL i (.raw (.slice (some ⟨g,0,none⟩) ds.length c))) i (L7 E vs m g c).own σ)) λσ=>K (CG o.dst (.own i) fr) σ):Bm C n kd o K fr σ:=by
 subst hmi
 refine CD hkd.1 hkd.2 λB S w0 η φ a w hM=>⟨λ_=>by simp[BH,ho],.inl ?_⟩
 obtain⟨css,hs,e2,hrr,hkk⟩:=BW hM.mem hg
 obtain⟨vs,rfl,hvl⟩:=ZX hrr hkk
 have hs1:=lU.1 hs
 rcases hs1.shape with⟨_,rfl⟩|⟨g,cap,e3,hc⟩
 ·exact absurd (AF hvl.symm) hl
 have ex:=FL (Bb hM x) hx
 have elo:=EW (Ee (Bb hM lo) hlo)
 rw[hvl]at e3 hc
 have hr:=Gl (w:=w) (hC.ty he) hk2 (hC.ty hee) (ad:=some ⟨g,0,none⟩) (len:=ds.length) (cap:=cap) hc (lo:=some (.int .i64 m)) (hi:=none) (l:=m) (m:=ds.length) ⟨_,rfl⟩ rfl hm (Ay _)
 have hi:=AW (AT hg)
 have hF:∀b∈[g],b∈φ i\/w.heap.size<=b:=λb hb=>.inl (by rw[e2,e3];simpa[Value.ownBlock]using hb)
 have hl2:=Later.turn (σ:=σ) B (Tch.refl [] w) (X:=[]) (by simp) hi hF (BL i (.raw (.slice (some ⟨g,0,none⟩) ds.length cap))) (L7 E vs m g cap).own
 have hM':=hM.turnRaw (Tch.refl [] w) (by simp) hi (v:=.slice (if cap=m then some ⟨g,0,none⟩else some ⟨g,m,none⟩) (ds.length-m) (cap-m)) (F:=[g]) hF (x:=.raw (.slice (some ⟨g,0,none⟩) ds.length cap)) rfl (λO w=>by simp only[RepC];rw[e3]) (ow:=(L7 E vs m g cap).own) (show(L7 E vs m g cap).R _ _ _ from⟨by rw[hvl],rfl,by rw[hvl];exact hm,by rw[hvl,<-e3];exact hs1⟩)
 have hgh':BJ gh (AX (BL i (.raw (.slice (some ⟨g,0,none⟩) ds.length cap))) i (L7 E vs m g cap).own σ)=none:=vT (by rw[AY];exact CO hgh)
 have hne:i≠gh:=λe=>by rw[e,hgh]at hg;cases hg
 have hM2:=(hM'.pins hgh' (xs:=ds.take m) (us:=vs.take m) (css:=(vs.take m).map encV) (by rw[Fj];exact Mc (Aq.later hl2 _ _ hrr) m) (by rw[YU (λd hd=>hone d (DO hd)) (by rw[A8,A8,hvl])])).perm (CA gh _ _)
 have hk:=hK g cap vs hvl
 rw[Eg,Bw]at hk
 refine⟨_,w,?_,_,_,_,_,hM2.put hd (d:=.own i) ⟨[.slice (if cap=m then some ⟨g,0,none⟩else some ⟨g,m,none⟩) (ds.length-m) (cap-m)],by simp only[AJ];exact⟨by unfold BB;rw[((CA gh _ _).map _).mem_iff];exact AA _ (by have:=AY (BL i (.raw (.slice (some ⟨g,0,none⟩) ds.length cap))) i (L7 E vs m g cap).own σ;unfold BB at this;rw[this];exact hi),by rw[BV _ _ _ hne,Cj]⟩,rfl⟩,hk⟩
 simp only[execOp,ho,Cv,V8]
 rw[ex,elo,e3]
 refine CZ ?_
 rw[hr]
 congr 2
 split
 ·rfl
 ·simp[DB,h1]
theorem qZ {m g c:Nat} {cl:Call} {t:TypeId} {x:Operand} {e:TyI}(hC:C.Ok T)(i:Nat)(ho:o.op=.call cl)(hcl:cl.callee=.builtin .clear)(hxs:cl.args.toList=[x])(hts:cl.argTypes.toList=[t])(he:GL t T=some e)(hk2:e.kd=2)(hz:∀w,(zeroValue e.elem).run C.P w=.ok OK w)(hx:ev C.Γ fr x=.own i)(hg:BJ i σ=some (L7 E l m g c).own)(hkd:kd≠5/\kd≠2)(hd:Dh o.dst n=true)
  (hK:Ch (AX id i (L7 E (l.take m++List.replicate (l.length-m) OK) m g c).own σ) λσ=>K (CG o.dst (.d (.tuple [])) fr) σ):Bm C n kd o K fr σ:=by
 rw[Bw]at hK
 refine CD hkd.1 hkd.2 λB S w0 η φ a w hM=>⟨λ_=>by simp[BH,ho],.inl ?_⟩
 have ex:=FL (Bb hM x) hx
 obtain⟨ev1,ev2,hm,hs⟩:=Tg hM hg
 have hi:=AW (AT hg)
 have e1:cl.args=#[x]:=by apply Ez;simpa using hxs
 have e2:cl.argTypes=#[t]:=by apply Ez;simpa using hts
 obtain⟨dd,g1,_,g3,_,_,_,_,g8⟩:=(hC.ty he).desc
 rw[hk2]at g8
 have hdd:∃el,dd=.slice el:=by cases dd<;>simp at g8<;>exact⟨_,rfl⟩
 obtain⟨el,rfl⟩:=hdd
 have hel:=g3 _ rfl
 subst hel
 have hl2:(l.take m++List.replicate (l.length-m) OK).length=l.length:=by rw[Ah,A8,B9];omega
 have step:∀w1,Tch [g] w w1->Sl E 1 encV w1 (.slice (some ⟨g,0,none⟩) l.length c) (l.take m++List.replicate (l.length-m) OK)->Jz C B S w0 n K (a.put o.dst (.tuple #[])) w1:=λw1 ht hs'=>by
  have hX:∀b∈[g],b∈φ i:=λb hb=>by rw[ev2];exact hb
  have hF:∀b∈φ i,b∈φ i\/w.heap.size<=b:=λb hb=>.inl hb
  have hlt:=Later.turn (σ:=σ) B ht hX hi hF id (L7 E (l.take m++List.replicate (l.length-m) OK) m g c).own
  have hmm:=hM.mem.turnSame (o:=(L7 E (l.take m++List.replicate (l.length-m) OK) m g c).own) ht hX hi hF (show(L7 E (l.take m++List.replicate (l.length-m) OK) m g c).R _ _ _ from⟨by rw[hl2];exact ev1,ev2,by rw[hl2];exact hm,by rw[hl2];exact hs'⟩)
  rw[Py]at hmm hlt
  have M':Models C B S w0 n fr _ η φ a w1:=⟨hmm,hM.fr.later hlt (λj hj=>⟨by rw[AY];exact hj,rfl⟩),hM.defers,hM.size⟩
  exact⟨_,_,_,_,M'.put hd (d:=.d (.tuple [])) ⟨[.tuple #[]],by simp[AJ,RepC,Aq],rfl⟩,hK⟩
 have exec:∀w1,(Builtin.clear_ #[t] o.type #[η i]).run C.P w=.ok (.tuple #[]) w1->(execOp a.eval o).run C.P w=.ok (.value (.tuple #[])) w1:=λw1 h=>by
  simp only[execOp,ho,resolve,hcl,AK,Bn,AH,invoke,builtin,e1,e2,HW,Ap,Bt,ex]
  rw[h];rfl
 by_cases hml:m=l.length
 ·refine⟨_,w,exec w ?_,step w (Tch.refl _ _) ?_⟩
  ·rw[ev1,hml,Dy]
   generalize (if c=l.length then(some ⟨g,0,none⟩:Option Addr)else some ⟨g,l.length,none⟩)=ad
   cases ad<;>simp[Builtin.clear_,run_underlying g1]
  ·rw[hml,Dy,E0];simpa using hs
 ·obtain⟨w1,r1,r2,r3⟩:=hs.zeroV (P:=C.P) hm
  refine⟨_,w1,exec w1 ?_,step w1 r3 r2⟩
  have hcm:c≠m:=by
   rcases hs.shape with⟨h,_⟩|⟨_,_,h,h2⟩
   ·cases h
   ·cases h;omega
  obtain⟨k,hk⟩:∃k,l.length-m=k+1:=⟨l.length-m-1,by omega⟩
  have hzc:(Builtin.zeroCells (OK).cells (k+1)).toList=List.replicate (k+1) OK:=by
   apply List.ext_getElem
   ·simp[Builtin.zeroCells,Value.cells]
   ·intro j h1 h2
    simp[Builtin.zeroCells,Value.cells,Nat.mod_one]
  rw[ev1,if_neg hcm,hk]
  rw[hk]at r1
  simp[Builtin.clear_,run_underlying g1,hz,hzc,r1]
theorem ZC {O:List Nat} {w:World}:∀{ds:List Da} {css:List (List Value)},Aq O w ds css->(∀d∈ds,d.one=true/\d.stor=true)->css=(List.zipWith DZ ds css).map encV/\∀x∈css,EN 1 x
 |[],css,h,_=>by simp only[Aq]at h;subst h;exact⟨rfl,λx hx=>by cases hx⟩
 |
  d::ds,css,h,ho=>by
  simp only[Aq]at h
  obtain⟨c1,c2,rfl,h1,h2⟩:=h
  obtain⟨g1,g2⟩:=ZC h2 λd hd=>ho d (AA _ hd)
  obtain⟨o1,o2⟩:=ho d Nq
  have hlen:c1.length=1:=by
   have:=FD d c1 h1
   rw[this]
   cases d<;>first|rfl|cases o1
  have hrow:EN 1 c1:=⟨hlen,Md d c1 o2 h1⟩
  obtain⟨v,rfl⟩:=C4.1 hlen
  rw[Bf,Ap,SR o1,<-g1]
  exact⟨rfl,λx hx=>by
   rcases Ai.1 hx with e|e
   ·rw[e];exact hrow
   ·exact g2 x e⟩
theorem yD {m g c gh:Nat} {us:List Value} {ds:List Da} {t:TypeId} {x hi:Operand} {e ee:TyI}(hC:C.Ok T)(i:Nat)(ho:o.op=.slice t x none (some hi) none)(he:GL t T=some e)(hk2:e.kd=2)(hee:GL e.elem T=some ee) {nn:Nat}(hx:ev C.Γ fr x=.d (.raw (.slice (some ⟨g,0,none⟩) nn c)))(hnn:nn=l.length)(hg:BJ i σ=some (L7 E l m g c).own)(hgh:BJ gh σ=some (.ghost [.tuple us.toArray] [.d (.tuple ds)]))(hus:l.take m=us)(_hdl:ds.length=m)(hone:∀d∈ds,d.one=true/\d.stor=true) {mi:Int}(hhi:ev C.Γ fr hi=.d (.int .i64 mi))(hmi:mi=m)(hkd:kd≠5/\kd≠2)(hd:Dh o.dst n=true)
  (hK:Ge (Fe i .undef fr) λfr=>Ch (AX (BL i .undef) i (.slice E 1 ds) σ) λσ=>K (CG o.dst (.own i) fr) σ):Bm C n kd o K fr σ:=by
 subst hmi
 subst hnn
 rw[Eg,Bw]at hK
 refine CD hkd.1 hkd.2 λB S w0 η φ a w hM=>⟨λ_=>by simp[BH,ho],.inl ?_⟩
 obtain⟨ev1,ev2,hm,hs⟩:=Tg hM hg
 have hii:=AW (AT hg)
 have ex:a.eval x=.slice (some ⟨g,0,none⟩) l.length c:=by
  obtain⟨cs,h1,h2⟩:=Ee (Bb hM x) hx
  simp only[RepC]at h1
  subst h1;exact h2
 have ehi:=EW (Ee (Bb hM hi) hhi)
 have hlc:l.length<=c:=by
  rcases hs.shape with⟨h,_⟩|⟨_,_,h,h2⟩
  ·cases h
  ·cases h;exact h2
 have hr:=Gl (w:=w) (hC.ty he) hk2 (hC.ty hee) (ad:=some ⟨g,0,none⟩) (len:=l.length) (cap:=c) hlc (lo:=none) (hi:=some (.int .i64 m)) (l:=0) (m:=m) rfl ⟨_,rfl⟩ (Am _) hm
 have hs':Sl E 1 encV w (.slice (some ⟨g,0,none⟩) m c) (l.take m):=by
  have hlm:(l.take m).length=m:=by rw[A8];omega
  rcases hs.2 with⟨h1,_⟩|⟨g',cap',cur,h1,h0,hgg,hc,hmx,hsz,ht⟩
  ·cases h1
  ·cases h1
   unfold Sl
   rw[IL,hlm]
   refine⟨by omega,.inr ⟨g,c,cur,rfl,Am _,hgg,by omega,hmx,hsz,?_⟩⟩
   rw[IL]at ht
   rw[<-ht,HV,F4,F4,LI hm]
 obtain⟨_,_,qss,hrr,huz⟩:=hM.mem.own _ (AT hgh)
 simp only[AG,AJ,RepC]at hrr
 obtain⟨_,_,rfl,⟨css,hrr,rfl⟩,rfl⟩:=hrr
 have huz:us=List.zipWith DZ ds css:=by simpa[Cf,DZ]using huz
 have hF:∀b∈(Value.slice (some ⟨g,0,none⟩) m c).ownBlock.toList,b∈φ i\/w.heap.size<=b:=λb hb=>.inl (by rw[ev2];simpa[Value.ownBlock]using hb)
 have hl2:=Later.turn (σ:=σ) B (Tch.refl [] w) (X:=[]) (by simp) hii hF (BL i .undef) (.slice E 1 ds)
 have hcss:=ZC hrr hone
 rw[<-huz,<-hus]at hcss
 have hM':=hM.turnRaw (Tch.refl [] w) (by simp) hii (v:=.slice (some ⟨g,0,none⟩) m c) hF (x:=.undef) rfl (λO w=>RepC.undef_ex _ _ _) (ow:=.slice E 1 ds) ⟨css,by rw[hcss.1];exact lU.2 hs',rfl,Aq.later hl2 _ _ hrr,hcss.2⟩
 refine⟨_,w,?_,_,_,_,_,hM'.put hd (d:=.own i) ⟨[.slice (some ⟨g,0,none⟩) m c],by simp only[AJ];exact⟨by rw[AY];exact hii,by rw[Cj]⟩,rfl⟩,hK⟩
 simp only[execOp,ho,Cv,V8]
 rw[ex,ehi]
 refine CZ ?_
 rw[hr]
 congr 2
 split
 ·simp
 ·simp[DB]
end
end Go.Sx
end
section
namespace Go.Proofs.YtjpmmkodoeipmaaGreatDoor
open Go.Sx Go.RowKit Go.Reg Go.Gr
set_option maxRecDepth 100000
theorem eU {s:List Int} {n:Int} {k:Nat}(hs:s.Pairwise (· < ·))(h1:∀y∈s.take k,y<n)(h2:∀y∈s.drop k,n<y):
  ((s.take k++[n])++s.drop k).Pairwise (· < ·)/\(∀x,x∈(s.take k++[n])++s.drop k↔x=n\/x∈s)/\((s.take k++[n])++s.drop k).length<=s.length+1:=by
 refine⟨?_,λx=>?_,?_⟩
 ·rw[CU,CU]
  refine⟨⟨hs.sublist (Pn _ _),by simp,λa ha b hb=>?_⟩,hs.sublist (List.drop_sublist _ _),λa ha b hb=>?_⟩
  ·rw[As]at hb;subst hb;exact h1 a ha
  ·have:=h2 b hb
   rcases Ag.1 ha with ha|ha
   ·have:=h1 a ha;omega
   ·rw[As]at ha;omega
 ·have:x∈s↔x∈s.take k\/x∈s.drop k:=by rw[<-Ag,BP]
  rw[this]
  simp only[Ag,As]
  constructor
  ·rintro((h|h)|h)
   ·exact .inr (.inl h)
   ·exact .inl h
   ·exact .inr (.inr h)
  ·rintro(h|h|h)
   ·exact .inl (.inr h)
   ·exact .inl (.inl h)
   ·exact .inr h
 ·simp only[Ah,A8,Gv,B8];omega
def ADj:List FuncId:=[80]
theorem lM(s:List Int)(n:Int)(hs:s.Pairwise (· < ·))(hl:s.length<=4294967295):Pure C1 35 [Bh s,.int .i64 n] (λy=>∃t:List Int,y=Bh t/\t.Pairwise (· < ·)/\(∀x,x∈t↔x=n\/x∈s)/\t.length<=s.length+1):=by
 have hsl:(s.map dI).length=s.length:=Ac _
 have hh:=jW s n
 refine AU Tryz.func35 Tryz.ntmps35 ADj [] ?_
 by_cases hn:n∈s
 ·rw[decide_eq_true hn]at hh
  (conv=>whnf)
  (repeat' ((first|refine Aj ?_ ?_|refine Af rfl hh ?_|refine nx ?_|refine AB (λ_=>?_) (λ_=>?_)|exact AE)<;>conv=>whnf))
  exact⟨s,rfl,hs,λx=>⟨.inr,λh=>h.elim (λe=>e▸hn) id⟩,by omega⟩
 ·rw[decide_eq_false hn]at hh
  (conv=>whnf)
  (repeat' ((first|refine Aj ?_ ?_|refine Af rfl hh ?_|refine nx ?_|refine AB (λ_=>?_) (λ_=>?_)|exact AE)<;>conv=>whnf))
  refine AQ (ι:=Nat) (λk=>k<=s.length/\∀y∈s.take k,y<n) (λk=>[(5,.d (.int .i64 k)),(1,.d (.int .i64 n)),(0,.d (Bh s))]) (λ_=>[]) (λk=>s.length-k) 0 (λ_=>rfl) ⟨Am _,by simp⟩ (.refl _ _) ⟨rfl,rfl,rfl,trivial⟩ trivial ?_
  rintro k ⟨hk,hlo⟩
  refine Ca ADj [] ?_
  have hfin:((s.map dI).take k++[.int .i64 n])++(s.map dI).drop k=((s.take k++[n])++s.drop k).map dI:=by
   rw[A7,A7,Fj,lO];rfl
  by_cases hlt:k<s.length
  ·have hx:=Ab hlt
   have hxm:=AZ hlt
   have hge:∀y∈s.drop k,s[k]<=y:=by
    intro y hy
    obtain⟨j,hj,rfl⟩:=GP.1 hy
    rcases Nat.eq_zero_or_pos j with e|e
    ·subst e;simp
    ·have:=AM.1 hs k (k+j) hlt (by omega) (by omega);omega
   generalize s[k]=x at hx hxm hge
   have hxd:(s.map dI)[k]? =some (.int .i64 x):=by rw[Ad,hx];rfl
   by_cases hxn:x<n
   ·(conv=>whnf)
    (repeat' ((first|refine Aj ?_ ?_|refine AO hxd rfl ?_|refine nx ?_|refine AB (λ_=>?_) (λ_=>?_)|exact AE)<;>conv=>whnf))
    refine⟨k+1,_,_,⟨hlt,?_⟩,.refl _ _,⟨rfl,rfl,rfl,trivial⟩,trivial,by omega⟩
    intro y hy
    rw[Au,hx]at hy
    rcases Ag.1 hy with hy|hy
    ·exact hlo y hy
    ·simp at hy;subst hy;exact hxn
   ·have hne:x≠n:=λe=>hn (e▸hxm)
    obtain⟨g1,g2,g3⟩:=eU hs hlo (λy hy=>by have:=hge y hy;omega)
    (conv=>whnf)
    (repeat' ((first|refine Aj ?_ ?_|refine AO hxd rfl ?_|refine TI k rfl (by omega) ?_|refine Ku rfl (show k<=(s.map dI).length by omega) ?_|refine nx ?_|refine AB (λ_=>?_) (λ_=>?_)|exact AE)<;>conv=>whnf))
    exact⟨_,congrArg (Da.list 1) hfin,g1,g2,g3⟩
  ·have hke:k=s.length:=by omega
   obtain⟨g1,g2,g3⟩:=eU hs hlo (λy hy=>by rw[hke,List.drop_length]at hy;cases hy)
   (conv=>whnf)
   (repeat' ((first|refine Aj ?_ ?_|refine TI k rfl (by omega) ?_|refine Ku rfl (show k<=(s.map dI).length by omega) ?_|refine nx ?_|refine AB (λ_=>?_) (λ_=>?_)|exact AE)<;>conv=>whnf))
   exact⟨_,congrArg (Da.list 1) hfin,g1,g2,g3⟩
def ADi:List FuncId:=[35]
theorem rF(l:List Int)(hl:l.length<=1000000):Pure C1 12 [Bh l] (λy=>y=Bh (D3 l)):=by
 have hll:(l.map dI).length=l.length:=Ac _
 refine AU Tryz.func12 Tryz.ntmps12 ADi [] ?_
 ((conv=>whnf);repeat' ((first|refine odw ?_|refine nx ?_|refine AB (λ_=>?_) (λ_=>?_))<;>conv=>whnf))
 refine AQ (ι:=Nat×List Int) (λx=>(x.1<=l.length/\x.2.length<=x.1)/\x.2.Pairwise (· < ·)/\∀y,y∈x.2↔y∈l.take x.1) (λx=>[(4,.d (.int .i64 (x.1:Nat))),(3,.d (Bh x.2)),(0,.d (Bh l))]) (λ_=>[]) (λx=>l.length-x.1) (0,[]) (λ_=>rfl)
  ⟨⟨Am _,Ay _⟩,List.Pairwise.nil,by simp⟩ (.lax 3 rfl (.nils 1) (.refl _ _)) ⟨rfl,rfl,rfl,trivial⟩ trivial ?_
 rintro⟨i,s⟩ ⟨⟨hi,hsl⟩,hr,hm⟩
 dsimp only at hi hsl hr hm
 refine Ca ADi [] ?_
 by_cases hlt:i<l.length
 ·have hx:=Ab hlt
  generalize l[i]=x at hx
  have hxd:(l.map dI)[i]? =some (.int .i64 x):=by rw[Ad,hx];rfl
  (conv=>whnf)
  (repeat' ((first|refine Aj ?_ ?_|refine AO hxd rfl ?_|refine nx ?_|refine AB (λ_=>?_) (λ_=>?_)|exact AE)<;>conv=>whnf))
  refine AR rfl (lM s x hr (by omega)) ?_
  rintro y ⟨t,rfl,h1,h2,h3⟩
  ((conv=>whnf);repeat' ((first|refine odw ?_|refine nx ?_|refine AB (λ_=>?_) (λ_=>?_))<;>conv=>whnf))
  refine⟨(i+1,t),_,_,⟨⟨hlt,by dsimp only;omega⟩,h1,λy=>?_⟩,.refl _ _,⟨rfl,rfl,rfl,trivial⟩,trivial,by dsimp only;omega⟩
  dsimp only
  rw[h2,hm,Au,hx,AS,Ag,As]
  exact or_comm
 ·have hii:l.take i=l:=Ak (by omega)
  rw[hii]at hm
  have he:s=D3 l:=Hi hr (BG l).1 λx=>by rw[hm,(BG l).2]
  ((conv=>whnf);repeat' ((first|refine odw ?_|refine nx ?_|refine AB (λ_=>?_) (λ_=>?_))<;>conv=>whnf))
  rw[he]
  exact rfl
end Go.Proofs.YtjpmmkodoeipmaaGreatDoor
end
section
namespace Go.Proofs.YtjpmmkodoeipmaaGreatDoor
open Go.Sx Go.RowKit Go.Reg Go.Gr
set_option maxRecDepth 100000
def NT(P:List (List Int)):Da:=.list 1 (P.map Bh)
end Go.Proofs.YtjpmmkodoeipmaaGreatDoor
end
section
namespace Go.Proofs.YtjpmmkodoeipmaaGreatDoor
open Go.Sx Go.RowKit Go.Reg Go.Gr
set_option maxRecDepth 100000
theorem Ym(P:List (List Int))(g:FuncId)(cs:List Da)(p:List Int->Bool)(hm:P.length<=9223372036854775807)(hp:∀x∈P,Pure C1 g (Bh x::cs) (λy=>y=.bool (p x))):Pure C1 140 [NT P,.func (.func g) [] cs] (λy=>y=.int .i64 (NQ (P.findIdx? p))):=by
 have hl:(P.map Bh).length=P.length:=Ac _
 refine AU Tryz.func140 Tryz.ntmps140 [] [] ?_
 ((conv=>whnf);repeat' ((first|refine odw ?_|refine nx ?_|refine AB (λ_=>?_) (λ_=>?_))<;>conv=>whnf))
 refine AQ (ι:=Nat) (λi=>i<=P.length/\∀y∈P.take i,p y=false) (λi=>[(8,.d (.int .i64 i)),(7,.d (.int .i64 (P.map Bh).length)),(1,.d (.func (.func g) [] cs)),(0,.d (NT P))]) (λ_=>[]) (λi=>P.length-i) 0 (λ_=>rfl) ⟨Am _,by simp⟩ (.refl _ _) ⟨rfl,rfl,rfl,rfl,trivial⟩ trivial ?_
 rintro i ⟨hi,hne⟩
 refine Ca [] [] ?_
 by_cases hlt:i<P.length
 ·have hx:=Ab hlt
  generalize P[i]=y at hx
  have hxd:(P.map Bh)[i]? =some (.list 1 (y.map dI)):=by rw[Ad,hx];rfl
  have hpy:=hp y (A6 hx)
  cases hy:p y with
  |
   true=>
   rw[hy]at hpy
   rw[Yx hx hy hne]
   (conv=>whnf)
   (repeat' ((first|refine Aj ?_ ?_|refine AO hxd rfl ?_|refine Af (FR _ _) hpy ?_|refine nx ?_|refine AB (λ_=>?_) (λ_=>?_)|exact AE)<;>conv=>whnf))
   exact rfl
  |
   false=>
   rw[hy]at hpy
   (conv=>whnf)
   (repeat' ((first|refine Aj ?_ ?_|refine AO hxd rfl ?_|refine Af (FR _ _) hpy ?_|refine nx ?_|refine AB (λ_=>?_) (λ_=>?_)|exact AE)<;>conv=>whnf))
   refine⟨i+1,_,_,⟨hlt,?_⟩,.refl _ _,⟨rfl,rfl,rfl,rfl,trivial⟩,trivial,by omega⟩
   intro z hz
   rw[Au,hx]at hz
   rcases Ag.1 hz with hz|hz
   ·exact hne z hz
   ·simp at hz;subst hz;exact hy
 ·have hii:P.take i=P:=Ak (by omega)
  rw[hii]at hne
  rw[R1 hne]
  ((conv=>whnf);repeat' ((first|refine odw ?_|refine nx ?_|refine AB (λ_=>?_) (λ_=>?_))<;>conv=>whnf))
  exact rfl
end Go.Proofs.YtjpmmkodoeipmaaGreatDoor
end
