/- Merged: Pmk Pmg Lnm Qtp Qii Qta Qtb Pgx Vpl Lvp Lvs Lvj Lvw Dlg Vof Vta Vtc Lvx Lvo Lvk. -/
import Derived.Test.YtjpmmkodoeipmaaGreatDoorrkar
import Derived.Test.YtjpmmkodoeipmaaGreatDoorrkau
import Derived.Test.YtjpmmkodoeipmaaGreatDoorrkav
import Derived.Test.YtjpmmkodoeipmaaGreatDoorrkas
import Derived.Test.YtjpmmkodoeipmaaGreatDoorrkaq
section
namespace Go.Gr
def RF(f:Nat->Nat->Bool)(i k:Nat):List Edg:=((List.range k).filter λx=>f x i).map λx:Nat=>⟨(x:Int),(i:Int)⟩
def H5(f:Nat->Nat->Bool)(n:Nat):List Edg:=(List.range n).flatMap λi=>RF f i i
theorem tI(f:Nat->Nat->Bool)(i k:Nat):RF f i (k+1)=RF f i k++if f k i then[⟨(k:Int),(i:Int)⟩]else[]:=by
 unfold RF
 rw[D1,Ca,A7]
 congr 1
 by_cases hf:f k i<;>simp[hf]
theorem Vr(f:Nat->Nat->Bool)(n:Nat):H5 f (n+1)=H5 f n++RF f n n:=by simp[H5,D1]
theorem dQ(f:Nat->Nat->Bool)(i k:Nat):(RF f i k).length<=k:=by
 unfold RF
 rw[Ac]
 exact BH (CM _ _) (by simp)
theorem RE(f:Nat->Nat->Bool):∀n,(H5 f n).length<=n*n
 |0=>by simp[H5]
 |
  n+1=>by
  have h1:=RE f n
  have h2:=dQ f n n
  rw[Vr,Ah,Nat.mul_add,CV];omega
def Pj(E:List Edg)(l:List Int)(k i:Nat):Bool:=decide (turn ⟨(l[k]?).getD 0,(l[i]?).getD 0⟩∈E)
end Go.Gr
namespace Go.Proofs.YtjpmmkodoeipmaaGreatDoor
open Go.Sx Go.RowKit Go.Reg Go.Gr
set_option maxRecDepth 100000
def LD:ByteArray:=⟨#[108,105,115,116]⟩
def dP0:Da:=.agg [.nils,.nils]
def ADi:List FuncId:=[223]
theorem PI(G:Gr)(l:List Int)(hl:l.length<=100000):Pure C1 160 [dG G,Bn l] (λy=>y=Bn (l.map (ES G))):=by
 have hdl:(l.map dI).length=l.length:=Ac _
 refine AW Tryz.func160 Tryz.ntmps160 ADi [] ?_
 ((conv=>whnf);repeat' ((first|refine odw ?_|refine nx ?_|refine AD (λ_=>?_) (λ_=>?_))<;>conv=>whnf))
 refine AR (ι:=Nat) (λi=>i<=l.length) (λi=>[(10,.d (.int .i64 i)),(9,.d (.int .i64 l.length)),(8,.d (Bn l)),(5,.own 300),(0,.d (dG G))]) (λi=>[(300,.slice 3 1 (((l.take i).map (ES G)).map dI))]) (λi=>l.length-i) 0 (λ_=>rfl) (Am _) (.own 5 300 3 1 rfl rfl (.refl _ _)) ⟨rfl,by rw[<-hdl];rfl,rfl,rfl,rfl,trivial⟩ ⟨rfl,trivial⟩ ?_
 intro i hi
 refine Cd ADi [] ?_
 by_cases hil:i<l.length
 ·have hx:=Ab hil
  generalize l[i]=x at hx
  have hxd:(l.map dI)[i]? =some (.int .i64 x):=by rw[Ad,hx];rfl
  have hlb:=jO G x
  have hll:(((l.take i).map (ES G)).map dI).length=i:=by simp only[Ac,AA];omega
  (conv=>whnf)
  (repeat' ((first|refine Aj ?_ ?_|refine AP hxd rfl ?_|refine Br tab rfl hlb rfl ?_|refine nx ?_|refine AD (λ_=>?_) (λ_=>?_)|exact AG)<;>conv=>whnf))
  refine⟨i+1,_,_,by omega,.refl _ _,⟨rfl,rfl,rfl,rfl,rfl,trivial⟩,⟨Bk ?_,trivial⟩,by omega⟩
  rw[Ay,hx];simp[dI]
 ·have e:l.take i=l:=Al (by omega)
  rw[e]
  ((conv=>whnf);repeat' ((first|refine odw ?_|refine nx ?_|refine AD (λ_=>?_) (λ_=>?_))<;>conv=>whnf))
  exact rfl
def AAJ:List FuncId:=[161,162,160,159]
set_option maxHeartbeats 4000000 in
theorem gX(G:Gr)(hG:G.Ok)(l:List Int)(q:Pt)(hmk:l.length<=8->C6 G l=true->Pure C1 159 [Bn (l.map (ES G)),Fa (H5 (Pj G.edges l) l.length)] (λy=>y=.tuple [FE q,.nili]))(hm:l.length<=9000000000000000000):
  Pure C1 111 [dG G,Bn l] (λy=>y=if 8<l.length then .tuple [dP0,dF 6 0 LD]else if C6 G l=false then .tuple [dP0,dF 2 0 LD]else .tuple [FE q,.nili]):=by
 have hdl:(l.map dI).length=l.length:=Ac _
 have hlk:=bA G hG l
 refine AW Tryz.func111 Tryz.ntmps111 AAJ [] ?_
 by_cases h8:8<l.length
 ·rw[if_pos h8]
  (conv=>whnf)
  (repeat' ((first|refine Aj ?_ ?_|refine Af rfl (CG 6 0 LD) ?_|refine nx ?_|refine AD (λ_=>?_) (λ_=>?_)|exact AG)<;>conv=>whnf))
  exact rfl
 rw[if_neg h8]
 cases hl:C6 G l with
 |
  false=>
  rw[hl]at hlk
  rw[if_pos rfl]
  (conv=>whnf)
  (repeat' ((first|refine Aj ?_ ?_|refine Af rfl hlk ?_|refine Af rfl (CG 2 0 LD) ?_|refine nx ?_|refine AD (λ_=>?_) (λ_=>?_)|exact AG)<;>conv=>whnf))
  exact rfl
 |
  true=>
  rw[hl]at hlk
  rw[if_neg (by decide)]
  have hmk:=hmk (by omega) hl
  have hql:=PI G l (by omega)
  have hcl:=RE (Pj G.edges l)
  have hsq:l.length*l.length<=8*8:=DO (by omega) (by omega)
  (conv=>whnf)
  (repeat' ((first|refine Aj ?_ ?_|refine Af rfl hlk ?_|refine nx ?_|refine AD (λ_=>?_) (λ_=>?_)|exact AG)<;>conv=>whnf))
  refine AR (ι:=Nat) (λi=>i<=l.length) (λi=>[(26,.d (.int .i64 i)),(25,.d (.int .i64 l.length)),(24,.d (Bn l)),(6,.own 300),(4,.own 4),(1,.d (Bn l)),(0,.d (dG G))]) (λi=>[(4,.cells 54 [.d .nils,.d .nils]),(300,.slice 90 2 ((H5 (Pj G.edges l) i).map dE))]) (λi=>l.length-i) 0 (λ_=>rfl) (Am _) (.own 6 300 90 2 rfl rfl (.refl _ _)) ⟨rfl,by rw[<-hdl];rfl,rfl,rfl,rfl,rfl,rfl,trivial⟩ ⟨rfl,rfl,trivial⟩ ?_
  intro i hi
  refine Cd AAJ [] ?_
  by_cases hil:i<l.length
  ·have hx:=Ab hil
   have hadj:∀k u,l[k]? =some u->Pj G.edges l k i=decide (turn ⟨u,l[i]⟩∈G.edges):=λk u hk=>by unfold Pj;rw[hk,hx];rfl
   generalize l[i]=x at hx hadj
   have hxd:(l.map dI)[i]? =some (.int .i64 x):=by rw[Ad,hx];rfl
   have hsub:(l.map dI).take i=(l.take i).map dI:=by rw[Gn]
   have htl:((l.map dI).take i).length=i:=by rw[AA];omega
   have hci:=hcl i
   have hii:i*i<=8*8:=DO (by omega) (by omega)
   (conv=>whnf)
   (repeat' ((first|refine Aj ?_ ?_|refine AP hxd rfl ?_|refine MB rfl (show i<=(l.map dI).length by omega) ?_|refine nx ?_|refine AD (λ_=>?_) (λ_=>?_)|exact AG)<;>conv=>whnf))
   refine AR (ι:=Nat) (λk=>k<=i) (λk=>[(35,.d (.int .i64 k)),(34,.d (.int .i64 i)),(33,.d (.list 1 ((l.map dI).take i))),(26,.d (.int .i64 i)),(25,.d (.int .i64 l.length)),(24,.d (Bn l)),(8,.d (.int .i64 x)),(7,.d (.int .i64 i)),(6,.own 300),(4,.own 4),(1,.d (Bn l)),(0,.d (dG G))]) (λk=>[(4,.cells 54 [.d .nils,.d .nils]),(300,.slice 90 2 ((H5 (Pj G.edges l) i++RF (Pj G.edges l) i k).map dE))]) (λk=>i-k) 0 (λ_=>rfl) (Am _) (.refl _ _) ⟨rfl,OK (by rw[htl]),rfl,rfl,rfl,rfl,rfl,rfl,rfl,rfl,rfl,rfl,trivial⟩ ⟨rfl,by rw[show RF (Pj G.edges l) i 0=[]from rfl,Cg];rfl,trivial⟩ ?_
   intro k hk
   refine Cd AAJ [] ?_
   by_cases hki:k<i
   ·have hy:=Ab (l:=l) (i:=k) (by omega)
    generalize l[k]'(by omega)=u at hy
    have hyd:((l.map dI).take i)[k]? =some (.int .i64 u):=by rw[CY,if_pos hki,Ad,hy];rfl
    have hh:=WX G hG u x
    have hst:=tI (Pj G.edges l) i k
    rw[hadj k u hy]at hst
    have hkl:=dQ (Pj G.edges l) i k
    have hol:((H5 (Pj G.edges l) i++RF (Pj G.edges l) i k).map dE).length<=1000:=by rw[Ac,Ah];omega
    by_cases hd:turn ⟨u,x⟩∈G.edges
    ·rw[decide_eq_true hd]at hh hst
     rw[if_pos rfl]at hst
     (conv=>whnf)
     (repeat' ((first|refine Aj ?_ ?_|refine AP hyd rfl ?_|refine Br tab rfl hh rfl ?_|refine nx ?_|refine AD (λ_=>?_) (λ_=>?_)|exact AG)<;>conv=>whnf))
     refine⟨k+1,_,_,by omega,.refl _ _,⟨rfl,rfl,rfl,rfl,rfl,rfl,rfl,rfl,rfl,rfl,rfl,rfl,trivial⟩,⟨rfl,Bk ?_,trivial⟩,by omega⟩
     rw[hst];simp[dE]
    ·rw[decide_eq_false hd]at hh hst
     rw[if_neg (by decide),Cg]at hst
     (conv=>whnf)
     (repeat' ((first|refine Aj ?_ ?_|refine AP hyd rfl ?_|refine Br tab rfl hh rfl ?_|refine nx ?_|refine AD (λ_=>?_) (λ_=>?_)|exact AG)<;>conv=>whnf))
     exact⟨k+1,_,_,by omega,.refl _ _,⟨rfl,rfl,rfl,rfl,rfl,rfl,rfl,rfl,rfl,rfl,rfl,rfl,trivial⟩,⟨rfl,Bk (by rw[hst]),trivial⟩,by omega⟩
   ·have hke:k=i:=by omega
    subst hke
    ((conv=>whnf);repeat' ((first|refine odw ?_|refine nx ?_|refine AD (λ_=>?_) (λ_=>?_))<;>conv=>whnf))
    exact⟨k+1,_,_,by omega,.refl _ _,⟨rfl,rfl,rfl,rfl,rfl,rfl,rfl,trivial⟩,⟨rfl,Bk (by rw[Vr]),trivial⟩,by omega⟩
  ·have hie:i=l.length:=by omega
   subst hie
   (conv=>whnf)
   (repeat' ((first|refine Aj ?_ ?_|refine Dx 300 rfl ?_|refine Af rfl hql ?_|refine Af rfl hmk ?_|refine nx ?_|refine AD (λ_=>?_) (λ_=>?_)|exact AG)<;>conv=>whnf))
   exact rfl
end Go.Proofs.YtjpmmkodoeipmaaGreatDoor
end
section
namespace Go.Proofs.YtjpmmkodoeipmaaGreatDoor
open Go.Sx Go.RowKit Go.Reg Go.Gr
set_option maxRecDepth 100000
theorem RB {O:List Nat} {w:World}:∀{l:List Edg} {css:List (List Value)},Aq O w (l.map dE) css->css=l.map Cr
 |[],css,h=>by simpa only[Bu,Aq]using h
 |
  e::l,css,h=>by
  simp only[Ar,Aq,dE,RepC,RepCs]at h
  obtain⟨c1,c2,rfl,⟨a1,a2,rfl,rfl,b1,b2,rfl,rfl,rfl⟩,h⟩:=h
  rw[RB h];rfl
theorem Vq(O:List Nat)(w:World):∀l:List Edg,Aq O w (l.map dE) (l.map Cr)
 |[]=>by simp[Aq]
 |
  e::l=>by
  simp only[Ar,Aq,dE,RepC,RepCs]
  exact⟨_,_,rfl,⟨_,_,rfl,rfl,_,_,rfl,rfl,rfl⟩,Vq O w l⟩
theorem Xj {E:Nat} {w:World} {v:Value} {l:List Edg}:Sl E 2 id w v (l.map Cr)↔Sl E 2 Cr w v l:=by
 unfold Sl
 rw[Ac,G0]
 exact SD
theorem jW(l:List Edg)(hl:l.length<=4294967296)(e:Edg)(i:Nat)(hi:i<=l.length):
  VA C1 222 90 2 (l.map dE) [.int .i64 i,.list 2 [dE e]] (λds=>ds=(l.take i++e::l.drop i).map dE):=by
 intro O w v css us hs hb hO hr hk hg hus
 obtain rfl:=RB hr
 obtain⟨v1,vs,rfl,h1,h2⟩:=Cn hus
 obtain⟨v2,vs2,rfl,h3,h4⟩:=Cn h2
 obtain rfl:=Ds h4
 obtain rfl:=EZ h1
 obtain⟨cs,r,rfl⟩:=h3
 simp only[RepC]at r
 obtain⟨a,cap,css,rfl,hlc,hcm,hcs,hrow,hd⟩:=r
 have hcs':css=[Cr e]:=RB (l:=[e]) hcs
 subst hcs'
 rcases hd with hd|⟨vb,vo,rfl,hvb,hvl,hcell⟩
 ·cases hd
 refine⟨enters_of Tryz.func222 (by kernel_rfl) rfl _ _,?_⟩
 refine(sF v l e i hi w (Xj.1 hs) hl vb vo cap (λhm=>hvb (hb vb hm)) (λj u hj=>hcell j u (by simpa using hj))).mono ?_
 rintro x w' ⟨v',rfl,hs',ht,hb'⟩
 refine⟨v',_,(l.take i++e::l.drop i).map Cr,rfl,rfl,Xj.2 hs',hb',Vq _ _ _,λy hy=>?_,ht⟩
 obtain⟨z,_,rfl⟩:=An.1 hy
 exact⟨IQ z,IP z⟩
theorem Yz(l:List Edg):GL (l.map dE)=true:=HQ _ (λ_=>rfl) _
def xD:List (Nat×Plan):=[(8,.leaf [0,1,1,2,2,0,0,0,0,0] [0,1,2,3,4,5,6,7,8,9] [0,1,0,4,15,31,63,63,127,511]),
 (13,.leaf [0,1,0,1,2,6,3,0,3] [0,2,1,3,4,5,6,7,8] [0,1,0,0,8,24,63,127,255])]
def ADn:List FuncId:=[221,220,166]
set_option maxHeartbeats 4000000 in
theorem Uo(l:List Int)(hl:M6 l=none)(E:List Edg)(hE:E.length<=1000)(hw:∀e∈E,(0<=min e.a e.b/\max e.a e.b<(l.length:Int))/\e.a≠e.b)(hn:(E.map turn).Nodup):
  Pure C1 159 [Bn l,Fa E] (λy=>y=.tuple [FE ⟨l,(E.map turn).foldl LK []⟩,.nili]):=by
 have hdl:(l.map dI).length=l.length:=Ac _
 have hdE:(E.map dE).length=E.length:=Ac _
 have h8:=(CS hl).1
 have hlb:=PN l (by omega)
 rw[show Gy l=.nili by unfold Gy;rw[hl]]at hlb
 refine AW Tryz.func159 Tryz.ntmps159 ADn xD ?_
 (conv=>whnf)
 (repeat' ((first|refine Aj ?_ ?_|refine Af rfl hlb ?_|refine nx ?_|refine AD (λ_=>?_) (λ_=>?_)|exact AG)<;>conv=>whnf))
 refine EH 19 rfl rfl (It l (by omega)) ?_
 rintro ds rfl
 ((conv=>whnf);repeat' ((first|refine odw ?_|refine nx ?_|refine AD (λ_=>?_) (λ_=>?_))<;>conv=>whnf))
 refine AR (ι:=Nat) (λi=>i<=E.length) (λi=>[(23,.d (.int .i64 i)),(22,.d (.int .i64 E.length)),(21,.d (Fa E)),(7,.own 7),(4,.own 4),(0,.d (Bn l))]) (λi=>[(4,.cells 54 [.d .nils,.d .nils]),(7,.cells 54 [.d (Bn l),.own 300]),(300,.slice 90 2 ((KM E i).map dE))]) (λi=>E.length-i) 0 (λ_=>rfl) (Am _) (.frz 19 rfl (.ownc 7 300 90 2 rfl rfl (.there _ (.here _)) (.refl _ _))) ⟨rfl,by rw[<-hdE];rfl,rfl,rfl,rfl,rfl,trivial⟩ ⟨rfl,rfl,rfl,trivial⟩ ?_
 intro i hi
 refine Cd ADn xD ?_
 obtain⟨hst,hpe⟩:=ACA hn i
 have hal:(KM E i).length=i:=by rw[hpe.length_eq,Ac,AA];omega
 have hald:((KM E i).map dE).length=i:=by rw[Ac,hal]
 by_cases hil:i<E.length
 ·have hx:=Ab hil
  have hxw:=hw E[i] (Bc hil)
  have hstep:=uD hx
  have hnot:turn E[i]∉KM E i:=λhm=>by
   have:=hpe.mem_iff.1 hm
   rw[Gn]at this
   obtain⟨j,hj,he⟩:=Bd.1 this
   have hj':j<i:=by omega
   have hij:(E.map turn)[j]? =(E.map turn)[i]? :=by
    rw[Ab (by simp;omega),Ab (by simp;omega),he];simp
   have:=(FL (by simp;omega) hn).1 hij
   omega
  generalize E[i]=x at hx hxw hstep hnot
  have hxd:(E.map dE)[i]? =some (.agg [.int .i64 x.a,.int .i64 x.b]):=by rw[Ad,hx];rfl
  have htu:=Lg x
  have hbs:=Ol _ Mn (KM E i) hst (by omega) (turn x)
  rw[decide_eq_false hnot]at hbs
  have hwi:=RV x l.length
  rw[decide_eq_true hxw.1,<-hdl]at hwi
  have hlt:=ADU (KM E i) (turn x)
  have hin:=jW (KM E i) (by omega) (turn x) (Jn (KM E i) (turn x)) hlt
  rw[show(KM E i).take (Jn (KM E i) (turn x))++turn x::(KM E i).drop (Jn (KM E i) (turn x))=KM E (i+1)from hstep.symm]at hin
  have hne:=hxw.2
  (conv=>whnf)
  (repeat' ((first|refine Aj ?_ ?_|refine AP hxd rfl ?_|refine Af rfl htu ?_|refine Br tab rfl hbs rfl ?_|refine Af rfl hwi ?_|refine Dx 62 rfl ?_|refine nx ?_|refine AD (λ_=>?_) (λ_=>?_)|exact AG)<;>conv=>whnf))
  refine Xp tab rfl rfl hin (λds h=>by subst h;exact Yz _) ?_
  rintro ds rfl
  ((conv=>whnf);repeat' ((first|refine odw ?_|refine nx ?_|refine AD (λ_=>?_) (λ_=>?_))<;>conv=>whnf))
  exact⟨i+1,_,_,by omega,.refl _ _,⟨rfl,rfl,rfl,rfl,rfl,rfl,trivial⟩,⟨rfl,rfl,rfl,trivial⟩,by omega⟩
 ·have hie:i=E.length:=by omega
  subst hie
  have e:KM E E.length=(E.map turn).foldl LK []:=by unfold KM;rw[Ez]
  rw[e]
  ((conv=>whnf);repeat' ((first|refine odw ?_|refine nx ?_|refine AD (λ_=>?_) (λ_=>?_))<;>conv=>whnf))
  exact rfl
end Go.Proofs.YtjpmmkodoeipmaaGreatDoor
end
section
namespace Go.Proofs.YtjpmmkodoeipmaaGreatDoor
open Go.Gr
theorem jC {E:List Edg} {l:List Int} {e:Edg}:e∈Cw E l↔∃m:Nat,(m:Int)∈l/\E[m]? =some e:=by
 simp only[Cw,List.mem_filterMap]
 constructor
 ·rintro⟨x,hx,h⟩
  split at h
  ·rename_i hr
   obtain⟨m,rfl⟩:=A6 hr.1
   exact⟨m,hx,by simpa using h⟩
  ·cases h
 ·rintro⟨m,hm,h⟩
  have:=(Ae.1 h).1
  exact⟨m,hm,by rw[if_pos ⟨by omega,by omega⟩,AY];exact h⟩
theorem turn_nat {u m:Nat}(h:u≠m):(u<m/\turn ⟨(u:Int),(m:Int)⟩=⟨(u:Int),(m:Int)⟩)\/(m<u/\turn ⟨(u:Int),(m:Int)⟩=⟨(m:Int),(u:Int)⟩):=by
 rcases Nat.lt_or_gt_of_ne h with h|h
 ·exact .inl ⟨h,by unfold turn;simp only[Edg.mk.injEq];omega⟩
 ·exact .inr ⟨h,by unfold turn;simp only[Edg.mk.injEq];omega⟩
theorem oW {E:List Edg} {u m:Nat}(h:u≠m)(hu:u<E.length)(hm:m<E.length):turn ⟨(u:Int),(m:Int)⟩∈Kd E E.length↔tch E u m=true:=by
 rw[Nk]
 rcases turn_nat h with⟨h1,h2⟩|⟨h1,h2⟩<;>rw[h2]
 ·constructor
  ·rintro⟨a,b,_,_,_,ht,e⟩
   simp only[Edg.mk.injEq]at e
   rw[show u=a by omega,show m=b by omega];exact ht
  ·exactλht=>⟨u,m,hu,hm,h1,ht,rfl⟩
 ·constructor
  ·rintro⟨a,b,_,_,_,ht,e⟩
   simp only[Edg.mk.injEq]at e
   rw[show m=a by omega,show u=b by omega,mC];exact ht
  ·exactλht=>⟨m,u,hm,hu,h1,by rw[mC];exact ht,rfl⟩
theorem WQ {G:Gr} {l:List Int}(h:C6 G l=true) {k:Nat} {v:Int}(hx:l[k]? =some v):DR G l k v=true:=by
 cases hh:DR G l k v with
 |true=>rfl
 |false=>rw[Ge hx hh]at h;cases h
theorem yY {G:Gr} {v:Int}:Gg (IF G) v=decide (0<=v/\v<G.edges.length):=by simp[Gg,IF]
theorem OH {G:Gr} {l:List Int} {i:Nat} {v:Int}(h:¬(0<=v/\v<G.edges.length)\/v∈l.take i):DR (IF G) l i v=false:=by
 unfold DR
 rw[yY]
 rcases h with h|h<;>simp[h]
end Go.Proofs.YtjpmmkodoeipmaaGreatDoor
end
section
namespace Go.Gr
theorem Z6(f:Nat->Nat->Bool)(a b:Nat):CB (vZ f a b):=by
 unfold CB vZ
 rw[B7]
 refine Pp ?_ (List.Pairwise.filter _ AAE)
 intro x y h
 rw[F9]
 exact .inr ⟨rfl,by show(x:Int)<y;omega⟩
theorem Lc(f:Nat->Nat->Bool)(n a:Nat):CB (Z1 f n a):=by
 unfold Z1 CB
 rw[ACD]
 refine⟨λj _=>Z6 f j n,Pp ?_ AAE⟩
 intro i j hij x hx y hy
 simp only[vZ,An]at hx hy
 obtain⟨_,_,rfl⟩:=hx
 obtain⟨_,_,rfl⟩:=hy
 rw[F9]
 exact .inl (by show(i:Int)<j;omega)
theorem Rv {f:Nat->Nat->Bool} {n:Nat} {e:Edg}:e∈H5 f n↔∃k i:Nat,i<n/\k<i/\f k i=true/\e=⟨(k:Int),(i:Int)⟩:=by
 simp only[H5,RF,AL,AM,An,Az]
 constructor
 ·rintro⟨i,hi,k,⟨h1,h2⟩,rfl⟩;exact⟨k,i,hi,h1,h2,rfl⟩
 ·rintro⟨k,i,hi,h1,h2,rfl⟩;exact⟨i,hi,k,⟨h1,h2⟩,rfl⟩
theorem S7(f:Nat->Nat->Bool)(n:Nat):(H5 f n).Nodup:=by
 unfold H5 List.Nodup
 rw[ACD]
 refine⟨λi _=>?_,Pp ?_ AAE⟩
 ·unfold RF
  rw[B7]
  refine Pp ?_ (List.Pairwise.filter _ AAE)
  intro x y h e
  have:(x:Int)=y:=congrArg Edg.a e
  omega
 ·intro i j hij x hx y hy e
  simp only[RF,An]at hx hy
  obtain⟨a,_,rfl⟩:=hx
  obtain⟨b,_,rfl⟩:=hy
  have:(i:Int)=j:=congrArg Edg.b e
  omega
theorem nK {L R:List Edg}(hn:(L.map turn).Nodup)(hR:CB R)(h:∀x,x∈L.map turn↔x∈R):(L.map turn).foldl LK []=R:=by
 obtain⟨h1,h2⟩:=MG _ hn [] List.Pairwise.nil (by simp)
 refine NX h1 hR λx=>?_
 rw[h2.mem_iff,Cg]
 exact h x
theorem OT(f:Nat->Nat->Bool)(n:Nat):(H5 f n).map turn=H5 f n:=by
 have:∀e∈H5 f n,turn e=id e:=λe he=>by
  obtain⟨k,i,_,h,_,rfl⟩:=Rv.1 he
  exact MZ (show(k:Int)<=i by omega)
 rw[FY this,List.map_id]
theorem ABc(x y:Int):turn ⟨x,y⟩=⟨x,y⟩\/turn ⟨x,y⟩=⟨y,x⟩:=by
 unfold turn;simp only[Edg.mk.injEq];omega
theorem rT {E:List Edg}(hE:∀e∈E,e.a<e.b)(l:List Int):((H5 (Pj E l) l.length).map turn).foldl LK []=UC E l:=by
 refine nK (by rw[OT];exact S7 _ _) (Lc _ _ _) λx=>?_
 rw[OT,Rv]
 unfold UC
 rw[Rs]
 constructor
 ·rintro⟨k,i,h1,h2,h3,rfl⟩
  exact⟨k,i,by omega,h1,h2,by unfold Ww;rw[K7 hE];exact h3,rfl⟩
 ·rintro⟨j,x,h0,h1,h2,h3,rfl⟩
  unfold Ww at h3
  rw[K7 hE]at h3
  exact⟨j,x,h1,h2,h3,rfl⟩
theorem jY {l:List Int} {x:Int}(h:x∈l):∃i:Nat,i<l.length/\l[i]? =some x/\SH l x=i:=by
 have hs:(l.findIdx? λy=>decide (x=y)).isSome=true:=by
  rw[List.findIdx?_isSome,Cp];exact⟨x,h,by simp⟩
 obtain⟨i,hi⟩:=Option.isSome_iff_exists.1 hs
 have hi':=hi
 rw[Ba]at hi'
 obtain⟨h1,h2,_⟩:=hi'
 have h2:x=l[i]:=by simpa using h2
 exact⟨i,h1,by rw[Ab h1,<-h2],by unfold SH;rw[hi]⟩
theorem nU {l:List Int}(hn:l.Nodup) {i:Nat} {x:Int}(h:l[i]? =some x):SH l x=i:=by
 obtain⟨j,hj,h2,h3⟩:=jY (A8 h)
 rw[h3]
 have:=(FL hj hn).1 (h2.trans h.symm)
 omega
def atE(v:List Int)(e:Edg):Edg:=⟨SH v e.a,SH v e.b⟩
theorem YD {v:List Int}(_hn:v.Nodup) {e:Edg}(h:e.a<e.b)(ha:e.a∈v)(hb:e.b∈v):∃i j:Nat,i<v.length/\j<v.length/\v[i]? =some e.a/\v[j]? =some e.b/\i≠j/\atE v e=⟨(i:Int),(j:Int)⟩:=by
 obtain⟨i,h1,h2,h3⟩:=jY ha
 obtain⟨j,h4,h5,h6⟩:=jY hb
 refine⟨i,j,h1,h4,h2,h5,λe'=>?_,by unfold atE;rw[h3,h6]⟩
 subst e'
 rw[h2]at h5
 have:=Ce h5
 omega
theorem yU {E:List Edg}(hE:∀e∈E,e.a<e.b)(hn:E.Nodup)(v:List Int)(hv:v.Nodup)(hin:∀e∈E,e.a∈v/\e.b∈v):
  (((E.map (atE v)).map turn).Nodup)/\((E.map (atE v)).map turn).foldl LK []=UC E v:=by
 have hnd:((E.map (atE v)).map turn).Nodup:=by
  rw[EE]
  refine B7.2 (Er ?_ hn)
  intro x y hx hy hxy h
  refine hxy ?_
  simp only[Function.comp]at h
  obtain⟨i,j,h1,h2,h3,h4,h5,h6⟩:=YD hv (hE x hx) (hin x hx).1 (hin x hx).2
  obtain⟨i2,j2,k1,k2,k3,k4,k5,k6⟩:=YD hv (hE y hy) (hin y hy).1 (hin y hy).2
  rw[h6,k6]at h
  have hxl:=hE x hx
  have hyl:=hE y hy
  have hcase:(i=i2/\j=j2)\/(i=j2/\j=i2):=by
   unfold turn at h;simp only[Edg.mk.injEq]at h;omega
  rcases hcase with⟨rfl,rfl⟩|⟨rfl,rfl⟩
  ·rw[h3]at k3;rw[h4]at k4
   have e1:=Ce k3;have e2:=Ce k4
   cases x;cases y;simp_all
  ·rw[h3]at k4;rw[h4]at k3
   have e1:=Ce k3;have e2:=Ce k4
   omega
 refine⟨hnd,nK hnd (Lc _ _ _) λx=>?_⟩
 unfold UC
 rw[Rs]
 simp only[EE,An,Function.comp]
 constructor
 ·rintro⟨e,he,rfl⟩
  obtain⟨i,j,h1,h2,h3,h4,h5,h6⟩:=YD hv (hE e he) (hin e he).1 (hin e he).2
  have ht:turn e=e:=MZ (Int.le_of_lt (hE e he))
  rw[h6]
  rcases Go.Proofs.YtjpmmkodoeipmaaGreatDoor.turn_nat h5 with⟨h7,h8⟩|⟨h7,h8⟩<;>rw[h8]
  ·refine⟨i,j,h1,h2,h7,?_,rfl⟩
   unfold Ww;rw[K7 hE,h3,h4]
   simp only[Gz,decide_eq_true_eq]
   rw[show(⟨e.a,e.b⟩:Edg)=e from rfl,ht];exact he
  ·refine⟨j,i,h2,h1,h7,?_,rfl⟩
   unfold Ww;rw[K7 hE,h3,h4]
   simp only[Gz,decide_eq_true_eq]
   rw[Ii,show(⟨e.a,e.b⟩:Edg)=e from rfl,ht];exact he
 ·rintro⟨j,x,h0,h1,h2,h3,rfl⟩
  unfold Ww at h3
  rw[K7 hE,decide_eq_true_eq]at h3
  have hj:=Ab h0
  have hx:=Ab h1
  refine⟨_,h3,?_⟩
  have g1:=nU hv hj
  have g2:=nU hv hx
  rw[hj,hx]at h3⊢
  simp only[Gz]at h3⊢
  rcases ABc v[j] v[x]with e|e<;>rw[e]<;>unfold atE<;>simp only[g1,g2]
  ·exact MZ (show(j:Int)<=x by omega)
  ·rw[Ii];exact MZ (show(j:Int)<=x by omega)
end Go.Gr
end
section
namespace Go.Proofs.YtjpmmkodoeipmaaGreatDoor
open Go.Sx Go.RowKit Go.Reg Go.Gr
set_option maxRecDepth 100000
theorem oZ {G:Gr} {u m:Nat}(hu:u<G.edges.length)(hm:m<G.edges.length)(h:u≠m):Iy G.edges u m=I1 (IF G).edges m u:=by
 rw[fT]
 unfold I1 IF
 rw[CJ,decide_eq_true_eq]
 exact(oW h hu hm).symm
theorem uA {G:Gr} {t:List Int} {m:Nat}(hm:m<G.edges.length)(hn:¬(m:Int)∈t)(ht:∀u∈t,0<=u/\u<G.edges.length):t.any (λu=>Iy G.edges u m)=t.any (I1 (IF G).edges m):=by
 rw[CJ,Cp,Cp]
 have key:∀u∈t,Iy G.edges u m=I1 (IF G).edges m u:=λu hu=>by
  obtain⟨h1,h2⟩:=ht u hu
  obtain⟨k,rfl⟩:=A6 h1
  exact oZ (by omega) hm (λe=>hn (by subst e;exact hu))
 constructor
 ·rintro⟨u,hu,h⟩;exact⟨u,hu,by rw[<-key u hu];exact h⟩
 ·rintro⟨u,hu,h⟩;exact⟨u,hu,by rw[key u hu];exact h⟩
def AEp:List FuncId:=[149]
theorem SG(l:List Int)(g:FuncId)(cs:List Da)(p:Int->Bool)(hp:∀x∈l,Pure C1 g (.int .i64 x::cs) (λy=>y=.bool (p x))):Pure C1 153 [Bn l,.func (.func g) [] cs] (λy=>y=.bool (l.any p)):=by
 refine AW Tryz.func153 Tryz.ntmps153 AEp [] ?_
 (conv=>whnf)
 (repeat' ((first|refine Aj ?_ ?_|refine Af rfl (JF l g cs p hp) ?_|refine nx ?_|refine AD (λ_=>?_) (λ_=>?_)|exact AG)<;>conv=>whnf))
 show Da.plain _=_
 have:=Qj l p
 cases h:l.any p<;>simp[Da.plain,this,h]
def AEq:List FuncId:=[219]
theorem qJ(G:Gr)(id u:Int):Pure C1 218 [.int .i64 u,.ref (dG G),.ref (.int .i64 id)] (λy=>y=.bool (Iy G.edges u id)):=by
 refine AW Tryz.func218 Tryz.ntmps218 AEq [] ?_
 (conv=>whnf)
 (repeat' ((first|refine Aj ?_ ?_|refine Af rfl (fS G u id) ?_|refine nx ?_|refine AD (λ_=>?_) (λ_=>?_)|exact AG)<;>conv=>whnf))
 exact rfl
def wY:List (Nat×Plan):=[(5,.leaf [0,0,0,0,0,0,1,2,0] [0,1,2,3,4,5,6,7,8] [0,1,3,7,7,31,7,127,255])]
def ADh:List FuncId:=[217,152,153]
set_option maxHeartbeats 4000000 in
theorem XN(G:Gr)(l:List Int):Pure C1 155 [dG G,Bn l] (λy=>y=.bool (C6 (IF G) l)):=by
 refine Pure.assume (λO w us hr=>by obtain⟨v,vs,rfl,h1,h2⟩:=Cn hr;obtain⟨v2,vs2,rfl,h3,_⟩:=Cn h2;exact M8 h3) λhm=>?_
 have hl:(l.map dI).length=l.length:=Ac _
 refine AW Tryz.func155 Tryz.ntmps155 ADh wY ?_
 ((conv=>whnf);repeat' ((first|refine odw ?_|refine nx ?_|refine AD (λ_=>?_) (λ_=>?_))<;>conv=>whnf))
 refine AR (ι:=Nat) (λi=>i<=l.length/\∀(j:Nat) (v:Int),j<i->l[j]? =some v->DR (IF G) l j v=true) (λi=>[(11,.d (.int .i64 i)),(10,.d (.int .i64 (l.map dI).length)),(9,.d (Bn l)),(2,.own 2),(1,.d (Bn l))]) (λ_=>[(2,.cells 28 [.d (dG G)])]) (λi=>l.length-i) 0 (λ_=>rfl) ⟨Am _,by intro j v h;omega⟩ (.refl _ _) ⟨rfl,rfl,rfl,rfl,rfl,trivial⟩ ⟨rfl,trivial⟩ ?_
 rintro i ⟨hi,hne⟩
 refine Cd ADh wY ?_
 by_cases hlt:i<l.length
 ·have hx:=Ab hlt
  generalize l[i]=y at hx
  have hxd:(l.map dI)[i]? =some (.int .i64 y):=by rw[Ad,hx];rfl
  have h1:=KF G y
  have h2:=Ie (l.take i) y
  rw[Qz]at h2
  have hi2:i<=(l.map dI).length:=by omega
  by_cases hv:0<=y/\y<G.edges.length
  ·obtain⟨m,rfl⟩:=A6 hv.1
   have hml:m<G.edges.length:=by omega
   have he:=Ab hml
   generalize G.edges[m]=x at he
   have ey:Fk G.edges m=.tuple [dE x,.bool true]:=by unfold Fk;rw[if_pos hv,AY,he];rfl
   rw[ey]at h1
   have hhv:Gg (IF G) m=true:=by rw[yY,decide_eq_true hv]
   by_cases hc:(m:Int)∈l.take i
   ·rw[decide_eq_true hc]at h2
    rw[Ge hx (OH (.inr hc))]
    (conv=>whnf)
    (repeat' ((first|refine Aj ?_ ?_|refine AP hxd rfl ?_|refine Br tab rfl h1 rfl ?_|refine MB rfl hi2 ?_|refine Br tab rfl h2 rfl ?_|refine nx ?_|refine AD (λ_=>?_) (λ_=>?_)|exact AG)<;>conv=>whnf))
    exact rfl
   ·rw[decide_eq_false hc]at h2
    by_cases h0:i=0
    ·have hyes:DR (IF G) l i m=true:=by simp[DR,hhv,h0]
     (conv=>whnf)
     (repeat' ((first|refine Aj ?_ ?_|refine AP hxd rfl ?_|refine Br tab rfl h1 rfl ?_|refine MB rfl hi2 ?_|refine Br tab rfl h2 rfl ?_|refine nx ?_|refine AD (λ_=>?_) (λ_=>?_)|exact AG)<;>conv=>whnf))
     refine⟨i+1,_,_,⟨hlt,?_⟩,.refl _ _,⟨rfl,rfl,rfl,rfl,rfl,trivial⟩,⟨rfl,trivial⟩,by omega⟩
     intro j v hj hjv
     by_cases hji:j=i
     ·subst hji;rw[hx]at hjv;cases hjv;exact hyes
     ·exact hne j v (by omega) hjv
    ·have hpre:∀u∈l.take i,0<=u/\u<G.edges.length:=λu hu=>by
      obtain⟨j,hj,hju⟩:=Bd.1 hu
      have hj2:j<l.length:=by omega
      have h3:=hne j u (by omega) (by rw[Ab hj2,hju])
      by_cases hur:0<=u/\u<G.edges.length
      ·exact hur
      ·rw[OH (.inl hur)]at h3;cases h3
     have h3:=SG (l.take i) 218 [.ref (dG G),.ref (.int .i64 m)] (λu=>Iy G.edges u m) (λu _=>qJ G m u)
     rw[Qz,uA hml hc hpre]at h3
     have hla:DR (IF G) l i m=(l.take i).any (I1 (IF G).edges m):=by unfold DR;rw[hhv,decide_eq_false hc,decide_eq_false h0];simp
     cases hb:(l.take i).any (I1 (IF G).edges m)with
     |
      true=>
      have hyes:=hla.trans hb
      rw[hb]at h3
      (conv=>whnf)
      (repeat' ((first|refine Aj ?_ ?_|refine AP hxd rfl ?_|refine Br tab rfl h1 rfl ?_|refine MB rfl hi2 ?_|refine Br tab rfl h2 rfl ?_|refine Br tab rfl h3 rfl ?_|refine nx ?_|refine AD (λ_=>?_) (λ_=>?_)|exact AG)<;>conv=>whnf))
      refine⟨i+1,_,_,⟨hlt,?_⟩,.refl _ _,⟨rfl,rfl,rfl,rfl,rfl,trivial⟩,⟨rfl,trivial⟩,by omega⟩
      intro j v hj hjv
      by_cases hji:j=i
      ·subst hji;rw[hx]at hjv;cases hjv;exact hyes
      ·exact hne j v (by omega) hjv
     |
      false=>
      rw[hb]at h3
      rw[Ge hx (hla.trans hb)]
      (conv=>whnf)
      (repeat' ((first|refine Aj ?_ ?_|refine AP hxd rfl ?_|refine Br tab rfl h1 rfl ?_|refine MB rfl hi2 ?_|refine Br tab rfl h2 rfl ?_|refine Br tab rfl h3 rfl ?_|refine nx ?_|refine AD (λ_=>?_) (λ_=>?_)|exact AG)<;>conv=>whnf))
      exact rfl
  ·have ey:Fk G.edges y=.tuple [dE ⟨0,0⟩,.bool false]:=by unfold Fk;rw[if_neg hv]
   rw[ey]at h1
   rw[Ge hx (OH (.inl hv))]
   (conv=>whnf)
   (repeat' ((first|refine Aj ?_ ?_|refine AP hxd rfl ?_|refine Br tab rfl h1 rfl ?_|refine nx ?_|refine AD (λ_=>?_) (λ_=>?_)|exact AG)<;>conv=>whnf))
   exact rfl
 ·have hie:i=l.length:=by omega
  subst hie
  rw[M5 λj v hj=>hne j v (Ae.1 hj).1 hj]
  ((conv=>whnf);repeat' ((first|refine odw ?_|refine nx ?_|refine AD (λ_=>?_) (λ_=>?_))<;>conv=>whnf))
  exact rfl
end Go.Proofs.YtjpmmkodoeipmaaGreatDoor
end
section
namespace Go.Proofs.YtjpmmkodoeipmaaGreatDoor
open Go.Sx Go.RowKit Go.Reg Go.Gr
set_option maxRecDepth 100000
theorem WT {G:Gr}(hG:G.Ok) {x:Int}(hx:0<=x/\x<G.labels.length):0<=ES G x/\ES G x<=255:=by
 obtain⟨m,rfl⟩:=A6 hx.1
 have hm:m<G.labels.length:=by omega
 unfold ES
 rw[if_pos hx,AY,Ab hm]
 exact hG.lab _ (Bc hm)
theorem Sw {G:Gr}(hG:G.Ok) {v:List Int}(h8:v.length<=8)(hv:∀x∈v,0<=x/\x<G.labels.length):M6 (v.map (ES G))=none:=by
 refine Yq (by rw[Ac];omega) (λk y hk hy=>?_)
 rw[Ad]at hy
 obtain⟨x,hx,rfl⟩:=Cl.1 hy
 have:=WT hG (hv x (A8 hx))
 unfold BX
 simp;omega
theorem OF {G:Gr} {l:List Int}(h:C6 G l=true):∀x∈l,0<=x/\x<G.labels.length:=by
 intro x hx
 obtain⟨i,hi⟩:=EY.1 hx
 have:=WQ h hi
 unfold DR Gg at this
 simp only[Ap,decide_eq_true_eq]at this
 exact this.1
theorem OG {G:Gr} {l:List Int}(h:C6 G l=true):l.Nodup:=by
 rw[List.nodup_iff_pairwise_ne,AO]
 intro i j hi hj hij he
 have:=WQ h (Ab hj)
 unfold DR at this
 simp only[Ap,Cm,decide_eq_false_iff_not]at this
 exact this.2.1 (by rw[<-he];exact Bd.2 ⟨i,by omega,rfl⟩)
def NW(G:Gr)(l:List Int):Pt:=⟨l.map (ES G),UC G.edges l⟩
theorem ZL(G:Gr)(hG:G.Ok)(l:List Int)(hm:l.length<=9000000000000000000):
  Pure C1 111 [dG G,Bn l] (λy=>y=if 8<l.length then .tuple [dP0,dF 6 0 LD]else if C6 G l=false then .tuple [dP0,dF 2 0 LD]else .tuple [FE (NW G l),.nili]):=by
 refine gX G hG l (NW G l) (λh8 hl=>?_) hm
 have hlt:∀e∈G.edges,e.a<e.b:=λe he=>(hG.edge e he).2.1
 have hsq:l.length*l.length<=8*8:=DO h8 h8
 have hcl:=RE (Pj G.edges l) l.length
 have:=Uo (l.map (ES G)) (Sw hG h8 (OF hl)) (H5 (Pj G.edges l) l.length) (by omega) (λe he=>?_) (by rw[OT];exact S7 _ _)
 ·rw[rT hlt]at this;exact this
 ·obtain⟨k,i,h1,h2,_,rfl⟩:=Rv.1 he
  rw[Ac]
  refine⟨⟨?_,?_⟩,?_⟩<;>simp only<;>omega
theorem Vi {E:List Edg} {l:List Int}:∀e∈Cw E l,e∈E:=λe he=>by
 obtain⟨m,_,h⟩:=jC.1 he
 exact A8 h
theorem kR {E:List Edg}(hE:E.Nodup) {l:List Int}(hl:l.Nodup):(Cw E l).Nodup:=by
 unfold Cw
 refine List.Pairwise.filterMap _ ?_ hl
 intro x y hxy e he e2 he2 h
 subst h
 split at he
 ·rename_i h1
  split at he2
  ·rename_i h2
   obtain⟨m,rfl⟩:=A6 h1.1
   obtain⟨k,rfl⟩:=A6 h2.1
   simp only[AY]at he he2
   have hm:=(Ae.1 he).1
   have:=(FL hm hE).1 (he.trans he2.symm)
   exact hxy (by rw[this])
  ·cases he2
 ·cases he
def Vl(G:Gr)(l:List Int):Pt:=⟨(C5 (Cw G.edges l)).map (ES G),UC (Cw G.edges l) (C5 (Cw G.edges l))⟩
def Xk(G:Gr)(l:List Int):Da:=if C6 (IF G) l=false then .tuple [dP0,.nils,dF 2 0 LD]else if 8<(C5 (Cw G.edges l)).length then .tuple [dP0,.nils,dF 6 0 LD]else .tuple [FE (Vl G l),Bn (C5 (Cw G.edges l)),.nili]
def wZ:List (Nat×Plan):=[(10,.leaf [0,0,0,1,2,0,0,1,2,0,6,3,0] [0,1,2,5,6,3,7,4,8,9,10,11,12] [0,0,0,4,14,0,0,64,254,510,1022,2047,4095])]
def ADj:List FuncId:=[155,156,157,158,160,159]
set_option maxHeartbeats 4000000 in
theorem gZ(G:Gr)(hG:G.Ok)(l:List Int)(hm:l.length<=1000):Pure C1 110 [dG G,Bn l] (λy=>y=Xk G l):=by
 have hdl:(l.map dI).length=l.length:=Ac _
 have hlk:=XN G l
 have hvs:=fO G l (by omega)
 have hen:=Xi G l (by omega)
 have hvl:=RW (Cw G.edges l)
 have hel:=OQ G.edges l
 unfold Xk
 refine AW Tryz.func110 Tryz.ntmps110 ADj wZ ?_
 cases hl:C6 (IF G) l with
 |
  false=>
  rw[hl]at hlk
  rw[if_pos rfl]
  (conv=>whnf)
  (repeat' ((first|refine Aj ?_ ?_|refine Af rfl hlk ?_|refine Af rfl (CG 2 0 LD) ?_|refine nx ?_|refine AD (λ_=>?_) (λ_=>?_)|exact AG)<;>conv=>whnf))
  exact rfl
 |
  true=>
  rw[hl]at hlk
  rw[if_neg (by decide)]
  have hlt:∀e∈Cw G.edges l,e.a<e.b:=λe he=>(hG.edge e (Vi e he)).2.1
  have hEn:=kR hG.sorted.nodup (l:=l) (OG hl)
  obtain⟨hVn,hVm⟩:=KT (Cw G.edges l)
  have hin:∀e∈Cw G.edges l,e.a∈C5 (Cw G.edges l)/\e.b∈C5 (Cw G.edges l):=λe he=>⟨(hVm _).2 ⟨e,he,.inl rfl⟩,(hVm _).2 ⟨e,he,.inr rfl⟩⟩
  have hVr:∀x∈C5 (Cw G.edges l),0<=x/\x<G.labels.length:=λx hx=>by
   obtain⟨e,he,h⟩:=(hVm x).1 hx
   obtain⟨g1,g2,g3⟩:=hG.edge e (Vi e he)
   rcases h with rfl|rfl<;>omega
  clear hVm
  unfold Vl
  generalize hE:Cw G.edges l=E at*
  generalize hV:C5 E=V at*
  have hdV:(V.map dI).length=V.length:=Ac _
  have hdE:(E.map dE).length=E.length:=Ac _
  by_cases h8:8<V.length
  ·rw[if_pos h8]
   (conv=>whnf)
   (repeat' ((first|refine Aj ?_ ?_|refine Af rfl hlk ?_|refine Af rfl hvs ?_|refine Af rfl (CG 6 0 LD) ?_|refine nx ?_|refine AD (λ_=>?_) (λ_=>?_)|exact AG)<;>conv=>whnf))
   exact rfl
  ·rw[if_neg h8]
   (conv=>whnf)
   (repeat' ((first|refine Aj ?_ ?_|refine Af rfl hlk ?_|refine Af rfl hvs ?_|refine Af rfl hen ?_|refine nx ?_|refine AD (λ_=>?_) (λ_=>?_)|exact AG)<;>conv=>whnf))
   obtain⟨hnd,hmade⟩:=yU hlt hEn V hVn hin
   have hql:=PI G V (by omega)
   have hmk:=Uo (V.map (ES G)) (Sw hG (by omega) hVr) (E.map (atE V)) (by rw[Ac];omega) (λe he=>by
    obtain⟨x,hx,rfl⟩:=An.1 he
    obtain⟨i,j,h1,h2,_,_,h5,h6⟩:=YD hVn (hlt x hx) (hin x hx).1 (hin x hx).2
    rw[h6,Ac]
    refine⟨⟨?_,?_⟩,?_⟩<;>simp only<;>omega) hnd
   rw[hmade]at hmk
   refine AR (ι:=Nat) (λi=>i<=E.length) (λi=>[(31,.d (.int .i64 i)),(30,.d (.int .i64 (E.map dE).length)),(29,.d (Fa E)),(8,.own 300),(7,.d (Bn V)),(4,.own 4),(0,.d (dG G))]) (λi=>[(4,.cells 54 [.d .nils,.d .nils]),(300,.slice 90 2 (((E.take i).map (atE V)).map dE))]) (λi=>E.length-i) 0 (λ_=>rfl) (Am _) (.own 8 300 90 2 rfl rfl (.refl _ _)) ⟨rfl,rfl,rfl,rfl,rfl,rfl,rfl,trivial⟩ ⟨rfl,rfl,trivial⟩ ?_
   intro i hi
   refine Cd ADj wZ ?_
   by_cases hil:i<E.length
   ·have hx:=Ab hil
    generalize E[i]=x at hx
    have hxd:(E.map dE)[i]? =some (.agg [.int .i64 x.a,.int .i64 x.b]):=by rw[Ad,hx];rfl
    have h1:=OL V x.a
    have h2:=OL V x.b
    (conv=>whnf)
    (repeat' ((first|refine Aj ?_ ?_|refine AP hxd rfl ?_|refine Br tab rfl h1 rfl ?_|refine Br tab rfl h2 rfl ?_|refine nx ?_|refine AD (λ_=>?_) (λ_=>?_)|exact AG)<;>conv=>whnf))
    refine⟨i+1,_,_,by omega,.refl _ _,⟨rfl,rfl,rfl,rfl,rfl,rfl,rfl,trivial⟩,⟨rfl,Bk ?_,trivial⟩,by omega⟩
    rw[Ay,hx];simp[dE,atE]
   ·have e:E.take i=E:=Al (by omega)
    rw[e]
    (conv=>whnf)
    (repeat' ((first|refine Aj ?_ ?_|refine Dx 300 rfl ?_|refine Af rfl hql ?_|refine Af rfl hmk ?_|refine nx ?_|refine AD (λ_=>?_) (λ_=>?_)|exact AG)<;>conv=>whnf))
    exact rfl
end Go.Proofs.YtjpmmkodoeipmaaGreatDoor
end
section
namespace Go.Proofs.YtjpmmkodoeipmaaGreatDoor
open Go.Sx Go.RowKit Go.Reg Go.Gr
set_option maxRecDepth 100000
theorem Li(l:List Opp)(h16:l.length<=16)(hok:∀o∈l,Fl o=0):Pure C1 54 [Ka l] (λy=>y=.nili):=by
 have hl:(l.map dO).length=l.length:=Ac _
 refine AW Tryz.func54 Tryz.ntmps54 [] [] ?_
 ((conv=>whnf);repeat' ((first|refine odw ?_|refine nx ?_|refine AD (λ_=>?_) (λ_=>?_))<;>conv=>whnf))
 refine AR (ι:=Nat) (λi=>i<=l.length) (λi=>[(12,.d (.int .i64 i)),(11,.d (.int .i64 (l.map dO).length)),(10,.d (Ka l))]) (λ_=>[]) (λi=>l.length-i) 0 (λ_=>rfl) (Am _) (.refl _ _) ⟨rfl,rfl,rfl,trivial⟩ trivial ?_
 intro i hi
 refine Cd [] [] ?_
 by_cases hil:i<l.length
 ·have hx:=Ab hil
  have hoi:=hok _ (Bc hil)
  generalize l[i]=o at hx hoi
  have hxd:(l.map dO)[i]? =some (.agg [.int .i64 o.kind,.int .i64 o.n]):=by rw[Ad,hx];rfl
  have hr:=PM o i
  unfold Ld at hr
  rw[if_pos hoi]at hr
  (conv=>whnf)
  (repeat' ((first|refine Aj ?_ ?_|refine AP hxd rfl ?_|refine Af rfl hr ?_|refine nx ?_|refine AD (λ_=>?_) (λ_=>?_)|exact AG)<;>conv=>whnf))
  exact⟨i+1,_,_,hil,.refl _ _,⟨rfl,rfl,rfl,trivial⟩,trivial,by omega⟩
 ·((conv=>whnf);repeat' ((first|refine odw ?_|refine nx ?_|refine AD (λ_=>?_) (λ_=>?_))<;>conv=>whnf))
  exact rfl
theorem Y1(l:List Edg)(g:FuncId)(cs:List Da)(p:Edg->Bool)(hm:l.length<=9223372036854775807)(hp:∀x∈l,Pure C1 g (dE x::cs) (λy=>y=.bool (p x))):Pure C1 297 [Fa l,.func (.func g) [] cs] (λy=>y=.int .i64 (N6 (l.findIdx? p))):=by
 have hl:(l.map dE).length=l.length:=Ac _
 refine AW Tryz.func297 Tryz.ntmps297 [] [] ?_
 ((conv=>whnf);repeat' ((first|refine odw ?_|refine nx ?_|refine AD (λ_=>?_) (λ_=>?_))<;>conv=>whnf))
 refine AR (ι:=Nat) (λi=>i<=l.length/\∀y∈l.take i,p y=false) (λi=>[(8,.d (.int .i64 i)),(7,.d (.int .i64 (l.map dE).length)),(1,.d (.func (.func g) [] cs)),(0,.d (Fa l))]) (λ_=>[]) (λi=>l.length-i) 0 (λ_=>rfl) ⟨Am _,by simp⟩ (.refl _ _) ⟨rfl,rfl,rfl,rfl,trivial⟩ trivial ?_
 rintro i ⟨hi,hne⟩
 refine Cd [] [] ?_
 by_cases hlt:i<l.length
 ·have hx:=Ab hlt
  generalize l[i]=y at hx
  have hxd:(l.map dE)[i]? =some (.agg [.int .i64 y.a,.int .i64 y.b]):=by rw[Ad,hx];rfl
  have hpy:=hp y (A8 hx)
  cases hy:p y with
  |
   true=>
   rw[hy]at hpy
   rw[Yw hx hy hne]
   (conv=>whnf)
   (repeat' ((first|refine Aj ?_ ?_|refine AP hxd rfl ?_|refine Af (FV _ _) hpy ?_|refine nx ?_|refine AD (λ_=>?_) (λ_=>?_)|exact AG)<;>conv=>whnf))
   exact rfl
  |
   false=>
   rw[hy]at hpy
   (conv=>whnf)
   (repeat' ((first|refine Aj ?_ ?_|refine AP hxd rfl ?_|refine Af (FV _ _) hpy ?_|refine nx ?_|refine AD (λ_=>?_) (λ_=>?_)|exact AG)<;>conv=>whnf))
   refine⟨i+1,_,_,⟨hlt,?_⟩,.refl _ _,⟨rfl,rfl,rfl,rfl,trivial⟩,trivial,by omega⟩
   intro z hz
   rw[Ay,hx]at hz
   rcases Ag.1 hz with hz|hz
   ·exact hne z hz
   ·simp at hz;subst hz;exact hy
 ·have hii:l.take i=l:=Al (by omega)
  rw[hii]at hne
  rw[R1 hne]
  ((conv=>whnf);repeat' ((first|refine odw ?_|refine nx ?_|refine AD (λ_=>?_) (λ_=>?_))<;>conv=>whnf))
  exact rfl
theorem nV {α:Type}(l:List α)(p:α->Bool):0<=N6 (l.findIdx? p)↔l.any p=true:=by
 cases h:l.findIdx? p with
 |
  none=>
  rw[Be]at h
  constructor
  ·intro h2;simp[N6]at h2
  ·intro h2
   obtain⟨x,hx,hpx⟩:=Cp.1 h2
   rw[h x hx]at hpx;cases hpx
 |
  some i=>
  obtain⟨h1,h2,_⟩:=Ba.1 h
  constructor
  ·intro _;exact Cp.2 ⟨_,Bc h1,h2⟩
  ·intro _;simp[N6]
def ACI:List FuncId:=[297]
theorem SJ(l:List Edg)(g:FuncId)(cs:List Da)(p:Edg->Bool)(hm:l.length<=9223372036854775807)(hp:∀x∈l,Pure C1 g (dE x::cs) (λy=>y=.bool (p x))):Pure C1 294 [Fa l,.func (.func g) [] cs] (λy=>y=.bool (l.any p)):=by
 refine AW Tryz.func294 Tryz.ntmps294 ACI [] ?_
 (conv=>whnf)
 (repeat' ((first|refine Aj ?_ ?_|refine Af rfl (Y1 l g cs p hm hp) ?_|refine nx ?_|refine AD (λ_=>?_) (λ_=>?_)|exact AG)<;>conv=>whnf))
 show Da.plain _=_
 have:=nV l p
 cases h:l.any p<;>simp[Da.plain,this,h]
def AAM:List FuncId:=[296]
theorem oY(p:Pt)(e:Edg)(hm:p.labels.length<=9223372036854775807)(hme:p.edges.length<=9223372036854775807):Pure C1 295 [dE e,.ref (FE p)] (λy=>y=.bool ((List.range p.labels.length).any λv=>GK p.edges e.a v&&GK p.edges e.b v)):=by
 have hdl:(p.labels.map dI).length=p.labels.length:=Ac _
 refine AW Tryz.func295 Tryz.ntmps295 AAM [] ?_
 ((conv=>whnf);repeat' ((first|refine odw ?_|refine nx ?_|refine AD (λ_=>?_) (λ_=>?_))<;>conv=>whnf))
 refine AR (ι:=Nat) (λi=>i<=p.labels.length/\∀v,v<i->(GK p.edges e.a v&&GK p.edges e.b v)=false) (λi=>[(8,.d (.int .i64 i)),(7,.d (.int .i64 (p.labels.map dI).length)),(2,.own 2),(1,.d (.ref (FE p)))]) (λ_=>[(2,.cells 90 [.d (.int .i64 e.a),.d (.int .i64 e.b)])]) (λi=>p.labels.length-i) 0 (λ_=>rfl) ⟨Am _,by intro v h;omega⟩ (.refl _ _) ⟨rfl,rfl,rfl,rfl,trivial⟩ ⟨rfl,trivial⟩ ?_
 rintro i ⟨hi,hne⟩
 refine Cd AAM [] ?_
 by_cases hil:i<p.labels.length
 ·have h1:=Wt p e.a i hme
  have h2:=Wt p e.b i hme
  rw[show decide (turn ⟨e.a,(i:Int)⟩∈p.edges)=GK p.edges e.a i from rfl]at h1
  rw[show decide (turn ⟨e.b,(i:Int)⟩∈p.edges)=GK p.edges e.b i from rfl]at h2
  cases g1:GK p.edges e.a i<;>cases g2:GK p.edges e.b i<;>rw[g1]at h1<;>rw[g2]at h2
  ·(conv=>whnf)
   (repeat' ((first|refine Aj ?_ ?_|refine Af rfl h1 ?_|refine Af rfl h2 ?_|refine nx ?_|refine AD (λ_=>?_) (λ_=>?_)|exact AG)<;>conv=>whnf))
   exact⟨i+1,_,_,⟨hil,λv hv=>by rcases BL v i with g|g;exact hne v g;rw[show v=i by omega,g1];rfl⟩,.refl _ _,⟨rfl,rfl,rfl,rfl,trivial⟩,⟨rfl,trivial⟩,by omega⟩
  ·(conv=>whnf)
   (repeat' ((first|refine Aj ?_ ?_|refine Af rfl h1 ?_|refine Af rfl h2 ?_|refine nx ?_|refine AD (λ_=>?_) (λ_=>?_)|exact AG)<;>conv=>whnf))
   exact⟨i+1,_,_,⟨hil,λv hv=>by rcases BL v i with g|g;exact hne v g;rw[show v=i by omega,g1];rfl⟩,.refl _ _,⟨rfl,rfl,rfl,rfl,trivial⟩,⟨rfl,trivial⟩,by omega⟩
  ·(conv=>whnf)
   (repeat' ((first|refine Aj ?_ ?_|refine Af rfl h1 ?_|refine Af rfl h2 ?_|refine nx ?_|refine AD (λ_=>?_) (λ_=>?_)|exact AG)<;>conv=>whnf))
   exact⟨i+1,_,_,⟨hil,λv hv=>by rcases BL v i with g|g;exact hne v g;rw[show v=i by omega,g1,g2];rfl⟩,.refl _ _,⟨rfl,rfl,rfl,rfl,trivial⟩,⟨rfl,trivial⟩,by omega⟩
  ·have e1:((List.range p.labels.length).any λv=>GK p.edges e.a v&&GK p.edges e.b v)=true:=Cp.2 ⟨i,AM.2 hil,by rw[g1,g2];rfl⟩
   rw[e1]
   (conv=>whnf)
   (repeat' ((first|refine Aj ?_ ?_|refine Af rfl h1 ?_|refine Af rfl h2 ?_|refine nx ?_|refine AD (λ_=>?_) (λ_=>?_)|exact AG)<;>conv=>whnf))
   exact rfl
 ·have e1:((List.range p.labels.length).any λv=>GK p.edges e.a v&&GK p.edges e.b v)=false:=by
   rw[Pq]
   intro h
   obtain⟨v,hv,h⟩:=Cp.1 h
   rw[hne v (by have:=AM.1 hv;omega)]at h;cases h
  rw[e1]
  ((conv=>whnf);repeat' ((first|refine odw ?_|refine nx ?_|refine AD (λ_=>?_) (λ_=>?_))<;>conv=>whnf))
  exact rfl
def AFi:List FuncId:=[294]
theorem VE(p:Pt)(hm:p.labels.length<=9223372036854775807)(hme:p.edges.length<=9223372036854775807):Pure C1 291 [FE p] (λy=>y=.bool (oX p)):=by
 have hc:=SJ p.edges 295 [.ref (FE p)] (λe=>(List.range p.labels.length).any λv=>GK p.edges e.a v&&GK p.edges e.b v) hme (λe _=>oY p e hm hme)
 refine AW Tryz.func291 Tryz.ntmps291 AFi [] ?_
 (conv=>whnf)
 (repeat' ((first|refine Aj ?_ ?_|refine Br tab rfl hc rfl ?_|refine nx ?_|refine AD (λ_=>?_) (λ_=>?_)|exact AG)<;>conv=>whnf))
 exact rfl
def ADo:List FuncId:=[293]
theorem Y6(p:Pt)(n:Int)(hm:p.labels.length<=9223372036854775807)(hme:p.edges.length<=4294967296):Pure C1 289 [FE p,.int .i64 n] (λy=>y=.bool (tD p n)):=by
 have hdl:(p.labels.map dI).length=p.labels.length:=Ac _
 refine AW Tryz.func289 Tryz.ntmps289 ADo [] ?_
 ((conv=>whnf);repeat' ((first|refine odw ?_|refine nx ?_|refine AD (λ_=>?_) (λ_=>?_))<;>conv=>whnf))
 refine AR (ι:=Nat) (λi=>i<=p.labels.length/\∀v,v<i->((SK p.edges (v:Int):Nat):Int)<=n) (λi=>[(9,.d (.int .i64 i)),(8,.d (.int .i64 (p.labels.map dI).length)),(2,.own 2),(1,.d (.int .i64 n))]) (λ_=>[(2,.cells 54 [.d (Bn p.labels),.d (Fa p.edges)])]) (λi=>p.labels.length-i) 0 (λ_=>rfl) ⟨Am _,by intro v h;omega⟩ (.refl _ _) ⟨rfl,rfl,rfl,rfl,trivial⟩ ⟨rfl,trivial⟩ ?_
 rintro i ⟨hi,hne⟩
 refine Cd ADo [] ?_
 by_cases hil:i<p.labels.length
 ·have h1:=XV p i hme
  by_cases hd:((SK p.edges (i:Int):Nat):Int)<=n
  ·(conv=>whnf)
   (repeat' ((first|refine Aj ?_ ?_|refine Af rfl h1 ?_|refine nx ?_|refine AD (λ_=>?_) (λ_=>?_)|exact AG)<;>conv=>whnf))
   exact⟨i+1,_,_,⟨hil,λv hv=>by rcases BL v i with g|g;exact hne v g;rw[show v=i by omega];exact hd⟩,.refl _ _,⟨rfl,rfl,rfl,rfl,trivial⟩,⟨rfl,trivial⟩,by omega⟩
  ·have e1:tD p n=false:=by
    rw[Pq]
    intro h
    exact hd (of_decide_eq_true (CU.1 h i (AM.2 hil)))
   rw[e1]
   (conv=>whnf)
   (repeat' ((first|refine Aj ?_ ?_|refine Af rfl h1 ?_|refine nx ?_|refine AD (λ_=>?_) (λ_=>?_)|exact AG)<;>conv=>whnf))
   exact rfl
 ·have e1:tD p n=true:=CU.2 λv hv=>decide_eq_true (hne v (by have:=AM.1 hv;omega))
  rw[e1]
  ((conv=>whnf);repeat' ((first|refine odw ?_|refine nx ?_|refine AD (λ_=>?_) (λ_=>?_))<;>conv=>whnf))
  exact rfl
theorem bV(o:Opp)(l:Int):Pure C1 288 [.int .i64 l,.ref (dO o)] (λy=>y=.bool (decide (o.n<l))):=by
 refine AW Tryz.func288 Tryz.ntmps288 [] [] ?_
 ((conv=>whnf);repeat' ((first|refine odw ?_|refine nx ?_|refine AD (λ_=>?_) (λ_=>?_))<;>conv=>whnf))
 exact rfl
theorem bU(o:Opp)(l:Int):Pure C1 290 [.int .i64 l,.ref (dO o)] (λy=>y=.bool (decide (l≠o.n))):=by
 refine AW Tryz.func290 Tryz.ntmps290 [] [] ?_
 ((conv=>whnf);repeat' ((first|refine odw ?_|refine nx ?_|refine AD (λ_=>?_) (λ_=>?_))<;>conv=>whnf))
 exact rfl
def AFl:List FuncId:=[291,289]
theorem kE(o:Opp)(p:Pt)(hk:1<=o.kind/\o.kind<=8)(hm:p.labels.length<=8)(hme:p.edges.length<=4294967296):Pure C1 284 [dO o,FE p] (λy=>y=.bool (Dk o p)):=by
 have hdl:(p.labels.map dI).length=p.labels.length:=Ac _
 have hde:(p.edges.map dE).length=p.edges.length:=Ac _
 have hc1:=Js p.labels 288 [.ref (dO o)] (λl=>decide (o.n<l)) (λl _=>bV o l)
 have hc2:=Js p.labels 290 [.ref (dO o)] (λl=>decide (l≠o.n)) (λl _=>bU o l)
 have htr:=VE p (by omega) (by omega)
 have hdg:=Y6 p o.n (by omega) hme
 have hvl:=Ig p.labels
 have hk8:o.kind=1\/o.kind=2\/o.kind=3\/o.kind=4\/o.kind=5\/o.kind=6\/o.kind=7\/o.kind=8:=by omega
 refine AW Tryz.func284 Tryz.ntmps284 AFl [] ?_
 rcases hk8 with h|h|h|h|h|h|h|h
 ·have eh:Dk o p=decide (p.edges.length=p.labels.length*(p.labels.length-1)/2):=by unfold Dk;simp[h]
  rw[eh]
  have hmul:∀N:Nat,N<=8->IntKind.i64.wrap ((N:Int)*((N:Int)-1))=((N*(N-1):Nat):Int):=by
   intro N hN
   have:N=0\/N=1\/N=2\/N=3\/N=4\/N=5\/N=6\/N=7\/N=8:=by omega
   rcases this with rfl|rfl|rfl|rfl|rfl|rfl|rfl|rfl|rfl<;>decide
  have hm2:=hmul (p.labels.map dI).length (by omega)
  have hdiv:∀N:Nat,N<=8->IntKind.i64.wrap (((N*(N-1):Nat):Int).tdiv 2)=((N*(N-1)/2:Nat):Int):=by
   intro N hN
   have:N=0\/N=1\/N=2\/N=3\/N=4\/N=5\/N=6\/N=7\/N=8:=by omega
   rcases this with rfl|rfl|rfl|rfl|rfl|rfl|rfl|rfl|rfl<;>decide
  have hm3:=hdiv (p.labels.map dI).length (by omega)
  ((conv=>whnf);repeat' ((first|refine odw ?_|refine nx ?_|refine AD (λ_=>?_) (λ_=>?_))<;>conv=>whnf))
  refine⟨_,hm2,?_⟩
  ((conv=>whnf);repeat' ((first|refine odw ?_|refine nx ?_|refine AD (λ_=>?_) (λ_=>?_))<;>conv=>whnf))
  refine⟨_,hm3,?_⟩
  ((conv=>whnf);repeat' ((first|refine odw ?_|refine nx ?_|refine AD (λ_=>?_) (λ_=>?_))<;>conv=>whnf))
  exact congrArg Da.bool (by rw[CJ,decide_eq_true_eq,decide_eq_true_eq,hde,hdl];exact Int.ofNat_inj)
 ·have eh:Dk o p=!p.labels.any λl=>decide (o.n<l):=by unfold Dk;simp[h]
  rw[eh]
  (conv=>whnf)
  (repeat' ((first|refine Aj ?_ ?_|refine Br tab rfl hc1 rfl ?_|refine nx ?_|refine AD (λ_=>?_) (λ_=>?_)|exact AG)<;>conv=>whnf))
  exact rfl
 ·have eh:Dk o p=tD p o.n:=by unfold Dk;simp[h]
  rw[eh]
  (conv=>whnf)
  (repeat' ((first|refine Aj ?_ ?_|refine Af rfl hdg ?_|refine nx ?_|refine AD (λ_=>?_) (λ_=>?_)|exact AG)<;>conv=>whnf))
  exact rfl
 ·have eh:Dk o p=decide ((p.labels.length:Int)<=o.n):=by unfold Dk;simp[h]
  rw[eh,<-hdl]
  ((conv=>whnf);repeat' ((first|refine odw ?_|refine nx ?_|refine AD (λ_=>?_) (λ_=>?_))<;>conv=>whnf))
  exact rfl
 ·have eh:Dk o p=decide ((p.edges.length:Int)<=o.n):=by unfold Dk;simp[h]
  rw[eh,<-hde]
  ((conv=>whnf);repeat' ((first|refine odw ?_|refine nx ?_|refine AD (λ_=>?_) (λ_=>?_))<;>conv=>whnf))
  exact rfl
 ·have eh:Dk o p=decide ((DF p.labels).length=p.labels.length):=by unfold Dk;simp[h]
  rw[eh]
  (conv=>whnf)
  (repeat' ((first|refine Aj ?_ ?_|refine Af rfl hvl ?_|refine nx ?_|refine AD (λ_=>?_) (λ_=>?_)|exact AG)<;>conv=>whnf))
  refine EH 300 rfl rfl (RZ p.labels (by omega)) ?_;rintro ds rfl
  (conv=>whnf)
  refine eC rfl rfl (S6 (p.labels.mergeSort λx y=>decide (x<=y)) (by rw[QI];omega)) ?_;rintro ds rfl
  ((conv=>whnf);repeat' ((first|refine odw ?_|refine nx ?_|refine AD (λ_=>?_) (λ_=>?_))<;>conv=>whnf))
  exact congrArg Da.bool (by rw[CJ,decide_eq_true_eq,decide_eq_true_eq,Ac,Ac];exact Int.ofNat_inj)
 ·have eh:Dk o p=!p.labels.any λl=>decide (l≠o.n):=by unfold Dk;simp[h]
  rw[eh]
  (conv=>whnf)
  (repeat' ((first|refine Aj ?_ ?_|refine Br tab rfl hc2 rfl ?_|refine nx ?_|refine AD (λ_=>?_) (λ_=>?_)|exact AG)<;>conv=>whnf))
  exact rfl
 ·have eh:Dk o p=!oX p:=by unfold Dk;simp[h]
  rw[eh]
  (conv=>whnf)
  (repeat' ((first|refine Aj ?_ ?_|refine Af rfl htr ?_|refine nx ?_|refine AD (λ_=>?_) (λ_=>?_)|exact AG)<;>conv=>whnf))
  exact rfl
theorem tM {o:Opp}(h:Fl o=0):1<=o.kind/\o.kind<=8:=by
 unfold Fl at h
 apply EV
 intro hn
 rw[if_pos (by omega)]at h
 omega
theorem Mm {p:Pt}(h:Dp p=none):p.labels.length<=8/\p.edges.length<=64:=by
 obtain⟨h1,h2,h3⟩:=BJ h
 have h8:p.labels.length<=8:=by
  apply EV
  intro hn
  unfold M6 at h1
  rw[if_pos (by omega)]at h1
  cases h1
 have:=Ff h3.nodup (m:=prs p.labels.length) λe he=>Nl.2 (h2 e he)
 rw[XP]at this
 have hm:p.labels.length*(p.labels.length-1)<=8*8:=DO h8 (by omega)
 omega
def AEs:List FuncId:=[99,113,284]
theorem pC(o:Opp)(p:Pt)(hc:Fl o=0)(hp:Dp p=none):Pure C1 264 [dO o,FE p] (λy=>y=.bool (Dk o p)):=by
 have hs:=Mm hp
 have hr:=PM o 0
 unfold Ld at hr
 rw[if_pos hc]at hr
 have hpr:=EM p (by omega) (by omega)
 rw[Fq hp]at hpr
 have hh:=kE o p (tM hc) hs.1 (by omega)
 refine AW Tryz.func264 Tryz.ntmps264 AEs [] ?_
 (conv=>whnf)
 (repeat' ((first|refine Aj ?_ ?_|refine Br tab rfl hr rfl ?_|refine Br tab rfl hpr rfl ?_|refine Br tab rfl hh rfl ?_|refine nx ?_|refine AD (λ_=>?_) (λ_=>?_)|exact AG)<;>conv=>whnf))
 exact rfl
def AEu:List FuncId:=[264]
theorem cK(o:Opp)(p:Pt)(hc:Fl o=0)(hp:Dp p=none):Pure C1 263 [dO o,.ref (FE p)] (λy=>y=.bool (!Dk o p)):=by
 have ht:=pC o p hc hp
 refine AW Tryz.func263 Tryz.ntmps263 AEu [] ?_
 (conv=>whnf)
 (repeat' ((first|refine Aj ?_ ?_|refine Br tab rfl ht rfl ?_|refine nx ?_|refine AD (λ_=>?_) (λ_=>?_)|exact AG)<;>conv=>whnf))
 exact rfl
theorem Ye(l:List Opp)(g:FuncId)(cs:List Da)(p:Opp->Bool)(hm:l.length<=9223372036854775807)(hp:∀x∈l,Pure C1 g (dO x::cs) (λy=>y=.bool (p x))):Pure C1 262 [Ka l,.func (.func g) [] cs] (λy=>y=.int .i64 (N6 (l.findIdx? p))):=by
 have hl:(l.map dO).length=l.length:=Ac _
 refine AW Tryz.func262 Tryz.ntmps262 [] [] ?_
 ((conv=>whnf);repeat' ((first|refine odw ?_|refine nx ?_|refine AD (λ_=>?_) (λ_=>?_))<;>conv=>whnf))
 refine AR (ι:=Nat) (λi=>i<=l.length/\∀y∈l.take i,p y=false) (λi=>[(8,.d (.int .i64 i)),(7,.d (.int .i64 (l.map dO).length)),(1,.d (.func (.func g) [] cs)),(0,.d (Ka l))]) (λ_=>[]) (λi=>l.length-i) 0 (λ_=>rfl) ⟨Am _,by simp⟩ (.refl _ _) ⟨rfl,rfl,rfl,rfl,trivial⟩ trivial ?_
 rintro i ⟨hi,hne⟩
 refine Cd [] [] ?_
 by_cases hlt:i<l.length
 ·have hx:=Ab hlt
  generalize l[i]=y at hx
  have hxd:(l.map dO)[i]? =some (.agg [.int .i64 y.kind,.int .i64 y.n]):=by rw[Ad,hx];rfl
  have hpy:=hp y (A8 hx)
  cases hy:p y with
  |
   true=>
   rw[hy]at hpy
   rw[Yw hx hy hne]
   (conv=>whnf)
   (repeat' ((first|refine Aj ?_ ?_|refine AP hxd rfl ?_|refine Af (FV _ _) hpy ?_|refine nx ?_|refine AD (λ_=>?_) (λ_=>?_)|exact AG)<;>conv=>whnf))
   exact rfl
  |
   false=>
   rw[hy]at hpy
   (conv=>whnf)
   (repeat' ((first|refine Aj ?_ ?_|refine AP hxd rfl ?_|refine Af (FV _ _) hpy ?_|refine nx ?_|refine AD (λ_=>?_) (λ_=>?_)|exact AG)<;>conv=>whnf))
   refine⟨i+1,_,_,⟨hlt,?_⟩,.refl _ _,⟨rfl,rfl,rfl,rfl,trivial⟩,trivial,by omega⟩
   intro z hz
   rw[Ay,hx]at hz
   rcases Ag.1 hz with hz|hz
   ·exact hne z hz
   ·simp at hz;subst hz;exact hy
 ·have hii:l.take i=l:=Al (by omega)
  rw[hii]at hne
  rw[R1 hne]
  ((conv=>whnf);repeat' ((first|refine odw ?_|refine nx ?_|refine AD (λ_=>?_) (λ_=>?_))<;>conv=>whnf))
  exact rfl
def AFm:List FuncId:=[262]
theorem kM(l:List Opp)(p:Pt)(h16:l.length<=16)(hok:∀o∈l,Fl o=0)(hp:Dp p=none):Pure C1 210 [Ka l,FE p] (λy=>y=.int .i64 (N6 (l.findIdx? λo=>!Dk o p))):=by
 have hi:=Ye l 263 [.ref (FE p)] (λo=>!Dk o p) (by omega) (λo ho=>cK o p (hok o ho) hp)
 refine AW Tryz.func210 Tryz.ntmps210 AFm [] ?_
 (conv=>whnf)
 (repeat' ((first|refine Aj ?_ ?_|refine Br tab rfl hi rfl ?_|refine nx ?_|refine AD (λ_=>?_) (λ_=>?_)|exact AG)<;>conv=>whnf))
 exact rfl
def AFk:List FuncId:=[54,113,210]
theorem UI(l:List Opp)(p:Pt)(h16:l.length<=16)(hok:∀o∈l,Fl o=0)(hp:Dp p=none):Pure C1 141 [Ka l,FE p] (λy=>y=.bool (l.all λo=>Dk o p)):=by
 have hs:=Mm hp
 have hr:=Li l h16 hok
 have hpr:=EM p (by omega) (by omega)
 rw[Fq hp]at hpr
 have hf:=kM l p h16 hok hp
 have hia:=nV l λo=>!Dk o p
 refine AW Tryz.func141 Tryz.ntmps141 AFk [] ?_
 (conv=>whnf)
 (repeat' ((first|refine Aj ?_ ?_|refine Br tab rfl hr rfl ?_|refine Br tab rfl hpr rfl ?_|refine Br tab rfl hf rfl ?_|refine nx ?_|refine AD (λ_=>?_) (λ_=>?_)|exact AG)<;>conv=>whnf))
 refine congrArg Da.bool ?_
 rw[CJ,decide_eq_true_eq,<-Int.not_le,hia]
 simp
end Go.Proofs.YtjpmmkodoeipmaaGreatDoor
end
section
namespace Go.Proofs.YtjpmmkodoeipmaaGreatDoor
open Go.Gr
def pick:List Int->Nat->List Int
 |[],_=>[]
 |x::s,m=>(if m % 2=1 then[x]else[])++pick s (m/2)
theorem Ur:∀{s p:List Int},p.Sublist s->∃m,m<2^s.length/\pick s m=p
 |_,_,.slnil=>⟨0,by simp,rfl⟩
 |
  _,_,.cons x h=>by
  obtain⟨m,hm,hp⟩:=Ur h
  refine⟨2*m,?_,?_⟩
  ·rw[Aw,Nat.pow_succ];omega
  ·unfold pick
   rw[if_neg (by omega),show 2*m/2=m by omega];exact hp
 |
  _,_,.cons_cons x h=>by
  obtain⟨m,hm,hp⟩:=Ur h
  refine⟨2*m+1,?_,?_⟩
  ·rw[Aw,Nat.pow_succ];omega
  ·unfold pick
   rw[if_pos (by omega),show(2*m+1)/2=m by omega,hp];rfl
theorem wB {s p:List Int}(hs:s.Pairwise (· < ·))(hp:p.Pairwise (· < ·))(h:∀x∈p,x∈s):p.Sublist s:=by
 have:p=s.filter (λx=>decide (x∈p)):=IC hp (hs.sublist EI) λx=>by
  rw[Az,decide_eq_true_eq];exact⟨λhx=>⟨h x hx,hx⟩,λhx=>hx.2⟩
 rw[this];exact EI
theorem Oz {s:List Int}(h:s.Pairwise (· < ·)):s.Nodup:=h.imp λh=>by omega
def LG(G:Gr)(l:List Int):List (List Int):=(K9 G l).map λx=>l++[x]
def qA(G:Gr):Nat->List (List Int)
 |0=>(I9 G.labels.length).map λv=>[v]
 |k+1=>(qA G k).flatMap (LG G)
theorem Xn(G:Gr)(v:Int):Ev G [v]=Gg G v:=by
 have:=Jt G [] v
 rw[BB]at this
 rw[this]
 have h1:Ev G []=true:=L4 λi v h=>by simp at h
 rw[h1,Bool.true_and];rfl
theorem UA {G:Gr}(hG:G.Ok):∀(k:Nat) {x:List Int},x∈qA G k↔Ev G x=true/\x.length=k+1
 |
  0,x=>by
  unfold qA
  rw[An]
  constructor
  ·rintro⟨v,hv,rfl⟩
   rw[Xn]
   have:=Kv.1 hv
   exact⟨Qk this.1 this.2,rfl⟩
  ·rintro⟨h1,h2⟩
   obtain⟨v,rfl⟩:=Cz.1 h2
   rw[Xn]at h1
   refine⟨v,Kv.2 ?_,rfl⟩
   unfold Gg at h1
   simpa using h1
 |
  k+1,x=>by
  unfold qA
  rw[AL]
  constructor
  ·rintro⟨l,hl,hx⟩
   obtain⟨h1,h2⟩:=(UA hG k).1 hl
   unfold LG at hx
   obtain⟨v,hv,rfl⟩:=An.1 hx
   have:=(Qm hG).1 hv
   rw[Jt,this.1,this.2]
   exact⟨rfl,by rw[Ah,h2];rfl⟩
  ·rintro⟨h1,h2⟩
   have hne:x≠[]:=λe=>by rw[e]at h2;simp at h2
   have hx:=List.dropLast_concat_getLast hne
   generalize x.getLast hne=v at hx
   generalize x.dropLast=l at hx
   subst hx
   rw[Jt,Ap]at h1
   rw[Ah,BE]at h2
   refine⟨l,(UA hG k).2 ⟨h1.1,by omega⟩,?_⟩
   unfold LG
   exact An.2 ⟨v,(Qm hG).2 h1,rfl⟩
theorem jF(G:Gr)(x:List Int):UE G (DF x)=UE G x:=aY (BK x).2
theorem jG {G:Gr} {l:List Int}(h:C6 G l=true) {x:Int}(hx:x∈l):Gg G x=true:=by
 obtain⟨i,hi,rfl⟩:=C4.1 hx
 exact(Ls.1 (OE h (Ab hi))).1
end Go.Proofs.YtjpmmkodoeipmaaGreatDoor
namespace Go.Proofs.YtjpmmkodoeipmaaGreatDoor
open Go.Gr
def Ug(G:Gr)(l:List Int)(k:Nat):List Int:=(I9 k).filter λv=>decide (l=[])||candB G l v
 where candB (G:Gr) (l:List Int) (v:Int):Bool:=!decide (v∈l)&&l.any (I1 G.edges v)
theorem wA {G:Gr}(hG:G.Ok)(l:List Int):Ug G l G.labels.length=Hy G l:=by
 refine IC ((MY _).sublist EI) (WA G l) λx=>?_
 unfold Ug
 rw[Az,Kv]
 by_cases hl:l=[]
 ·unfold Hy
  rw[if_pos hl,Kv]
  simp[hl]
 ·rw[aH hl]
  unfold Ug.candB
  simp only[hl,decide_false,Bool.false_or,Ap,Cm,decide_eq_false_iff_not,Tf]
  constructor
  ·rintro⟨h1,h2,u,hu,h3⟩
   have:=(Vk hG h3).1
   unfold Gg at this
   exact⟨⟨u,hu,(Rt hG).2 ⟨by simpa using this,h1.1,h1.2,by rw[Ii];exact h3⟩⟩,h2⟩
  ·rintro⟨⟨u,hu,h3⟩,h2⟩
   obtain⟨g1,g2,g3,g4⟩:=(Rt hG).1 h3
   exact⟨⟨g2,g3⟩,h2,u,hu,by rw[Ii];exact g4⟩
end Go.Proofs.YtjpmmkodoeipmaaGreatDoor
end
section
namespace Go.Proofs.YtjpmmkodoeipmaaGreatDoor
open Go.Gr
def Q7:List Int->List Int->Bool
 |[],[]=>false
 |[],_::_=>true
 |_::_,[]=>false
 |x::a,y::b=>decide (x<y)||(decide (x=y)&&Q7 a b)
theorem eJ:∀{a b:List Int},a.length=b.length->Q7 a b=true->∀(x y:List Int),Q7 (a++x) (b++y)=true
 |[],[],_,h,_,_=>by simp[Q7]at h
 |[],_::_,e,_,_,_=>by simp at e
 |_::_,[],e,_,_,_=>by simp at e
 |
  p::a,q::b,e,h,x,y=>by
  simp only[Q7,AT,Dj,Ap,decide_eq_true_eq]at h⊢
  rcases h with h|⟨h1,h2⟩
  ·exact .inl h
  ·exact .inr ⟨h1,eJ (by simpa using e) h2 x y⟩
theorem eK:∀(a:List Int) {x y:Int},x<y->Q7 (a++[x]) (a++[y])=true
 |[],x,y,h=>by simp[Q7,h]
 |
  p::a,x,y,h=>by
  simp only[Q7,AT,Dj,Ap,decide_eq_true_eq]
  exact .inr ⟨trivial,eK a h⟩
def Ha(G:Gr)(ps:List Int->Bool)(l:List Int):List (List Int):=(LG G l).filter ps
def C8(G:Gr)(ps:List Int->Bool):Nat->List (List Int)
 |0=>(qA G 0).filter ps
 |k+1=>(C8 G ps k).flatMap (Ha G ps)
def eX(ps:List Int->Bool)(l:List Int):Bool:=(List.range l.length).all λn=>ps (l.take (n+1))
theorem Xu(ps:List Int->Bool)(l:List Int)(v:Int):eX ps (l++[v])=(eX ps l&&ps (l++[v])):=by
 unfold eX
 rw[Ah,BE,D1,List.all_append,List.all_cons,List.all_nil,Bool.and_true]
 congr 1
 ·rw[CJ,CU,CU]
  have h:∀n∈List.range l.length,(l++[v]).take (n+1)=l.take (n+1):=λn hn=>BW (by have:=AM.1 hn;omega)
  exact⟨λg n hn=>by rw[<-h n hn];exact g n hn,λg n hn=>by rw[h n hn];exact g n hn⟩
 ·rw[Al (by simp)]
theorem Fi {G:Gr}(hG:G.Ok) {ps:List Int->Bool}:∀(k:Nat) {x:List Int},x∈C8 G ps k↔Ev G x=true/\x.length=k+1/\eX ps x=true
 |
  0,x=>by
  unfold C8
  rw[Az,UA hG]
  constructor
  ·rintro⟨⟨h1,h2⟩,h3⟩
   obtain⟨v,rfl⟩:=Cz.1 h2
   exact⟨h1,h2,by simpa[eX]using h3⟩
  ·rintro⟨h1,h2,h3⟩
   obtain⟨v,rfl⟩:=Cz.1 h2
   exact⟨⟨h1,h2⟩,by simpa[eX]using h3⟩
 |
  k+1,x=>by
  unfold C8
  rw[AL]
  unfold Ha LG
  constructor
  ·rintro⟨l,hl,hx⟩
   obtain⟨h1,h2,h3⟩:=(Fi hG k).1 hl
   obtain⟨hx,hp⟩:=Az.1 hx
   obtain⟨v,hv,rfl⟩:=An.1 hx
   have:=(Qm hG).1 hv
   rw[Jt,this.1,this.2,Xu,h3,hp]
   exact⟨rfl,by rw[Ah,h2];rfl,rfl⟩
  ·rintro⟨h1,h2,h3⟩
   have hne:x≠[]:=λe=>by rw[e]at h2;simp at h2
   have hx:=List.dropLast_concat_getLast hne
   generalize x.getLast hne=v at hx
   generalize x.dropLast=l at hx
   subst hx
   rw[Jt,Ap]at h1
   rw[Xu,Ap]at h3
   rw[Ah,BE]at h2
   exact⟨l,(Fi hG k).2 ⟨h1.1,by omega,h3.1⟩,Az.2 ⟨An.2 ⟨v,(Qm hG).2 h1,rfl⟩,h3.2⟩⟩
theorem sJ(G:Gr)(l:List Int):(K9 G l).Pairwise (· < ·):=by
 unfold K9
 split
 ·exact(WA G l).sublist EI
 ·exact .nil
theorem kF(G:Gr)(ps:List Int->Bool)(l:List Int):(Ha G ps l).Pairwise λa b=>Q7 a b=true:=by
 unfold Ha LG
 refine ACF EI ?_
 rw[B7]
 exact(sJ G l).imp λh=>eK l h
theorem Ra {G:Gr}(hG:G.Ok)(ps:List Int->Bool):∀k,(C8 G ps k).Pairwise λa b=>Q7 a b=true
 |
  0=>by
  unfold C8 qA
  refine ACF EI ?_
  rw[B7]
  exact(MY _).imp λh=>by simp[Q7,h]
 |
  k+1=>by
  unfold C8
  rw[ACD]
  refine⟨λl _=>kF G ps l,?_⟩
  refine Er ?_ (Ra hG ps k)
  intro a b ha hb hab x hx y hy
  unfold Ha LG at hx hy
  obtain⟨v,_,rfl⟩:=An.1 (Az.1 hx).1
  obtain⟨u,_,rfl⟩:=An.1 (Az.1 hy).1
  exact eJ (by rw[((Fi hG k).1 ha).2.1,((Fi hG k).1 hb).2.1]) hab _ _
theorem AAy {a b:List Int}(h:Q7 a b=true):a≠b:=by
 rintro rfl
 induction a with
 |nil=>simp[Q7]at h
 |cons x a ih=>simp[Q7]at h;exact ih h
theorem qD {G:Gr}(hG:G.Ok) {ps:List Int->Bool} {k:Nat} {a b:List Int}(ha:a∈C8 G ps k)(hb:b∈C8 G ps k)(e:DF a=DF b):a=b:=by
 have h1:=WO hG ((Fi hG k).1 ha).1
 have h2:=WO hG ((Fi hG k).1 hb).1
 rw[<-jF]at h1 h2
 rw[e,h2]at h1
 exact(Ce h1).symm
theorem yJ {α:Type}:∀{l m:List α},l.Nodup->(∀x∈l,x∈m)->l.length<=m.length
 |[],_,_,_=>Am _
 |
  x::l,m,hn,hs=>by
  obtain⟨a,b,rfl⟩:=List.append_of_mem (hs x MV)
  rw[Cs]at hn
  have:=yJ (l:=l) (m:=a++b) hn.2 λy hy=>by
   have h:=hs y (A9 _ hy)
   rw[Ag,Ai]at h
   rw[Ag]
   rcases h with h|h|h
   ·exact .inl h
   ·exact absurd (h▸hy) hn.1
   ·exact .inr h
  rw[Ah]at this
  rw[Aw,Ah,Aw]
  omega
theorem Uf {G:Gr}(hG:G.Ok)(ps:List Int->Bool)(k:Nat):(C8 G ps k).length<=2^G.labels.length:=by
 have hs:((C8 G ps k).map DF).Nodup:=by
  unfold List.Nodup
  rw[B7]
  refine Er ?_ (Ra hG ps k)
  exactλha hb hab e=>AAy hab (qD hG ha hb e)
 have hl:=yJ hs (m:=(List.range (2^G.labels.length)).map (pick (I9 G.labels.length))) λp hp=>by
  obtain⟨x,hx,rfl⟩:=An.1 hp
  have hc:=((Fi hG k).1 hx).1
  have hlk:=IJ hG hc
  have hsub:=wB (MY G.labels.length) (BK x).1 λy hy=>by
   have:=jG hlk ((BK x).2 y|>.1 hy)
   unfold Gg at this
   exact Kv.2 (by simpa using this)
  obtain⟨m,hm,he⟩:=Ur hsub
  rw[Ke]at hm
  exact An.2 ⟨m,AM.2 hm,he⟩
 simpa using hl
theorem Oy {G:Gr} {ps:List Int->Bool} {k:Nat}(h:C8 G ps k=[]):∀m,k<=m->C8 G ps m=[]:=by
 intro m hm
 induction m with
 |zero=>rw[show k=0 by omega]at h;exact h
 |
  succ m ih=>
  rcases BL m k with hk|hk
  ·rw[show m+1=k by omega];exact h
  ·unfold C8;rw[ih hk];rfl
def Ed(G:Gr)(ps:List Int->Bool):Nat->List (List (List Int))
 |0=>[]
 |d+1=>if C8 G ps d=[]then Ed G ps d else Ed G ps d++[C8 G ps d]
theorem GS {G:Gr} {ps:List Int->Bool}:∀{d:Nat},(∀k,k<d->C8 G ps k≠[])->Ed G ps d=(List.range d).map (C8 G ps)
 |0,_=>rfl
 |
  d+1,h=>by
  unfold Ed
  rw[if_neg (h d (by omega)),GS λk hk=>h k (by omega),D1,A7];rfl
theorem Ud {G:Gr} {ps:List Int->Bool} {k:Nat}(h:C8 G ps k=[]):∀{d:Nat},k<=d->Ed G ps d=Ed G ps k:=by
 intro d hd
 induction d with
 |zero=>rw[show k=0 by omega]
 |
  succ d ih=>
  rcases BL d k with hk|hk
  ·rw[show d+1=k by omega]
  ·conv=>lhs;unfold Ed
   rw[if_pos (Oy h d hk),ih hk]
theorem Ow(G:Gr)(ps:List Int->Bool)(d:Nat):∃m,m<=d/\Ed G ps d=(List.range m).map (C8 G ps)/\(∀k,k<m->C8 G ps k≠[])/\(m<d->C8 G ps m=[]):=by
 by_cases h:∃k,k<d/\C8 G ps k=[]
 ·obtain⟨k,hk,he⟩:=h
  let q:Nat->Bool:=λk=>decide (C8 G ps k=[])
  have hx:∃m,C8 G ps m=[]/\m<=k/\∀j,j<m->C8 G ps j≠[]:=by
   clear hk
   induction k with
   |zero=>exact⟨0,he,Ax _,λj hj=>absurd hj (Nat.not_lt_zero _)⟩
   |
    succ k ih=>
    by_cases hz:∃j,j<=k/\C8 G ps j=[]
    ·obtain⟨j,hj,hz⟩:=hz
     have hz':=Oy hz k hj
     obtain⟨m,h1,h2,h3⟩:=ih hz'
     exact⟨m,h1,by omega,h3⟩
    ·exact⟨k+1,he,Ax _,λj hj e=>hz ⟨j,by omega,e⟩⟩
  obtain⟨m,h1,h2,h3⟩:=hx
  exact⟨m,by omega,by rw[Ud h1 (show m<=d by omega),GS h3],h3,λ_=>h1⟩
 ·exact⟨d,Ax _,GS λk hk e=>h ⟨k,hk,e⟩,λk hk e=>h ⟨k,hk,e⟩,λh=>absurd h (Nat.lt_irrefl _)⟩
end Go.Proofs.YtjpmmkodoeipmaaGreatDoor
end
section
namespace Go.Proofs.YtjpmmkodoeipmaaGreatDoor
open Go.Gr
def CD(G:Gr)(e:Bool):Gr:=if e=true then IF G else G
theorem IW {G:Gr}(hG:G.Ok)(hn:G.labels.length<=10)(hm:G.edges.length<=30)(e:Bool):(CD G e).Ok:=by
 unfold CD
 split
 ·have:=Sk hG hn hm
  exact ABI hG (by omega) (by omega)
 ·exact hG
theorem oT(G:Gr)(e:Bool):(CD G e).labels.length=if e=true then G.edges.length else G.labels.length:=by
 unfold CD
 cases e with
 |true=>rw[if_pos rfl,if_pos rfl];exact B8
 |false=>rfl
theorem oS {G:Gr}(hG:G.Ok)(hn:G.labels.length<=10)(hm:G.edges.length<=30):aW G=.tuple [dG (CD G true),.nili]:=jE hG hn hm
def Lt(l:List Opp)(p:Pt):Bool:=(Dp p).isNone&&l.all λo=>Dk o p
def Jz(G:Gr)(e:Bool)(l:List Opp)(x:List Int):Bool:=C6 (CD G e) x&&if e=true then decide ((C5 (Cw G.edges x)).length<=8)&&Lt l (Vl G x)else decide (x.length<=8)&&Lt l (NW G x)
def JO(G:Gr)(ps:List Int->Bool)(m:Nat):Nat:=((List.range m).map λk=>(C8 G ps k).length).sum
theorem Kg(G:Gr)(ps:List Int->Bool)(m:Nat):JO G ps (m+1)=JO G ps m+(C8 G ps m).length:=by
 unfold JO
 rw[D1,A7,List.sum_append];simp
theorem mF {G:Gr}(hG:G.Ok)(ps:List Int->Bool):∀m,JO G ps m<=m*2^G.labels.length
 |0=>by simp[JO]
 |
  m+1=>by
  rw[Kg,Nat.succ_mul]
  have:=mF hG ps m
  have:=Uf hG ps m
  omega
theorem pJ(G:Gr)(ps:List Int->Bool) {m d:Nat}(h:m<=d):JO G ps m<=JO G ps d:=by
 induction d with
 |zero=>rw[show m=0 by omega];exact Ax _
 |
  succ d ih=>
  rw[Kg]
  rcases BL d m with g|g
  ·rw[show m=d+1 by omega,Kg];exact Ax _
  ·have:=ih g;omega
theorem Ze {G:Gr}(hG:G.Ok)(ps:List Int->Bool)(hn:G.labels.length<=8) {m:Nat}(hm:m<=8):JO G ps m<=2048:=by
 have h1:=mF hG ps m
 have h2:2^G.labels.length<=256:=BH (JZ (by decide) hn) (by decide)
 have h3:m*2^G.labels.length<=8*256:=DO hm h2
 omega
theorem ABw {G:Gr} {ps:List Int->Bool} {d k:Nat} {R:List (List Int)}(h:(Ed G ps d)[k]? =some R):R=C8 G ps k:=by
 obtain⟨m,_,e,_,_⟩:=Ow G ps d
 rw[e,Ad]at h
 rcases BL k m with g|g
 ·rw[CN g]at h;exact(Ce h).symm
 ·rw[AI (by rw[D9];exact g)]at h;cases h
theorem Uc(G:Gr)(ps:List Int->Bool)(d:Nat):(Ed G ps d).length<=d:=by
 obtain⟨m,h,e,_,_⟩:=Ow G ps d
 rw[e,Ac,D9];exact h
theorem sB {l:List Opp} {p:Pt} {n:Nat}(hp:PtOk n p)(hl:∀o∈l,Fl o=0):(l.all λo=>Ul o p)=l.all λo=>Dk o p:=by
 induction l with
 |nil=>rfl
 |
  cons o l ih=>
  rw[List.all_cons,List.all_cons,ih λx hx=>hl x (A9 _ hx)]
  have h0:=hl o MV
  unfold Fl at h0
  rw[sH hp]
  ·apply EV;intro h;rw[if_pos (.inl (by omega))]at h0;omega
  ·apply EV;intro h;rw[if_pos (.inr (by omega))]at h0;omega
end Go.Proofs.YtjpmmkodoeipmaaGreatDoor
end
section
namespace Go.Proofs.YtjpmmkodoeipmaaGreatDoor
open Go.Sx Go.RowKit Go.Reg Go.Gr
set_option maxRecDepth 100000
def dJ(G:Gr)(e:Bool)(d:Int)(l:List Opp):Da:=.agg [dG G,.bool e,.int .i64 d,Ka l]
structure JobOk(G:Gr)(e:Bool)(d:Int)(l:List Opp):Prop where
 ok:G.Ok
 n:G.labels.length<=7
 m:G.edges.length<=30
 me:e=true->G.edges.length<=8
 d:1<=d/\d<=8
 l16:l.length<=16
 lok:∀o∈l,Fl o=0
theorem nP {n:Nat} {p:Pt}(hp:PtOk n p)(h8:n<=8)(hl:∀x∈p.labels,0<=x/\x<=255):Dp p=none:=by
 unfold Dp
 have h1:M6 p.labels=none:=by
  refine Yq (by rw[hp.len];omega) λk y hk hy=>?_
  have:=hl y (A8 hy)
  unfold BX
  simp;omega
 rw[h1]
 refine MK λi hi=>?_
 have hx:=Ab hi
 have he:=hp.edge _ (Bc hi)
 generalize hE:p.edges[i]=e at hx he
 unfold Y5
 rw[hx]
 simp only
 rw[AAA]
 unfold Y4
 rw[if_neg (by rw[hp.len];simp;omega),if_neg (by omega)]
 by_cases h0:i=0
 ·rw[if_pos h0]
 ·rw[if_neg h0]
  have hj:i-1<p.edges.length:=by omega
  rw[Ab hj]
  simp only
  rw[if_pos]
  have:=AO.1 hp.strict (i-1) i hj hi (by omega)
  rwa [hE]at this
section
variable {G:Gr} {e:Bool} {d:Int} {l:List Opp}
def AFr:List FuncId:=[54,56]
theorem On(h:JobOk G e d l):Pure C1 19 [dJ G e d l] (λy=>y=.tuple [dG (CD G e),.nili]):=by
 have hp:=Li l h.l16 h.lok
 have hlo:=yX G h.ok (by have:=h.m;omega)
 rw[oS h.ok (by have:=h.n;omega) h.m]at hlo
 have h1:=h.d.1
 have h2:=h.d.2
 refine AW Tryz.func19 Tryz.ntmps19 AFr [] ?_
 cases e with
 |
  true=>
  (conv=>whnf)
  (repeat' ((first|refine Aj ?_ ?_|refine Af rfl hp ?_|refine Af rfl hlo ?_|refine nx ?_|refine AD (λ_=>?_) (λ_=>?_)|exact AG)<;>conv=>whnf))
  exact rfl
 |
  false=>
  (conv=>whnf)
  (repeat' ((first|refine Aj ?_ ?_|refine Af rfl hp ?_|refine Af rfl hlo ?_|refine nx ?_|refine AD (λ_=>?_) (λ_=>?_)|exact AG)<;>conv=>whnf))
  exact rfl
theorem Su(h:JobOk G e d l):Pure C1 26 [dJ G e d l] (λy=>y=.nili):=by
 have hw:=On h
 refine AW Tryz.func26 Tryz.ntmps26 [] [] ?_
 (conv=>whnf)
 (repeat' ((first|refine Aj ?_ ?_|refine Af rfl hw ?_|refine nx ?_|refine AD (λ_=>?_) (λ_=>?_)|exact AG)<;>conv=>whnf))
 exact rfl
theorem bI(x:Int)(X:List Int)(hl:(x::X).length<=2000000000):Pure C1 88 [Bn (x::X)] (λy=>y=Bn (x::X)):=by
 have hlm:((x::X).map dI).length=(x::X).length:=Ac _
 refine AW Tryz.func88 Tryz.ntmps88 QF Mo ?_
 have hlm2:(([]:List Da).length+((x::X).map dI).length)<=4294967296:=by rw[hlm];simp at hl⊢;omega
 ((conv=>whnf);repeat' ((first|refine odw ?_|refine nx ?_|refine AD (λ_=>?_) (λ_=>?_))<;>conv=>whnf))
 all_goals first|exact rfl|(refine JE hlm2 ?_;((conv=>whnf);repeat' ((first|refine odw ?_|refine nx ?_|refine AD (λ_=>?_) (λ_=>?_))<;>conv=>whnf));exact rfl)
theorem sD {X:List Int}(h0:X≠[])(hl:X.length<=1000):Pure C1 88 [Bn X] (λy=>y=Bn X):=by
 cases X with
 |nil=>exact absurd rfl h0
 |cons x X=>exact bI x X (by omega)
def iJ(G:Gr)(e:Bool)(x:List Int):Da:=if e=true then Xk G x else if 8<x.length then .tuple [dP0,.nils,dF 6 0 LD]else if C6 G x=false then .tuple [dP0,.nils,dF 2 0 LD]else .tuple [FE (NW G x),Bn x,.nili]
def ADE:List (Nat×Plan):=[(9,.split 0 2 (.leaf [1,0,3,3,0,0] [1,0,2,3,4,5] [0,0,3,7,15,31]) (.leaf [1,0,3,3,0,0] [1,2,0,3,4,5] [6,0,2,7,15,31]))]
def AFt:List FuncId:=[26,110,111]
theorem Oh(h:JobOk G e d l)(X:List Int)(h0:X≠[])(hx:X.length<=1000):Pure C1 65 [dJ G e d l,Bn X] (λz=>z=iJ G e X):=by
 have hr:=Su h
 have hcl:=sD h0 hx
 have hq:=gZ G h.ok X hx
 have hv:=ZL G h.ok X (by omega)
 refine AW Tryz.func65 Tryz.ntmps65 AFt ADE ?_
 cases e with
 |
  true=>
  unfold iJ
  rw[if_pos rfl]
  unfold Xk at hq⊢
  by_cases h1:C6 (IF G) X=false
  ·rw[if_pos h1]at hq⊢
   (conv=>whnf)
   (repeat' ((first|refine Aj ?_ ?_|refine Br tab rfl hr rfl ?_|refine Af rfl hq ?_|refine nx ?_|refine AD (λ_=>?_) (λ_=>?_)|exact AG)<;>conv=>whnf))
   exact rfl
  ·rw[if_neg h1]at hq⊢
   by_cases h2:8<(C5 (Cw G.edges X)).length
   ·rw[if_pos h2]at hq⊢
    (conv=>whnf)
    (repeat' ((first|refine Aj ?_ ?_|refine Br tab rfl hr rfl ?_|refine Af rfl hq ?_|refine nx ?_|refine AD (λ_=>?_) (λ_=>?_)|exact AG)<;>conv=>whnf))
    exact rfl
   ·rw[if_neg h2]at hq⊢
    (conv=>whnf)
    (repeat' ((first|refine Aj ?_ ?_|refine Br tab rfl hr rfl ?_|refine Af rfl hq ?_|refine nx ?_|refine AD (λ_=>?_) (λ_=>?_)|exact AG)<;>conv=>whnf))
    exact rfl
 |
  false=>
  unfold iJ
  rw[if_neg (by decide)]
  by_cases h1:8<X.length
  ·rw[if_pos h1]at hv⊢
   (conv=>whnf)
   (repeat' ((first|refine Aj ?_ ?_|refine Br tab rfl hr rfl ?_|refine Af rfl hv ?_|refine nx ?_|refine AD (λ_=>?_) (λ_=>?_)|exact AG)<;>conv=>whnf))
   exact rfl
  ·rw[if_neg h1]at hv⊢
   by_cases h2:C6 G X=false
   ·rw[if_pos h2]at hv⊢
    (conv=>whnf)
    (repeat' ((first|refine Aj ?_ ?_|refine Br tab rfl hr rfl ?_|refine Af rfl hv ?_|refine nx ?_|refine AD (λ_=>?_) (λ_=>?_)|exact AG)<;>conv=>whnf))
    exact rfl
   ·rw[if_neg h2]at hv⊢
    (conv=>whnf)
    (repeat' ((first|refine Aj ?_ ?_|refine Br tab rfl hr rfl ?_|refine Af rfl hv ?_|refine Af rfl hcl ?_|refine nx ?_|refine AD (λ_=>?_) (λ_=>?_)|exact AG)<;>conv=>whnf))
    exact rfl
theorem Nf(h:JobOk G e d l):(CD G e).labels.length<=8:=by
 rw[oT]
 split
 ·exact h.me (by assumption)
 ·have:=h.n;omega
theorem zF(hG:G.Ok) {E:List Edg} {V:List Int}(h8:V.length<=8)(hr:∀x∈V,0<=x/\x<(G.labels.length:Int)):Dp ⟨V.map (ES G),UC E V⟩=none:=by
 refine nP (n:=V.length) ⟨Ac _,λe he=>?_,Lc _ _ _⟩ h8 λx hx=>?_
 ·obtain⟨j,x,hj,hx,hjx,_,rfl⟩:=Rs.1 he
  simp only;omega
 ·obtain⟨y,hy,rfl⟩:=An.1 hx
  exact WT hG (hr y hy)
theorem WU(hG:G.Ok) {X:List Int}(h8:(C5 (Cw G.edges X)).length<=8):Dp (Vl G X)=none:=by
 refine zF hG h8 λx hx=>?_
 obtain⟨e,he,hxe⟩:=((KT _).2 x).1 hx
 have:=hG.edge e (Vi e he)
 omega
theorem Rz(hG:G.Ok) {X:List Int}(h8:X.length<=8)(hl:C6 G X=true):Dp (NW G X)=none:=zF hG h8 (OF hl)
def AFs:List FuncId:=[65,141]
theorem ZQ(h:JobOk G e d l)(X:List Int)(h0:X≠[])(hx:X.length<=1000):Pure C1 97 [dJ G e d l,Bn X] (λz=>z=.bool (Jz G e l X)):=by
 have hp:=Oh h X h0 hx
 refine AW Tryz.func97 Tryz.ntmps97 AFs [] ?_
 cases e with
 |
  true=>
  unfold iJ at hp
  rw[if_pos rfl]at hp
  unfold Xk at hp
  unfold Jz
  rw[show CD G true=IF G from rfl,if_pos rfl]
  by_cases h1:C6 (IF G) X=false
  ·rw[if_pos h1]at hp
   rw[h1]
   (conv=>whnf)
   (repeat' ((first|refine Aj ?_ ?_|refine Af rfl hp ?_|refine nx ?_|refine AD (λ_=>?_) (λ_=>?_)|exact AG)<;>conv=>whnf))
   exact rfl
  ·rw[if_neg h1]at hp
   rw[Bool.not_eq_false]at h1
   rw[h1]
   by_cases h2:8<(C5 (Cw G.edges X)).length
   ·rw[if_pos h2]at hp
    rw[decide_eq_false (by omega)]
    (conv=>whnf)
    (repeat' ((first|refine Aj ?_ ?_|refine Af rfl hp ?_|refine nx ?_|refine AD (λ_=>?_) (λ_=>?_)|exact AG)<;>conv=>whnf))
    exact rfl
   ·rw[if_neg h2]at hp
    rw[decide_eq_true (by omega)]
    have he:=WU (X:=X) h.ok (by omega)
    have hk:=UI l (Vl G X) h.l16 h.lok he
    unfold Lt
    rw[he]
    (conv=>whnf)
    (repeat' ((first|refine Aj ?_ ?_|refine Af rfl hp ?_|refine Br tab rfl hk rfl ?_|refine nx ?_|refine AD (λ_=>?_) (λ_=>?_)|exact AG)<;>conv=>whnf))
    exact congrArg Da.bool (by simp)
 |
  false=>
  unfold iJ at hp
  rw[if_neg (by decide)]at hp
  unfold Jz
  rw[show CD G false=G from rfl,if_neg (by decide)]
  by_cases h2:8<X.length
  ·rw[if_pos h2]at hp
   rw[decide_eq_false (show¬X.length<=8 by omega),Bool.false_and,Bool.and_false]
   (conv=>whnf)
   (repeat' ((first|refine Aj ?_ ?_|refine Af rfl hp ?_|refine nx ?_|refine AD (λ_=>?_) (λ_=>?_)|exact AG)<;>conv=>whnf))
   exact rfl
  ·rw[if_neg h2]at hp
   by_cases h1:C6 G X=false
   ·rw[if_pos h1]at hp
    rw[h1]
    (conv=>whnf)
    (repeat' ((first|refine Aj ?_ ?_|refine Af rfl hp ?_|refine nx ?_|refine AD (λ_=>?_) (λ_=>?_)|exact AG)<;>conv=>whnf))
    exact rfl
   ·rw[if_neg h1]at hp
    rw[Bool.not_eq_false]at h1
    rw[h1,decide_eq_true (show X.length<=8 by omega)]
    have he:=Rz h.ok (by omega) h1
    have hk:=UI l (NW G X) h.l16 h.lok he
    unfold Lt
    rw[he]
    (conv=>whnf)
    (repeat' ((first|refine Aj ?_ ?_|refine Af rfl hp ?_|refine Br tab rfl hk rfl ?_|refine nx ?_|refine AD (λ_=>?_) (λ_=>?_)|exact AG)<;>conv=>whnf))
    exact congrArg Da.bool (by simp)
def AFu:List FuncId:=[97]
theorem jR(h:JobOk G e d l)(X:List Int)(h0:X≠[])(hx:X.length<=1000):Pure C1 96 [Bn X,.ref (dJ G e d l)] (λz=>z=.bool (!Jz G e l X)):=by
 have hp:=ZQ h X h0 hx
 refine AW Tryz.func96 Tryz.ntmps96 AFu [] ?_
 (conv=>whnf)
 (repeat' ((first|refine Aj ?_ ?_|refine Br tab rfl hp rfl ?_|refine nx ?_|refine AD (λ_=>?_) (λ_=>?_)|exact AG)<;>conv=>whnf))
 exact rfl
end
end Go.Proofs.YtjpmmkodoeipmaaGreatDoor
end
section
namespace Go.Reg
open Go Go.RowKit Go.Sort Go.Proofs
abbrev encV(v:Value):List Value:=[v]
theorem IN(l:List Value):l.flatMap encV=l:=by induction l with
 |nil=>rfl
 |cons v l ih=>rw[BD,ih];rfl
abbrev OB:Value:=.slice none 0 0
theorem Sl.zeroV {P:Program} {E:Nat} {w:World} {l:List Value} {g c:Nat}(h:Sl E 1 encV w (.slice (some ⟨g,0,none⟩) l.length c) l) {m:Nat}(hm:m<=l.length):
  ∃w',(storeCells ⟨g,m,none⟩ (List.replicate (l.length-m) OB)).run P w=.ok () w'/\Sl E 1 encV w' (.slice (some ⟨g,0,none⟩) l.length c) (l.take m++List.replicate (l.length-m) OB)/\Tch [g] w w':=by
 rcases h.2 with⟨h1,_⟩|⟨g',cap',cur,h1,h0,hg,hc,hmx,hs,ht⟩
 ·cases h1
 ·cases h1
  rw[FA]at hs
  have hsz:l.length<=cur.size:=by omega
  have hr:=run_storeCells_at P g m E (List.replicate (l.length-m) OB) 0 cur w hg (by rw[B8];omega) (by intro v hv;rw[lT hv];rfl)
  rw[Et,B8]at hr
  have hl2:(l.take m++List.replicate (l.length-m) OB).length=l.length:=by rw[Ah,AA,B8];omega
  have e0:m+(l.length-m)=l.length:=by omega
  rw[e0]at hr
  refine⟨_,hr,?_,⟨rfl,rfl,rfl,by simp[World.setRow],λj hj hn=>by
    have:g≠j:=λe=>hn (by simp[e])
    simp[World.setRow,C9,this]⟩⟩
  unfold Sl
  rw[IN,hl2]
  refine⟨by omega,.inr ⟨g,c,(cur.toList.take m++List.replicate (l.length-m) OB++cur.toList.drop l.length).toArray,rfl,Am _,setRow_heap w g cur _ E (0,0) hg,hc,hmx,?_,?_⟩⟩
  ·simp;omega
  ·rw[IN,FA]at ht
   rw[FA]
   have h1:(cur.toList.take m++List.replicate (l.length-m) OB).length=l.length:=by simp;omega
   rw[BW (by omega),Al (by omega),<-ht,HW,LN hm]
end Go.Reg
namespace Go.Sx
open Go Go.RowKit Go.Reg Go.Gr Go.Proofs Go.Proofs.YtjpmmkodoeipmaaGreatDoor
def LC(E:Nat)(l:List Value)(m g c:Nat):Absn where
 R w v F:=v=.slice (if c=m then some ⟨g,0,none⟩else some ⟨g,m,none⟩) (l.length-m) (c-m)/\F=[g]/\m<=l.length/\Sl E 1 encV w (.slice (some ⟨g,0,none⟩) l.length c) l
 keep:=by
  rintro S w w' v F ⟨rfl,rfl,hm,h⟩ t hd
  exact⟨rfl,rfl,hm,h.keep t (λb hb=>by simp[Value.ownBlock]at hb;subst hb;exact hd g (by simp))⟩
 lt:=by
  rintro w v F ⟨rfl,rfl,hm,h⟩ x hx
  simp at hx;subst hx
  exact h.lt rfl
 one:=by rintro w v F ⟨rfl,rfl,hm,h⟩;rfl
theorem aB {O:List Nat} {w:World}:∀{ds:List Da} {css:List (List Value)},Aq O w ds css->(∀x∈css,ER 1 x)->∃vs:List Value,css=vs.map encV/\vs.length=ds.length
 |[],css,h,_=>by simp only[Aq]at h;subst h;exact⟨[],rfl,rfl⟩
 |
  d::ds,css,h,hr=>by
  simp only[Aq]at h
  obtain⟨c1,c2,rfl,_,h2⟩:=h
  obtain⟨vs,rfl,hl⟩:=aB h2 λx hx=>hr x (A9 _ hx)
  obtain⟨v,rfl⟩:=Cz.1 (hr c1 MV).1
  exact⟨v::vs,rfl,by rw[Aw,Aw,hl]⟩
theorem lX {E:Nat} {w:World} {v:Value} {l:List Value}:Sl E 1 id w v (l.map encV)↔Sl E 1 encV w v l:=by
 unfold Sl
 rw[Ac,List.flatMap_id,IN]
 rw[show(l.map encV).flatten=l from by rw[<-List.flatMap_def];exact IN l]
theorem YT:∀{ds:List Da} {vs:List Value},(∀d∈ds,d.one=true)->vs.length=ds.length->List.zipWith Ea ds (vs.map encV)=vs
 |[],[],_,_=>rfl
 |[],_::_,_,h=>by cases h
 |_::_,[],_,h=>by cases h
 |
  d::ds,v::vs,h1,h2=>by
  rw[Ar,Bh,YT (λd hd=>h1 d (A9 _ hd)) (by simpa using h2),SR (h1 d MV)];rfl
section
variable {C:Cx} {T:Hh} {n kd:Nat} {fr:Fr} {σ:Sg} {E i:Nat} {l:List Value} {o:Oper} {K:Fr->Sg->Prop} {B S:List Nat} {w0 w w':World} {η:Nat->Value} {φ:Nat->List Nat} {a:Act}
theorem Models.pins(hM:Models C B S w0 n fr σ η φ a w) {g:Nat}(hg:BI g σ=none) {xs:List Da} {us:List Value} {css:List (List Value)}(hr:Aq (B++Ao φ σ) w xs css)(hu:us=List.zipWith Ea xs css):Models C B S w0 n fr ((g,.ghost [.tuple us.toArray] [.d (.tuple xs)])::σ) (CE η g .nilFunc) (CE φ g []) a w:=by
 have hi':=CQ hg
 obtain⟨hm,hl⟩:=hM.mem.add (Tch.refl [] w) hi' (v:=.nilFunc) (F:=[]) (o:=.ghost [.tuple us.toArray] [.d (.tuple xs)]) (by simp) ⟨rfl,rfl,[[.tuple us.toArray]],by simp only[AE,AH,RepC];exact⟨_,_,rfl,⟨css,hr,by rw[hu]⟩,rfl⟩,rfl⟩
 exact⟨hm,hM.fr.add hi' hl,hM.defers,hM.size⟩
theorem vM:∀{σ:Sg} {i:Nat},i∉BA σ->BI i σ=none
 |[],_,_=>rfl
 |
  (j,o)::σ,i,h=>by
  cases hs:BI i ((j,o)::σ)with
  |none=>rfl
  |some q=>exact absurd (AV (AQ hs)) h
theorem xX(m gh:Nat) {ds:List Da} {t:TypeId} {x lo:Operand} {e ee:TyI}(hC:C.Ok T)(i:Nat)(ho:o.op=.slice t x (some lo) none none)(he:GQ t T=some e)(hk2:e.kd=2)(hee:GQ e.elem T=some ee)(h1:ee.size=1)(hx:ev C.Γ fr x=.own i)(hg:BI i σ=some (.slice E 1 ds))(hgh:BI gh σ=none)(hone:∀d∈ds,d.one=true) {mi:Int}(hlo:ev C.Γ fr lo=.d (.int .i64 mi))(hmi:mi=m)(hm:m<=ds.length)(hl:ds≠[])(hkd:kd≠5/\kd≠2)(hd:Dh o.dst n=true)
  (hK:∀g c vs,vs.length=ds.length->Gi (Fj i (.raw (.slice (some ⟨g,0,none⟩) ds.length c)) fr) λfr=>Ci (Fm gh (.ghost [.tuple (vs.take m).toArray] [.d (.tuple (ds.take m))]) (AX (BM i (.raw (.slice (some ⟨g,0,none⟩) ds.length c))) i (LC E vs m g c).own σ)) λσ=>K (CF o.dst (.own i) fr) σ):Bm C n kd o K fr σ:=by
 subst hmi
 refine CC hkd.1 hkd.2 λB S w0 η φ a w hM=>⟨λ_=>by simp[BG,ho],.inl ?_⟩
 obtain⟨css,hs,e2,hrr,hkk⟩:=BV hM.mem hg
 obtain⟨vs,rfl,hvl⟩:=aB hrr hkk
 have hs1:=lX.1 hs
 rcases hs1.shape with⟨_,rfl⟩|⟨g,cap,e3,hc⟩
 ·exact absurd (AJ hvl.symm) hl
 have ex:=FO (Bb hM x) hx
 have elo:=EZ (Eg (Bb hM lo) hlo)
 rw[hvl]at e3 hc
 have hr:=Gq (w:=w) (hC.ty he) hk2 (hC.ty hee) (ad:=some ⟨g,0,none⟩) (len:=ds.length) (cap:=cap) hc (lo:=some (.int .i64 m)) (hi:=none) (l:=m) (m:=ds.length) ⟨_,rfl⟩ rfl hm (Ax _)
 have hi:=AV (AQ hg)
 have hF:∀b∈[g],b∈φ i\/w.heap.size<=b:=λb hb=>.inl (by rw[e2,e3];simpa[Value.ownBlock]using hb)
 have hl2:=Later.turn (σ:=σ) B (Tch.refl [] w) (X:=[]) (by simp) hi hF (BM i (.raw (.slice (some ⟨g,0,none⟩) ds.length cap))) (LC E vs m g cap).own
 have hM':=hM.turnRaw (Tch.refl [] w) (by simp) hi (v:=.slice (if cap=m then some ⟨g,0,none⟩else some ⟨g,m,none⟩) (ds.length-m) (cap-m)) (F:=[g]) hF (x:=.raw (.slice (some ⟨g,0,none⟩) ds.length cap)) rfl (λO w=>by simp only[RepC];rw[e3]) (ow:=(LC E vs m g cap).own) (show(LC E vs m g cap).R _ _ _ from⟨by rw[hvl],rfl,by rw[hvl];exact hm,by rw[hvl,<-e3];exact hs1⟩)
 have hgh':BI gh (AX (BM i (.raw (.slice (some ⟨g,0,none⟩) ds.length cap))) i (LC E vs m g cap).own σ)=none:=vM (by rw[AZ];exact CQ hgh)
 have hne:i≠gh:=λe=>by rw[e,hgh]at hg;cases hg
 have hM2:=(hM'.pins hgh' (xs:=ds.take m) (us:=vs.take m) (css:=(vs.take m).map encV) (by rw[Gn];exact Mh (Aq.later hl2 _ _ hrr) m) (by rw[YT (λd hd=>hone d (DP hd)) (by rw[AA,AA,hvl])])).perm (C7 gh _ _)
 have hk:=hK g cap vs hvl
 rw[Ei,Bw]at hk
 refine⟨_,w,?_,_,_,_,_,hM2.put hd (d:=.own i) ⟨[.slice (if cap=m then some ⟨g,0,none⟩else some ⟨g,m,none⟩) (ds.length-m) (cap-m)],by simp only[AH];exact⟨by unfold BA;rw[((C7 gh _ _).map _).mem_iff];exact A9 _ (by have:=AZ (BM i (.raw (.slice (some ⟨g,0,none⟩) ds.length cap))) i (LC E vs m g cap).own σ;unfold BA at this;rw[this];exact hi),by rw[BU _ _ _ hne,Ck]⟩,rfl⟩,hk⟩
 simp only[execOp,ho,CA,V6]
 rw[ex,elo,e3]
 refine CZ ?_
 rw[hr]
 congr 2
 split
 ·rfl
 ·simp[DA,h1]
theorem rA {m g c:Nat} {cl:Call} {t:TypeId} {x:Operand} {e:TyI}(hC:C.Ok T)(i:Nat)(ho:o.op=.call cl)(hcl:cl.callee=.builtin .clear)(hxs:cl.args.toList=[x])(hts:cl.argTypes.toList=[t])(he:GQ t T=some e)(hk2:e.kd=2)(hz:∀w,(zeroValue e.elem).run C.P w=.ok OB w)(hx:ev C.Γ fr x=.own i)(hg:BI i σ=some (LC E l m g c).own)(hkd:kd≠5/\kd≠2)(hd:Dh o.dst n=true)
  (hK:Ci (AX id i (LC E (l.take m++List.replicate (l.length-m) OB) m g c).own σ) λσ=>K (CF o.dst (.d (.tuple [])) fr) σ):Bm C n kd o K fr σ:=by
 rw[Bw]at hK
 refine CC hkd.1 hkd.2 λB S w0 η φ a w hM=>⟨λ_=>by simp[BG,ho],.inl ?_⟩
 have ex:=FO (Bb hM x) hx
 obtain⟨ev1,ev2,hm,hs⟩:=Tg hM hg
 have hi:=AV (AQ hg)
 have e1:cl.args=#[x]:=by apply Ey;simpa using hxs
 have e2:cl.argTypes=#[t]:=by apply Ey;simpa using hts
 obtain⟨dd,g1,_,g3,_,_,_,_,g8⟩:=(hC.ty he).desc
 rw[hk2]at g8
 have hdd:∃el,dd=.slice el:=by cases dd<;>simp at g8<;>exact⟨_,rfl⟩
 obtain⟨el,rfl⟩:=hdd
 have hel:=g3 _ rfl
 subst hel
 have hl2:(l.take m++List.replicate (l.length-m) OB).length=l.length:=by rw[Ah,AA,B8];omega
 have step:∀w1,Tch [g] w w1->Sl E 1 encV w1 (.slice (some ⟨g,0,none⟩) l.length c) (l.take m++List.replicate (l.length-m) OB)->J4 C B S w0 n K (a.put o.dst (.tuple #[])) w1:=λw1 ht hs'=>by
  have hX:∀b∈[g],b∈φ i:=λb hb=>by rw[ev2];exact hb
  have hF:∀b∈φ i,b∈φ i\/w.heap.size<=b:=λb hb=>.inl hb
  have hlt:=Later.turn (σ:=σ) B ht hX hi hF id (LC E (l.take m++List.replicate (l.length-m) OB) m g c).own
  have hmm:=hM.mem.turnSame (o:=(LC E (l.take m++List.replicate (l.length-m) OB) m g c).own) ht hX hi hF (show(LC E (l.take m++List.replicate (l.length-m) OB) m g c).R _ _ _ from⟨by rw[hl2];exact ev1,ev2,by rw[hl2];exact hm,by rw[hl2];exact hs'⟩)
  rw[Pz]at hmm hlt
  have M':Models C B S w0 n fr _ η φ a w1:=⟨hmm,hM.fr.later hlt (λj hj=>⟨by rw[AZ];exact hj,rfl⟩),hM.defers,hM.size⟩
  exact⟨_,_,_,_,M'.put hd (d:=.d (.tuple [])) ⟨[.tuple #[]],by simp[AH,RepC,Aq],rfl⟩,hK⟩
 have exec:∀w1,(Builtin.clear_ #[t] o.type #[η i]).run C.P w=.ok (.tuple #[]) w1->(execOp a.eval o).run C.P w=.ok (.value (.tuple #[])) w1:=λw1 h=>by
  simp only[execOp,ho,resolve,hcl,AK,Bo,AF,invoke,builtin,e1,e2,HX,Ar,Bu,ex]
  rw[h];rfl
 by_cases hml:m=l.length
 ·refine⟨_,w,exec w ?_,step w (Tch.refl _ _) ?_⟩
  ·rw[ev1,hml,Dy]
   generalize (if c=l.length then(some ⟨g,0,none⟩:Option Addr)else some ⟨g,l.length,none⟩)=ad
   cases ad<;>simp[Builtin.clear_,run_underlying g1]
  ·rw[hml,Dy,Ez];simpa using hs
 ·obtain⟨w1,r1,r2,r3⟩:=hs.zeroV (P:=C.P) hm
  refine⟨_,w1,exec w1 ?_,step w1 r3 r2⟩
  have hcm:c≠m:=by
   rcases hs.shape with⟨h,_⟩|⟨_,_,h,h2⟩
   ·cases h
   ·cases h;omega
  obtain⟨k,hk⟩:∃k,l.length-m=k+1:=⟨l.length-m-1,by omega⟩
  have hzc:(Builtin.zeroCells (OB).cells (k+1)).toList=List.replicate (k+1) OB:=by
   apply List.ext_getElem
   ·simp[Builtin.zeroCells,Value.cells]
   ·intro j h1 h2
    simp[Builtin.zeroCells,Value.cells,Nat.mod_one]
  rw[ev1,if_neg hcm,hk]
  rw[hk]at r1
  simp[Builtin.clear_,run_underlying g1,hz,hzc,r1]
theorem ZG {O:List Nat} {w:World}:∀{ds:List Da} {css:List (List Value)},Aq O w ds css->(∀d∈ds,d.one=true/\d.stor=true)->css=(List.zipWith Ea ds css).map encV/\∀x∈css,ER 1 x
 |[],css,h,_=>by simp only[Aq]at h;subst h;exact⟨rfl,λx hx=>by cases hx⟩
 |
  d::ds,css,h,ho=>by
  simp only[Aq]at h
  obtain⟨c1,c2,rfl,h1,h2⟩:=h
  obtain⟨g1,g2⟩:=ZG h2 λd hd=>ho d (A9 _ hd)
  obtain⟨o1,o2⟩:=ho d MV
  have hlen:c1.length=1:=by
   have:=FF d c1 h1
   rw[this]
   cases d<;>first|rfl|cases o1
  have hrow:ER 1 c1:=⟨hlen,Mi d c1 o2 h1⟩
  obtain⟨v,rfl⟩:=Cz.1 hlen
  rw[Bh,Ar,SR o1,<-g1]
  exact⟨rfl,λx hx=>by
   rcases Ai.1 hx with e|e
   ·rw[e];exact hrow
   ·exact g2 x e⟩
theorem xY {m g c gh:Nat} {us:List Value} {ds:List Da} {t:TypeId} {x hi:Operand} {e ee:TyI}(hC:C.Ok T)(i:Nat)(ho:o.op=.slice t x none (some hi) none)(he:GQ t T=some e)(hk2:e.kd=2)(hee:GQ e.elem T=some ee) {nn:Nat}(hx:ev C.Γ fr x=.d (.raw (.slice (some ⟨g,0,none⟩) nn c)))(hnn:nn=l.length)(hg:BI i σ=some (LC E l m g c).own)(hgh:BI gh σ=some (.ghost [.tuple us.toArray] [.d (.tuple ds)]))(hus:l.take m=us)(_hdl:ds.length=m)(hone:∀d∈ds,d.one=true/\d.stor=true) {mi:Int}(hhi:ev C.Γ fr hi=.d (.int .i64 mi))(hmi:mi=m)(hkd:kd≠5/\kd≠2)(hd:Dh o.dst n=true)
  (hK:Gi (Fj i .undef fr) λfr=>Ci (AX (BM i .undef) i (.slice E 1 ds) σ) λσ=>K (CF o.dst (.own i) fr) σ):Bm C n kd o K fr σ:=by
 subst hmi
 subst hnn
 rw[Ei,Bw]at hK
 refine CC hkd.1 hkd.2 λB S w0 η φ a w hM=>⟨λ_=>by simp[BG,ho],.inl ?_⟩
 obtain⟨ev1,ev2,hm,hs⟩:=Tg hM hg
 have hii:=AV (AQ hg)
 have ex:a.eval x=.slice (some ⟨g,0,none⟩) l.length c:=by
  obtain⟨cs,h1,h2⟩:=Eg (Bb hM x) hx
  simp only[RepC]at h1
  subst h1;exact h2
 have ehi:=EZ (Eg (Bb hM hi) hhi)
 have hlc:l.length<=c:=by
  rcases hs.shape with⟨h,_⟩|⟨_,_,h,h2⟩
  ·cases h
  ·cases h;exact h2
 have hr:=Gq (w:=w) (hC.ty he) hk2 (hC.ty hee) (ad:=some ⟨g,0,none⟩) (len:=l.length) (cap:=c) hlc (lo:=none) (hi:=some (.int .i64 m)) (l:=0) (m:=m) rfl ⟨_,rfl⟩ (Am _) hm
 have hs':Sl E 1 encV w (.slice (some ⟨g,0,none⟩) m c) (l.take m):=by
  have hlm:(l.take m).length=m:=by rw[AA];omega
  rcases hs.2 with⟨h1,_⟩|⟨g',cap',cur,h1,h0,hgg,hc,hmx,hsz,ht⟩
  ·cases h1
  ·cases h1
   unfold Sl
   rw[IN,hlm]
   refine⟨by omega,.inr ⟨g,c,cur,rfl,Am _,hgg,by omega,hmx,hsz,?_⟩⟩
   rw[IN]at ht
   rw[<-ht,HW,FA,FA,LN hm]
 obtain⟨_,_,qss,hrr,huz⟩:=hM.mem.own _ (AQ hgh)
 simp only[AE,AH,RepC]at hrr
 obtain⟨_,_,rfl,⟨css,hrr,rfl⟩,rfl⟩:=hrr
 have huz:us=List.zipWith Ea ds css:=by simpa[Ch,Ea]using huz
 have hF:∀b∈(Value.slice (some ⟨g,0,none⟩) m c).ownBlock.toList,b∈φ i\/w.heap.size<=b:=λb hb=>.inl (by rw[ev2];simpa[Value.ownBlock]using hb)
 have hl2:=Later.turn (σ:=σ) B (Tch.refl [] w) (X:=[]) (by simp) hii hF (BM i .undef) (.slice E 1 ds)
 have hcss:=ZG hrr hone
 rw[<-huz,<-hus]at hcss
 have hM':=hM.turnRaw (Tch.refl [] w) (by simp) hii (v:=.slice (some ⟨g,0,none⟩) m c) hF (x:=.undef) rfl (λO w=>RepC.undef_ex _ _ _) (ow:=.slice E 1 ds) ⟨css,by rw[hcss.1];exact lX.2 hs',rfl,Aq.later hl2 _ _ hrr,hcss.2⟩
 refine⟨_,w,?_,_,_,_,_,hM'.put hd (d:=.own i) ⟨[.slice (some ⟨g,0,none⟩) m c],by simp only[AH];exact⟨by rw[AZ];exact hii,by rw[Ck]⟩,rfl⟩,hK⟩
 simp only[execOp,ho,CA,V6]
 rw[ex,ehi]
 refine CZ ?_
 rw[hr]
 congr 2
 split
 ·simp
 ·simp[DA]
end
end Go.Sx
end
section
namespace Go.Proofs.YtjpmmkodoeipmaaGreatDoor
open Go.Sx Go.RowKit Go.Reg Go.Gr
set_option maxRecDepth 100000
def QG(P:List (List Int)):Da:=.list 1 (P.map Bn)
end Go.Proofs.YtjpmmkodoeipmaaGreatDoor
end
section
namespace Go.Proofs.YtjpmmkodoeipmaaGreatDoor
open Go.Sx Go.RowKit Go.Reg Go.Gr
set_option maxRecDepth 100000
theorem Ym(P:List (List Int))(g:FuncId)(cs:List Da)(p:List Int->Bool)(hm:P.length<=9223372036854775807)(hp:∀x∈P,Pure C1 g (Bn x::cs) (λy=>y=.bool (p x))):Pure C1 140 [QG P,.func (.func g) [] cs] (λy=>y=.int .i64 (N6 (P.findIdx? p))):=by
 have hl:(P.map Bn).length=P.length:=Ac _
 refine AW Tryz.func140 Tryz.ntmps140 [] [] ?_
 ((conv=>whnf);repeat' ((first|refine odw ?_|refine nx ?_|refine AD (λ_=>?_) (λ_=>?_))<;>conv=>whnf))
 refine AR (ι:=Nat) (λi=>i<=P.length/\∀y∈P.take i,p y=false) (λi=>[(8,.d (.int .i64 i)),(7,.d (.int .i64 (P.map Bn).length)),(1,.d (.func (.func g) [] cs)),(0,.d (QG P))]) (λ_=>[]) (λi=>P.length-i) 0 (λ_=>rfl) ⟨Am _,by simp⟩ (.refl _ _) ⟨rfl,rfl,rfl,rfl,trivial⟩ trivial ?_
 rintro i ⟨hi,hne⟩
 refine Cd [] [] ?_
 by_cases hlt:i<P.length
 ·have hx:=Ab hlt
  generalize P[i]=y at hx
  have hxd:(P.map Bn)[i]? =some (.list 1 (y.map dI)):=by rw[Ad,hx];rfl
  have hpy:=hp y (A8 hx)
  cases hy:p y with
  |
   true=>
   rw[hy]at hpy
   rw[Yw hx hy hne]
   (conv=>whnf)
   (repeat' ((first|refine Aj ?_ ?_|refine AP hxd rfl ?_|refine Af (FV _ _) hpy ?_|refine nx ?_|refine AD (λ_=>?_) (λ_=>?_)|exact AG)<;>conv=>whnf))
   exact rfl
  |
   false=>
   rw[hy]at hpy
   (conv=>whnf)
   (repeat' ((first|refine Aj ?_ ?_|refine AP hxd rfl ?_|refine Af (FV _ _) hpy ?_|refine nx ?_|refine AD (λ_=>?_) (λ_=>?_)|exact AG)<;>conv=>whnf))
   refine⟨i+1,_,_,⟨hlt,?_⟩,.refl _ _,⟨rfl,rfl,rfl,rfl,trivial⟩,trivial,by omega⟩
   intro z hz
   rw[Ay,hx]at hz
   rcases Ag.1 hz with hz|hz
   ·exact hne z hz
   ·simp at hz;subst hz;exact hy
 ·have hii:P.take i=P:=Al (by omega)
  rw[hii]at hne
  rw[R1 hne]
  ((conv=>whnf);repeat' ((first|refine odw ?_|refine nx ?_|refine AD (λ_=>?_) (λ_=>?_))<;>conv=>whnf))
  exact rfl
end Go.Proofs.YtjpmmkodoeipmaaGreatDoor
end
section
namespace Go.Proofs.YtjpmmkodoeipmaaGreatDoor
open Go.Sx Go.RowKit Go.Reg Go.Gr
set_option maxRecDepth 100000
theorem vO {α:Type} {l:List α} {i:Nat}(h:i<l.length)(y:α):(l.set i y).take (i+1)=l.take i++[y]:=by
 rw[Ay,List.take_set_of_le (Ax i),I3 h];rfl
def xK:List (Nat×Plan):=[]
def AAP:List FuncId:=[140]
theorem ACu:CH Tryz.prog AAP xK (Tryz.f95.body.getD .skip)=true:=by kernel_rfl
theorem ABs(vs:Array Value)(w:World):(callFunc 95 vs).run C1.P w=.ok (.enter 95 vs) w:=by kernel_rfl
theorem bD(l:List (List Int))(g:FuncId)(cs:List Da)(p:List Int->Bool)(hl:l.length<=4294967296)(hp:∀x∈l,Pure C1 g (Bn x::cs) (λy=>y=.bool (p x))):
  AAR C1 95 22 1 (l.map Bn) [] [.func (.func g) [] cs] (λds=>ds=(l.filter λx=>!p x).map Bn):=by
 have hll:(l.map Bn).length=l.length:=Ac _
 have hif:=Ym l g cs p (by omega) hp
 refine nY EO (pl:=xK) (G:=AAP) Tryz.func95 rfl Tryz.ntmps95 ABs ACu (by simp) ?_
 cases hf:l.findIdx? p with
 |
  none=>
  rw[hf]at hif
  simp only[N6]at hif
  have hfl:(l.filter λx=>!p x)=l:=by
   rw[HC]
   intro a ha
   rw[Be]at hf
   simp[hf a ha]
  rw[hfl]
  (conv=>whnf)
  (repeat' ((first|refine Aj ?_ ?_|refine Br tab rfl hif rfl ?_|refine nx ?_|refine AD (λ_=>?_) (λ_=>?_)|exact AG)<;>conv=>whnf))
  exact⟨rfl,rfl,rfl⟩
 |
  some i=>
  rw[hf]at hif
  simp only[N6]at hif
  have hf2:=hf
  rw[Ba]at hf2
  obtain⟨hil,hpi,hfirst⟩:=hf2
  have hti:l.take i=(l.take (i+1)).filter λx=>!p x:=by
   rw[Ay,Ab hil,AU,Ca]
   have h2:[l[i]].filter (λx=>!p x)=[]:=by simp[hpi]
   rw[h2,Cg]
   refine(HC.2 λa ha=>?_).symm
   obtain⟨j,hj,rfl⟩:=Bd.1 ha
   have:=hfirst j (by omega)
   simpa using this
  (conv=>whnf)
  (repeat' ((first|refine Aj ?_ ?_|refine Br tab rfl hif rfl ?_|refine nx ?_|refine AD (λ_=>?_) (λ_=>?_)|exact AG)<;>conv=>whnf))
  refine AR (ι:=Nat×Nat×List (List Int)) (λx=>(x.2.2.length=l.length/\x.1<x.2.1/\x.2.1<=l.length)/\x.2.2.take x.1=((l.take x.2.1).filter λx=>!p x)/\x.2.2.drop x.2.1=l.drop x.2.1)
   (λx=>[(6,.d (.int .i64 (x.2.1:Nat))),(5,.d (.int .i64 (x.1:Nat))),(1,.d (.func (.func g) [] cs)),(0,.own 900)]) (λx=>[(900,.slice 22 1 (x.2.2.map Bn))]) (λx=>l.length-x.2.1) (i,i+1,l) (λ_=>rfl)
   ⟨⟨rfl,by simp,by simp only;omega⟩,hti,rfl⟩ (.refl _ _) ⟨rfl,rfl,rfl,rfl,trivial⟩ ⟨rfl,trivial⟩ ?_
  rintro⟨i,j,L⟩ ⟨⟨hLl,hij,hjl⟩,hT,hD⟩
  dsimp only at hLl hij hjl hT hD
  have hLm:(L.map Bn).length=L.length:=Ac _
  dsimp only
  refine Cd AAP [] ?_
  by_cases hj:j<l.length
  ·have hx:=Ab hj
   have hpy:=hp _ (Bc hj)
   generalize l[j]=y at hx hpy
   have hLj:L[j]? =some y:=by
    have:=congrArg (λz=>z[0]?) hD
    simp only[MW,Et]at this
    rw[this];exact hx
   have hxd:(L.map Bn)[j]? =some (.list 1 (y.map dI)):=by rw[Ad,hLj];rfl
   have hD2:L.drop (j+1)=l.drop (j+1):=by
    have:=congrArg (List.drop 1) hD
    rwa [List.drop_drop,List.drop_drop]at this
   cases hpv:p y with
   |
    true=>
    rw[hpv]at hpy
    (conv=>whnf)
    (repeat' ((first|refine Aj ?_ ?_|refine Hd (i:=j) rfl (by omega) ?_|refine Hc hxd ?_|refine Af (FV _ _) hpy ?_|refine nx ?_|refine AD (λ_=>?_) (λ_=>?_)|exact AG)<;>conv=>whnf))
    refine⟨(i,j+1,L),_,_,⟨⟨hLl,by dsimp only;omega,hj⟩,?_,hD2⟩,.refl _ _,⟨rfl,rfl,rfl,rfl,trivial⟩,⟨rfl,trivial⟩,by dsimp only;omega⟩
    dsimp only
    rw[hT,Ay,hx,AU,Ca]
    simp[hpv]
   |
    false=>
    rw[hpv]at hpy
    have hLi:=Ab (l:=L) (i:=i) (by omega)
    generalize L[i]'(by omega)=z at hLi
    have hzd:(L.map Bn)[i]? =some (.list 1 (z.map dI)):=by rw[Ad,hLi];rfl
    have hset:(L.map Bn).set i (.list 1 (y.map dI))=(L.set i y).map Bn:=by rw[Dz];rfl
    (conv=>whnf)
    (repeat' ((first|refine Aj ?_ ?_|refine Hd (i:=j) rfl (by omega) ?_|refine Hc hxd ?_|refine Af (FV _ _) hpy ?_|refine Hd (i:=i) rfl (by omega) ?_|refine Hc hzd ?_|refine nx ?_|refine AD (λ_=>?_) (λ_=>?_)|exact AG)<;>conv=>whnf))
    refine⟨(i+1,j+1,L.set i y),_,_,⟨⟨by rw[Di];exact hLl,by dsimp only;omega,hj⟩,?_,?_⟩,.refl _ _,⟨rfl,rfl,rfl,rfl,trivial⟩,⟨Bk hset,trivial⟩,by dsimp only;omega⟩
    ·dsimp only
     rw[vO (by omega),hT,Ay,hx,AU,Ca]
     simp[hpv]
    ·dsimp only
     rw[List.drop_set_of_lt (by omega)];exact hD2
  ·have hje:j=l.length:=by omega
   subst hje
   rw[Ez]at hT
   have hL0:L.map Bn≠[]:=λe=>by have hc:=congrArg List.length e;rw[hLm,Bt]at hc;omega
   have hone:∀d∈L.map Bn,d.one=true:=λd hd=>by obtain⟨x,_,rfl⟩:=An.1 hd;rfl
   have hone2:∀d∈(L.map Bn).take i,d.one=true/\d.stor=true:=λd hd=>by obtain⟨x,_,rfl⟩:=An.1 (DP hd);exact⟨rfl,rfl⟩
   have hhead:(L.map Bn).take i=(l.filter λx=>!p x).map Bn:=by rw[<-Gn,hT]
   ((conv=>whnf);repeat' ((first|refine odw ?_|refine nx ?_|refine AD (λ_=>?_) (λ_=>?_))<;>conv=>whnf))
   refine xX i 800 EO 900 rfl rfl rfl rfl rfl rfl rfl rfl hone rfl rfl (by omega) hL0 ⟨by decide,by decide⟩ rfl λg c vs hvs=>?_
   ((conv=>whnf);repeat' ((first|refine odw ?_|refine nx ?_|refine AD (λ_=>?_) (λ_=>?_))<;>conv=>whnf))
   refine rA EO 900 rfl rfl rfl rfl rfl rfl (λw=>by kernel_rfl) rfl rfl ⟨by decide,by decide⟩ rfl ?_
   ((conv=>whnf);repeat' ((first|refine odw ?_|refine nx ?_|refine AD (λ_=>?_) (λ_=>?_))<;>conv=>whnf))
   refine xY (gh:=800) (ds:=(L.map Bn).take i) EO 900 rfl rfl rfl rfl rfl (by rw[Ah,AA,B8];omega) rfl rfl (by rw[BW (by rw[AA];omega),HW,Nat.min_self]) (by rw[AA];omega) hone2 rfl rfl ⟨by decide,by decide⟩ rfl ?_
   rw[hhead]
   ((conv=>whnf);repeat' ((first|refine odw ?_|refine nx ?_|refine AD (λ_=>?_) (λ_=>?_))<;>conv=>whnf))
   exact⟨rfl,rfl,rfl⟩
section
variable {G:Gr} {e:Bool} {d:Int} {l:List Opp}
def xH:List (Nat×Plan):=[]
def ADq:List FuncId:=[95]
theorem ACs:CH Tryz.prog ADq xH (Tryz.f52.body.getD .skip)=true:=by kernel_rfl
theorem ABq(vs:Array Value)(w:World):(callFunc 52 vs).run C1.P w=.ok (.enter 52 vs) w:=by kernel_rfl
theorem bG(h:JobOk G e d l)(P:List (List Int))(hP:P.length<=4294967296)(hx:∀x∈P,x≠[]/\x.length<=1000):
  AAR C1 52 22 1 (P.map Bn) [dJ G e d l] [] (λds=>ds=(P.filter (Jz G e l)).map Bn):=by
 have hdl:=bD P 96 [.ref (dJ G e d l)] (λx=>!Jz G e l x) hP (λx hm=>jR h x (hx x hm).1 (hx x hm).2)
 simp only[Bool.not_not]at hdl
 refine nY EO (pl:=xH) (G:=ADq) Tryz.func52 rfl Tryz.ntmps52 ABq ACs (by simp) ?_
 (conv=>whnf)
 refine RJ 2 rfl rfl ?_
 refine Xq [] rfl rfl rfl hdl ?_;rintro ds rfl
 ((conv=>whnf);repeat' ((first|refine odw ?_|refine nx ?_|refine AD (λ_=>?_) (λ_=>?_))<;>conv=>whnf))
 exact⟨rfl,rfl,rfl⟩
def ADr:List FuncId:=[98]
theorem jM(G:Gr)(hG:G.Ok):E5 C1 53 [dG G] 22 1 (λds=>ds=((I9 G.labels.length).map λv=>[v]).map Bn):=by
 have hsz:=hG.size
 have hnx:Pure C1 98 [dG G,.nils] (λy=>y=Bn (I9 G.labels.length)):=Sx.Pure.lax (.cons (.refl _) (.cons (.nils 1) .nil)) (by
  have:=rH G hG [] (by simp)
  rwa [show Hy G []=I9 G.labels.length from if_pos rfl]at this)
 have hul:=Ke G.labels.length
 generalize hL:I9 G.labels.length=L at hnx hul
 have hLl:(L.map dI).length=L.length:=Ac _
 rw[show(L.map λv=>[v]).map Bn=L.map ACn from EE]
 refine WI Tryz.func53 Tryz.ntmps53 ADr [] ?_
 (conv=>whnf)
 (repeat' ((first|refine Aj ?_ ?_|refine Af rfl hnx ?_|refine nx ?_|refine AD (λ_=>?_) (λ_=>?_)|exact AG)<;>conv=>whnf))
 refine AR (ι:=Nat) (λi=>i<=L.length) (λi=>[(9,.d (.int .i64 i)),(8,.d (.int .i64 (L.map dI).length)),(7,.d (Bn L)),(3,.own 300)]) (λi=>[(300,.slice 22 1 ((L.take i).map ACn))]) (λi=>L.length-i) 0 (λ_=>rfl) (Am _)
  (.own 3 300 22 1 rfl rfl (.refl _ _)) ⟨rfl,rfl,rfl,rfl,trivial⟩ ⟨rfl,trivial⟩ ?_
 intro i hi
 refine Cd ADr [] ?_
 by_cases hlt:i<L.length
 ·have hx:=Ab hlt
  generalize L[i]=x at hx
  have hxd:(L.map dI)[i]? =some (.int .i64 x):=by rw[Ad,hx];rfl
  (conv=>whnf)
  (repeat' ((first|refine Aj ?_ ?_|refine AP hxd rfl ?_|refine nx ?_|refine AD (λ_=>?_) (λ_=>?_)|exact AG)<;>conv=>whnf))
  refine PS EO (G:=[]) (.frz 15 rfl (.refl _ _)) (.inr rfl) ?_
  have hfin:(L.take i).map ACn++[.list 1 [.int .i64 x]]=(L.take (i+1)).map ACn:=by rw[tk1 hx,A7];rfl
  ((conv=>whnf);repeat' ((first|refine odw ?_|refine nx ?_|refine AD (λ_=>?_) (λ_=>?_))<;>conv=>whnf))
  exact⟨i+1,_,_,hlt,.refl _ _,⟨rfl,rfl,rfl,rfl,trivial⟩,⟨Bk hfin,trivial⟩,by omega⟩
 ·have hii:L.take i=L:=Al (by omega)
  rw[hii]
  ((conv=>whnf);repeat' ((first|refine odw ?_|refine nx ?_|refine AD (λ_=>?_) (λ_=>?_))<;>conv=>whnf))
  exact⟨rfl,rfl,rfl⟩
def ADF:List (Nat×Plan):=[(4,.leaf [1,0,2,3,0,0] [1,0,2,3,4,5] [0,0,2,7,15,31])]
def AFv:List FuncId:=[53,19]
theorem gE(h:JobOk G e d l):Pure C1 18 [dJ G e d l] (λz=>z=.tuple [QG (C8 (CD G e) (Jz G e l) 0),.nili]):=by
 have hw:=On h
 have hok:=IW h.ok (by have:=h.n;omega) h.m e
 have hsm:=Nf h
 have hbr:=jM (CD G e) hok
 have hkp:=bG h ((I9 (CD G e).labels.length).map λv=>[v]) (by rw[Ac,Ke];omega) (λx hx=>by obtain⟨v,_,rfl⟩:=An.1 hx;exact⟨by simp,by simp⟩)
 refine AW Tryz.func18 Tryz.ntmps18 AFv ADF ?_
 (conv=>whnf)
 (repeat' ((first|refine Aj ?_ ?_|refine Af rfl hw ?_|refine Ju 300 rfl rfl hbr ?_|refine RK [_] rfl rfl rfl hkp ?_|refine nx ?_|refine AD (λ_=>?_) (λ_=>?_)|exact AG)<;>conv=>whnf))
 exact rfl
def AAO:List FuncId:=[57,58]
theorem jK(h:JobOk G e d l)(X:List Int)(hx:X.length<=900):Pure C1 21 [dJ G e d l,dG (CD G e),Bn X] (λz=>z=QG (Ha (CD G e) (Jz G e l) X)):=by
 have hok:=IW h.ok (by have:=h.n;omega) h.m e
 have hg:=sK (CD G e) hok X (by omega)
 have hXl:(X.map dI).length=X.length:=Ac _
 have hgl:(K9 (CD G e) X).length<=4294967296:=by
  unfold K9
  split
  ·exact BH (CM _ _) (WB hok (by omega))
  ·simp
 have hkp:=bG h (LG (CD G e) X) (by unfold LG;rw[Ac];exact hgl) (λx hm=>by
  unfold LG at hm
  obtain⟨v,_,rfl⟩:=An.1 hm
  exact⟨by simp,by rw[Ah,BE];omega⟩)
 refine AW Tryz.func21 Tryz.ntmps21 AAO [] ?_
 (conv=>whnf)
 refine AS rfl hg ?_
 unfold Ha
 unfold LG at hkp⊢
 generalize K9 (CD G e) X=L at hgl hkp⊢
 have hLl:(L.map dI).length=L.length:=Ac _
 rintro y (rfl|⟨rfl,rfl⟩)
 ·((conv=>whnf);repeat' ((first|refine odw ?_|refine nx ?_|refine AD (λ_=>?_) (λ_=>?_))<;>conv=>whnf))
  refine AR (ι:=Nat) (λi=>i<=L.length) (λi=>[(14,.d (.int .i64 i)),(13,.d (.int .i64 (L.map dI).length)),(12,.d (Bn L)),(7,.own 300),(3,.own 3),(2,.d (Bn X))]) (λi=>[(3,.cells 43 [.d (dG G),.d (.bool e),.d (.int .i64 d),.d (Ka l)]),(300,.slice 22 1 (((L.take i).map λv=>X++[v]).map Bn))]) (λi=>L.length-i) 0 (λ_=>rfl) (Am _)
   (.own 7 300 22 1 rfl rfl (.refl _ _)) ⟨rfl,rfl,rfl,rfl,rfl,rfl,trivial⟩ ⟨rfl,rfl,trivial⟩ ?_
  intro i hi
  refine Cd AAO [] ?_
  by_cases hlt:i<L.length
  ·have hx:=Ab hlt
   generalize L[i]=v at hx
   have hxd:(L.map dI)[i]? =some (.int .i64 v):=by rw[Ad,hx];rfl
   have hnl:(((L.take i).map λv=>X++[v]).map Bn).length=i:=by rw[Ac,Ac,AA];omega
   have hfin:((L.take i).map λv=>X++[v]).map Bn++[.list 1 (X.map dI++[.int .i64 v])]=((L.take (i+1)).map λv=>X++[v]).map Bn:=by rw[tk1 hx,A7,A7];simp[Bn,dI]
   (conv=>whnf)
   (repeat' ((first|refine Aj ?_ ?_|refine AP hxd rfl ?_|refine tT 400 rfl rfl ACy λa=>?_|refine iU 400 23 20 EO rfl rfl rfl rfl (by decide) (by decide) rfl rfl rfl rfl (by simp) rfl rfl rfl (WE (by simp only[Ac,Aw,Bt];omega) rfl rfl) rfl ⟨rfl,rfl,rfl,rfl,trivial⟩ ?_|refine nx ?_|refine AD (λ_=>?_) (λ_=>?_)|exact AG)<;>conv=>whnf))
   refine PS EO (G:=[]) (.frz 23 rfl (.refl _ _)) (.inr rfl) ?_
   ((conv=>whnf);repeat' ((first|refine odw ?_|refine nx ?_|refine AD (λ_=>?_) (λ_=>?_))<;>conv=>whnf))
   exact⟨i+1,_,_,hlt,.refl _ _,⟨rfl,rfl,rfl,rfl,rfl,rfl,trivial⟩,⟨rfl,Bk hfin,trivial⟩,by omega⟩
  ·have hii:L.take i=L:=Al (by omega)
   rw[hii]
   (conv=>whnf)
   (repeat' ((first|refine Aj ?_ ?_|refine RK [_] rfl rfl rfl hkp ?_|refine nx ?_|refine AD (λ_=>?_) (λ_=>?_)|exact AG)<;>conv=>whnf))
   exact rfl
 ·((conv=>whnf);repeat' ((first|refine odw ?_|refine nx ?_|refine AD (λ_=>?_) (λ_=>?_))<;>conv=>whnf))
  refine AR (ι:=Nat) (λi=>i=0) (λ_=>[(14,.d (.int .i64 0)),(13,.d (.int .i64 0)),(7,.own 300),(3,.own 3),(2,.d (Bn X))]) (λ_=>[(3,.cells 43 [.d (dG G),.d (.bool e),.d (.int .i64 d),.d (Ka l)]),(300,.slice 22 1 [])]) (λ_=>0) 0 (λ_=>rfl) rfl
   (.own 7 300 22 1 rfl rfl (.refl _ _)) ⟨rfl,rfl,rfl,rfl,rfl,trivial⟩ ⟨rfl,rfl,trivial⟩ ?_
  rintro i rfl
  refine Cd AAO [] ?_
  (conv=>whnf)
  (repeat' ((first|refine Aj ?_ ?_|refine RK [_] rfl rfl rfl hkp ?_|refine nx ?_|refine AD (λ_=>?_) (λ_=>?_)|exact AG)<;>conv=>whnf))
  exact rfl
end
end Go.Proofs.YtjpmmkodoeipmaaGreatDoor
end
