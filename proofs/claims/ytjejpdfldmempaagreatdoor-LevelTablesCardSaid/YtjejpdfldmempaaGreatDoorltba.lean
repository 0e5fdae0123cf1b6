/- Merged: Lvx Lvo Lvk Lvq Pgo Pgq Lve Lmd Rft Rfu Rfl Lgg Tbl Wpb Ltb Rcf Tbr Tbs Lal. -/
import Derived.Test.YtjejpdfldmempaaGreatDoorltaz
import Derived.Test.YtjejpdfldmempaaGreatDoorltat
import Derived.Test.YtjejpdfldmempaaGreatDoorltaq
import Derived.Test.YtjejpdfldmempaaGreatDoorltay
import Derived.Test.YtjejpdfldmempaaGreatDoorltau
import Derived.Test.YtjejpdfldmempaaGreatDoorltas
section
namespace Go.Proofs.YtjejpdfldmempaaGreatDoor
open Go.Sx Go.RowKit Go.Reg Go.Gr
set_option maxRecDepth 100000
theorem SP(P:List (List Int))(g:FuncId)(cs:List Da)(p:List Int->Bool)(hm:P.length<=9223372036854775807)(hp:∀x∈P,Pure C1 g (Bx x::cs) (λy=>y=.bool (p x))):Pure C1 197 [Kc P,.func (.func g) [] cs] (λy=>y=.int .i64 (Ka (P.findIdx? p))):=by
 have hl:(P.map Bx).length=P.length:=Ac _
 refine AT Tryz.func197 Tryz.ntmps197 [] [] ?_
 ((conv=>whnf);repeat' ((first|refine odw ?_|refine nx ?_|refine A5 (λ_=>?_) (λ_=>?_))<;>conv=>whnf))
 refine AN (ι:=Nat) (λi=>i<=P.length/\∀y∈P.take i,p y=false) (λi=>[(8,.d (.int .i64 i)),(7,.d (.int .i64 (P.map Bx).length)),(1,.d (.func (.func g) [] cs)),(0,.d (Kc P))]) (λ_=>[]) (λi=>P.length-i) 0 (λ_=>rfl) ⟨As _,by simp⟩ (.refl _ _) ⟨rfl,rfl,rfl,rfl,trivial⟩ trivial ?_
 rintro i ⟨hi,hne⟩
 refine BV [] [] ?_
 by_cases hlt:i<P.length
 ·have hx:=Ab hlt
  generalize P[i]=y at hx
  have hxd:(P.map Bx)[i]? =some (.list 1 (y.map dI)):=by rw[Af,hx];rfl
  have hpy:=hp y (AD hx)
  cases hy:p y with
  |
   true=>
   rw[hy]at hpy
   rw[Tc hx hy hne]
   (conv=>whnf)
   (repeat' ((first|refine Ai ?_ ?_|refine AM hxd rfl ?_|refine Aj (Em _ _) hpy ?_|refine nx ?_|refine A5 (λ_=>?_) (λ_=>?_)|exact AA)<;>conv=>whnf))
   exact rfl
  |
   false=>
   rw[hy]at hpy
   (conv=>whnf)
   (repeat' ((first|refine Ai ?_ ?_|refine AM hxd rfl ?_|refine Aj (Em _ _) hpy ?_|refine nx ?_|refine A5 (λ_=>?_) (λ_=>?_)|exact AA)<;>conv=>whnf))
   refine⟨i+1,_,_,⟨hlt,?_⟩,.refl _ _,⟨rfl,rfl,rfl,rfl,trivial⟩,trivial,by omega⟩
   intro z hz
   rw[A2,hx]at hz
   rcases Ag.1 hz with hz|hz
   ·exact hne z hz
   ·simp at hz;subst hz;exact hy
 ·have hii:P.take i=P:=Ao (by omega)
  rw[hii]at hne
  rw[N1 hne]
  ((conv=>whnf);repeat' ((first|refine odw ?_|refine nx ?_|refine A5 (λ_=>?_) (λ_=>?_))<;>conv=>whnf))
  exact rfl
end Go.Proofs.YtjejpdfldmempaaGreatDoor
end
section
namespace Go.Proofs.YtjejpdfldmempaaGreatDoor
open Go.Gr
theorem eF {G:Gr} {ps:List Int->Bool} {d k:Nat}(h:k<(DI G ps d).length):(DI G ps d)[k]? =some (Bv G ps k):=by
 have hx:=Ab h
 rw[hx,lJ hx]
end Go.Proofs.YtjejpdfldmempaaGreatDoor
end
section
namespace Go.Proofs.YtjejpdfldmempaaGreatDoor
open Go.Sx Go.RowKit Go.Reg Go.Gr
set_option maxRecDepth 100000
theorem dU {α:Type} {l:List α} {i:Nat}(h:i<l.length)(y:α):(l.set i y).take (i+1)=l.take i++[y]:=by
 rw[A2,List.take_set_of_le (Av i),List.getElem?_set_self h];rfl
def fL:List (Nat×Plan):=[]
def jT:List FuncId:=[197]
theorem nC:BQ Tryz.prog jT fL (Tryz.f135.body.getD .skip)=true:=by kernel_rfl
theorem lH(vs:Array Value)(w:World):(callFunc 135 vs).run C1.P w=.ok (.enter 135 vs) w:=by kernel_rfl
theorem UN(l:List (List Int))(g:FuncId)(cs:List Da)(p:List Int->Bool)(hl:l.length<=4294967296)(hp:∀x∈l,Pure C1 g (Bx x::cs) (λy=>y=.bool (p x))):
  jW C1 135 28 1 (l.map Bx) [] [.func (.func g) [] cs] (λds=>ds=(l.filter λx=>!p x).map Bx):=by
 have hll:(l.map Bx).length=l.length:=Ac _
 have hif:=SP l g cs p (by omega) hp
 refine YH EN (pl:=fL) (G:=jT) Tryz.func135 rfl Tryz.ntmps135 lH nC (by simp) ?_
 cases hf:l.findIdx? p with
 |
  none=>
  rw[hf]at hif
  simp only[Ka]at hif
  have hfl:(l.filter λx=>!p x)=l:=by
   rw[F5]
   intro a ha
   rw[AK]at hf
   simp[hf a ha]
  rw[hfl]
  (conv=>whnf)
  (repeat' ((first|refine Ai ?_ ?_|refine Bc tab rfl hif rfl ?_|refine nx ?_|refine A5 (λ_=>?_) (λ_=>?_)|exact AA)<;>conv=>whnf))
  exact⟨rfl,rfl,rfl⟩
 |
  some i=>
  rw[hf]at hif
  simp only[Ka]at hif
  have hf2:=hf
  rw[AJ]at hf2
  obtain⟨hil,hpi,hfirst⟩:=hf2
  have hti:l.take i=(l.take (i+1)).filter λx=>!p x:=by
   rw[A2,Ab hil,BY,Cj]
   have h2:[l[i]].filter (λx=>!p x)=[]:=by simp[hpi]
   rw[h2,C4]
   refine(F5.2 λa ha=>?_).symm
   obtain⟨j,hj,rfl⟩:=AU.1 ha
   have:=hfirst j (by omega)
   simpa using this
  (conv=>whnf)
  (repeat' ((first|refine Ai ?_ ?_|refine Bc tab rfl hif rfl ?_|refine nx ?_|refine A5 (λ_=>?_) (λ_=>?_)|exact AA)<;>conv=>whnf))
  refine AN (ι:=Nat×Nat×List (List Int)) (λx=>(x.2.2.length=l.length/\x.1<x.2.1/\x.2.1<=l.length)/\x.2.2.take x.1=((l.take x.2.1).filter λx=>!p x)/\x.2.2.drop x.2.1=l.drop x.2.1)
   (λx=>[(6,.d (.int .i64 (x.2.1:Nat))),(5,.d (.int .i64 (x.1:Nat))),(1,.d (.func (.func g) [] cs)),(0,.own 900)]) (λx=>[(900,.slice 28 1 (x.2.2.map Bx))]) (λx=>l.length-x.2.1) (i,i+1,l) (λ_=>rfl)
   ⟨⟨rfl,by simp,by simp only;omega⟩,hti,rfl⟩ (.refl _ _) ⟨rfl,rfl,rfl,rfl,trivial⟩ ⟨rfl,trivial⟩ ?_
  rintro⟨i,j,L⟩ ⟨⟨hLl,hij,hjl⟩,hT,hD⟩
  dsimp only at hLl hij hjl hT hD
  have hLm:(L.map Bx).length=L.length:=Ac _
  dsimp only
  refine BV jT [] ?_
  by_cases hj:j<l.length
  ·have hx:=Ab hj
   have hpy:=hp _ (Bi hj)
   generalize l[j]=y at hx hpy
   have hLj:L[j]? =some y:=by
    have:=congrArg (λz=>z[0]?) hD
    simp only[JD,D3]at this
    rw[this];exact hx
   have hxd:(L.map Bx)[j]? =some (.list 1 (y.map dI)):=by rw[Af,hLj];rfl
   have hD2:L.drop (j+1)=l.drop (j+1):=by
    have:=congrArg (List.drop 1) hD
    rwa [List.drop_drop,List.drop_drop]at this
   cases hpv:p y with
   |
    true=>
    rw[hpv]at hpy
    (conv=>whnf)
    (repeat' ((first|refine Ai ?_ ?_|refine F2 (i:=j) rfl (by omega) ?_|refine F1 hxd ?_|refine Aj (Em _ _) hpy ?_|refine nx ?_|refine A5 (λ_=>?_) (λ_=>?_)|exact AA)<;>conv=>whnf))
    refine⟨(i,j+1,L),_,_,⟨⟨hLl,by dsimp only;omega,hj⟩,?_,hD2⟩,.refl _ _,⟨rfl,rfl,rfl,rfl,trivial⟩,⟨rfl,trivial⟩,by dsimp only;omega⟩
    dsimp only
    rw[hT,A2,hx,BY,Cj]
    simp[hpv]
   |
    false=>
    rw[hpv]at hpy
    have hLi:=Ab (l:=L) (i:=i) (by omega)
    generalize L[i]'(by omega)=z at hLi
    have hzd:(L.map Bx)[i]? =some (.list 1 (z.map dI)):=by rw[Af,hLi];rfl
    have hset:(L.map Bx).set i (.list 1 (y.map dI))=(L.set i y).map Bx:=by rw[DM];rfl
    (conv=>whnf)
    (repeat' ((first|refine Ai ?_ ?_|refine F2 (i:=j) rfl (by omega) ?_|refine F1 hxd ?_|refine Aj (Em _ _) hpy ?_|refine F2 (i:=i) rfl (by omega) ?_|refine F1 hzd ?_|refine nx ?_|refine A5 (λ_=>?_) (λ_=>?_)|exact AA)<;>conv=>whnf))
    refine⟨(i+1,j+1,L.set i y),_,_,⟨⟨by rw[kD];exact hLl,by dsimp only;omega,hj⟩,?_,?_⟩,.refl _ _,⟨rfl,rfl,rfl,rfl,trivial⟩,⟨Bj hset,trivial⟩,by dsimp only;omega⟩
    ·dsimp only
     rw[dU (by omega),hT,A2,hx,BY,Cj]
     simp[hpv]
    ·dsimp only
     rw[List.drop_set_of_lt (by omega)];exact hD2
  ·have hje:j=l.length:=by omega
   subst hje
   rw[Dr]at hT
   have hL0:L.map Bx≠[]:=λe=>by have hc:=congrArg List.length e;rw[hLm,Cf]at hc;omega
   have hone:∀d∈L.map Bx,d.one=true:=λd hd=>by obtain⟨x,_,rfl⟩:=Aq.1 hd;rfl
   have hone2:∀d∈(L.map Bx).take i,d.one=true/\d.stor=true:=λd hd=>by obtain⟨x,_,rfl⟩:=Aq.1 (Ea hd);exact⟨rfl,rfl⟩
   have hhead:(L.map Bx).take i=(l.filter λx=>!p x).map Bx:=by rw[<-Fy,hT]
   ((conv=>whnf);repeat' ((first|refine odw ?_|refine nx ?_|refine A5 (λ_=>?_) (λ_=>?_))<;>conv=>whnf))
   refine fT i 800 EN 900 rfl rfl rfl rfl rfl rfl rfl rfl hone rfl rfl (by omega) hL0 ⟨by decide,by decide⟩ rfl λg c vs hvs=>?_
   ((conv=>whnf);repeat' ((first|refine odw ?_|refine nx ?_|refine A5 (λ_=>?_) (λ_=>?_))<;>conv=>whnf))
   refine ZM EN 900 rfl rfl rfl rfl rfl rfl (λw=>by kernel_rfl) rfl rfl ⟨by decide,by decide⟩ rfl ?_
   ((conv=>whnf);repeat' ((first|refine odw ?_|refine nx ?_|refine A5 (λ_=>?_) (λ_=>?_))<;>conv=>whnf))
   refine fU (gh:=800) (ds:=(L.map Bx).take i) EN 900 rfl rfl rfl rfl rfl (by rw[Ae,Aw,Bm];omega) rfl rfl (by rw[Br (by rw[Aw];omega),FL,Nat.min_self]) (by rw[Aw];omega) hone2 rfl rfl ⟨by decide,by decide⟩ rfl ?_
   rw[hhead]
   ((conv=>whnf);repeat' ((first|refine odw ?_|refine nx ?_|refine A5 (λ_=>?_) (λ_=>?_))<;>conv=>whnf))
   exact⟨rfl,rfl,rfl⟩
section
variable {G:Gr} {e:Bool} {d:Int} {l:List Opp}
def fJ:List (Nat×Plan):=[]
def oX:List FuncId:=[135]
theorem nB:BQ Tryz.prog oX fJ (Tryz.f91.body.getD .skip)=true:=by kernel_rfl
theorem lG(vs:Array Value)(w:World):(callFunc 91 vs).run C1.P w=.ok (.enter 91 vs) w:=by kernel_rfl
theorem UQ(h:JobOk G e d l)(P:List (List Int))(hP:P.length<=4294967296)(hx:∀x∈P,x≠[]/\x.length<=1000):
  jW C1 91 28 1 (P.map Bx) [dJ G e d l] [] (λds=>ds=(P.filter (KS G e l)).map Bx):=by
 have hdl:=UN P 136 [.ref (dJ G e d l)] (λx=>!KS G e l x) hP (λx hm=>Xt h x (hx x hm).1 (hx x hm).2)
 simp only[Bool.not_not]at hdl
 refine YH EN (pl:=fJ) (G:=oX) Tryz.func91 rfl Tryz.ntmps91 lG nB (by simp) ?_
 (conv=>whnf)
 refine bK 2 rfl rfl ?_
 refine Sa [] rfl rfl rfl hdl ?_;rintro ds rfl
 ((conv=>whnf);repeat' ((first|refine odw ?_|refine nx ?_|refine A5 (λ_=>?_) (λ_=>?_))<;>conv=>whnf))
 exact⟨rfl,rfl,rfl⟩
def oY:List FuncId:=[137]
theorem Xp(G:Gr)(hG:G.Ok):D4 C1 92 [dG G] 28 1 (λds=>ds=((Gk G.labels.length).map λv=>[v]).map Bx):=by
 have hsz:=hG.size
 have hnx:Pure C1 137 [dG G,.nils] (λy=>y=Bx (Gk G.labels.length)):=Sx.Pure.lax (.cons (.refl _) (.cons (.nils 1) .nil)) (by
  have:=ZR G hG [] (by simp)
  rwa [show F0 G []=Gk G.labels.length from if_pos rfl]at this)
 have hul:=Ho G.labels.length
 generalize hL:Gk G.labels.length=L at hnx hul
 have hLl:(L.map dI).length=L.length:=Ac _
 rw[show(L.map λv=>[v]).map Bx=L.map mW from QR]
 refine UB Tryz.func92 Tryz.ntmps92 oY [] ?_
 (conv=>whnf)
 (repeat' ((first|refine Ai ?_ ?_|refine Aj rfl hnx ?_|refine nx ?_|refine A5 (λ_=>?_) (λ_=>?_)|exact AA)<;>conv=>whnf))
 refine AN (ι:=Nat) (λi=>i<=L.length) (λi=>[(9,.d (.int .i64 i)),(8,.d (.int .i64 (L.map dI).length)),(7,.d (Bx L)),(3,.own 300)]) (λi=>[(300,.slice 28 1 ((L.take i).map mW))]) (λi=>L.length-i) 0 (λ_=>rfl) (As _)
  (.own 3 300 28 1 rfl rfl (.refl _ _)) ⟨rfl,rfl,rfl,rfl,trivial⟩ ⟨rfl,trivial⟩ ?_
 intro i hi
 refine BV oY [] ?_
 by_cases hlt:i<L.length
 ·have hx:=Ab hlt
  generalize L[i]=x at hx
  have hxd:(L.map dI)[i]? =some (.int .i64 x):=by rw[Af,hx];rfl
  (conv=>whnf)
  (repeat' ((first|refine Ai ?_ ?_|refine AM hxd rfl ?_|refine nx ?_|refine A5 (λ_=>?_) (λ_=>?_)|exact AA)<;>conv=>whnf))
  refine Uz EN (G:=[]) (.frz 15 rfl (.refl _ _)) (.inr rfl) ?_
  have hfin:(L.take i).map mW++[.list 1 [.int .i64 x]]=(L.take (i+1)).map mW:=by rw[tZ hx,AF];rfl
  ((conv=>whnf);repeat' ((first|refine odw ?_|refine nx ?_|refine A5 (λ_=>?_) (λ_=>?_))<;>conv=>whnf))
  exact⟨i+1,_,_,hlt,.refl _ _,⟨rfl,rfl,rfl,rfl,trivial⟩,⟨Bj hfin,trivial⟩,by omega⟩
 ·have hii:L.take i=L:=Ao (by omega)
  rw[hii]
  ((conv=>whnf);repeat' ((first|refine odw ?_|refine nx ?_|refine A5 (λ_=>?_) (λ_=>?_))<;>conv=>whnf))
  exact⟨rfl,rfl,rfl⟩
def pW:List (Nat×Plan):=[(4,.leaf [1,0,2,3,0,0] [1,0,2,3,4,5] [0,0,2,7,15,31])]
def tI:List FuncId:=[92,75]
theorem Wx(h:JobOk G e d l):Pure C1 40 [dJ G e d l] (λz=>z=.tuple [Kc (Bv (Ck G e) (KS G e l) 0),.nili]):=by
 have hw:=KK h
 have hok:=IS h.ok (by have:=h.n;omega) h.m e
 have hsm:=MU h
 have hbr:=Xp (Ck G e) hok
 have hkp:=UQ h ((Gk (Ck G e).labels.length).map λv=>[v]) (by rw[Ac,Ho];omega) (λx hx=>by obtain⟨v,_,rfl⟩:=Aq.1 hx;exact⟨by simp,by simp⟩)
 refine AT Tryz.func40 Tryz.ntmps40 tI pW ?_
 (conv=>whnf)
 (repeat' ((first|refine Ai ?_ ?_|refine Aj rfl hw ?_|refine Lu 300 rfl rfl hbr ?_|refine ND [_] rfl rfl rfl hkp ?_|refine nx ?_|refine A5 (λ_=>?_) (λ_=>?_)|exact AA)<;>conv=>whnf))
 exact rfl
def jR:List FuncId:=[118,119]
theorem Xo(h:JobOk G e d l)(X:List Int)(hx:X.length<=900):Pure C1 76 [dJ G e d l,dG (Ck G e),Bx X] (λz=>z=Kc (Fh (Ck G e) (KS G e l) X)):=by
 have hok:=IS h.ok (by have:=h.n;omega) h.m e
 have hg:=aP (Ck G e) hok X (by omega)
 have hXl:(X.map dI).length=X.length:=Ac _
 have hgl:(HO (Ck G e) X).length<=4294967296:=by
  unfold HO
  split
  ·exact Cv (DF _ _) (R1 hok (by omega))
  ·simp
 have hkp:=UQ h (IJ (Ck G e) X) (by unfold IJ;rw[Ac];exact hgl) (λx hm=>by
  unfold IJ at hm
  obtain⟨v,_,rfl⟩:=Aq.1 hm
  exact⟨by simp,by rw[Ae,CB];omega⟩)
 refine AT Tryz.func76 Tryz.ntmps76 jR [] ?_
 (conv=>whnf)
 refine AH rfl hg ?_
 unfold Fh
 unfold IJ at hkp⊢
 generalize HO (Ck G e) X=L at hgl hkp⊢
 have hLl:(L.map dI).length=L.length:=Ac _
 rintro y (rfl|⟨rfl,rfl⟩)
 ·((conv=>whnf);repeat' ((first|refine odw ?_|refine nx ?_|refine A5 (λ_=>?_) (λ_=>?_))<;>conv=>whnf))
  refine AN (ι:=Nat) (λi=>i<=L.length) (λi=>[(14,.d (.int .i64 i)),(13,.d (.int .i64 (L.map dI).length)),(12,.d (Bx L)),(7,.own 300),(3,.own 3),(2,.d (Bx X))]) (λi=>[(3,.cells 58 [.d (dG G),.d (.bool e),.d (.int .i64 d),.d (N6 l)]),(300,.slice 28 1 (((L.take i).map λv=>X++[v]).map Bx))]) (λi=>L.length-i) 0 (λ_=>rfl) (As _)
   (.own 7 300 28 1 rfl rfl (.refl _ _)) ⟨rfl,rfl,rfl,rfl,rfl,rfl,trivial⟩ ⟨rfl,rfl,trivial⟩ ?_
  intro i hi
  refine BV jR [] ?_
  by_cases hlt:i<L.length
  ·have hx:=Ab hlt
   generalize L[i]=v at hx
   have hxd:(L.map dI)[i]? =some (.int .i64 v):=by rw[Af,hx];rfl
   have hnl:(((L.take i).map λv=>X++[v]).map Bx).length=i:=by rw[Ac,Ac,Aw];omega
   have hfin:((L.take i).map λv=>X++[v]).map Bx++[.list 1 (X.map dI++[.int .i64 v])]=((L.take (i+1)).map λv=>X++[v]).map Bx:=by rw[tZ hx,AF,AF];simp[Bx,dI]
   (conv=>whnf)
   (repeat' ((first|refine Ai ?_ ?_|refine AM hxd rfl ?_|refine bL 400 rfl rfl nF λa=>?_|refine WZ 400 23 20 EN rfl rfl rfl rfl (by decide) (by decide) rfl rfl rfl rfl (by simp) rfl rfl rfl (R5 (by simp only[Ac,Ax,Cf];omega) rfl rfl) rfl ⟨rfl,rfl,rfl,rfl,trivial⟩ ?_|refine nx ?_|refine A5 (λ_=>?_) (λ_=>?_)|exact AA)<;>conv=>whnf))
   refine Uz EN (G:=[]) (.frz 23 rfl (.refl _ _)) (.inr rfl) ?_
   ((conv=>whnf);repeat' ((first|refine odw ?_|refine nx ?_|refine A5 (λ_=>?_) (λ_=>?_))<;>conv=>whnf))
   exact⟨i+1,_,_,hlt,.refl _ _,⟨rfl,rfl,rfl,rfl,rfl,rfl,trivial⟩,⟨rfl,Bj hfin,trivial⟩,by omega⟩
  ·have hii:L.take i=L:=Ao (by omega)
   rw[hii]
   (conv=>whnf)
   (repeat' ((first|refine Ai ?_ ?_|refine ND [_] rfl rfl rfl hkp ?_|refine nx ?_|refine A5 (λ_=>?_) (λ_=>?_)|exact AA)<;>conv=>whnf))
   exact rfl
 ·((conv=>whnf);repeat' ((first|refine odw ?_|refine nx ?_|refine A5 (λ_=>?_) (λ_=>?_))<;>conv=>whnf))
  refine AN (ι:=Nat) (λi=>i=0) (λ_=>[(14,.d (.int .i64 0)),(13,.d (.int .i64 0)),(7,.own 300),(3,.own 3),(2,.d (Bx X))]) (λ_=>[(3,.cells 58 [.d (dG G),.d (.bool e),.d (.int .i64 d),.d (N6 l)]),(300,.slice 28 1 [])]) (λ_=>0) 0 (λ_=>rfl) rfl
   (.own 7 300 28 1 rfl rfl (.refl _ _)) ⟨rfl,rfl,rfl,rfl,rfl,trivial⟩ ⟨rfl,rfl,trivial⟩ ?_
  rintro i rfl
  refine BV jR [] ?_
  (conv=>whnf)
  (repeat' ((first|refine Ai ?_ ?_|refine ND [_] rfl rfl rfl hkp ?_|refine nx ?_|refine A5 (λ_=>?_) (λ_=>?_)|exact AA)<;>conv=>whnf))
  exact rfl
end
end Go.Proofs.YtjejpdfldmempaaGreatDoor
end
section
namespace Go.Proofs.YtjejpdfldmempaaGreatDoor
open Go.Sx Go.RowKit Go.Reg Go.Gr
set_option maxRecDepth 100000
def gQ:ByteArray:=⟨#[108,105,115,116,115]⟩
def VS(w:Gr)(ps:List Int->Bool)(D:Nat)(most:Int):Da:=if(Hf w ps D:Int)<=max most 0 then .tuple [.list 1 ((DI w ps D).map Kc),.nili]else .tuple [.nils,dF 13 0 gQ]
section
variable {G:Gr} {e:Bool} {d:Int} {l:List Opp}
theorem Zq {w:Gr} {ps:List Int->Bool} {k:Nat}(h:Bv w ps k=[]):∀{D:Nat},k<=D->Hf w ps D=Hf w ps k:=by
 intro D hD
 induction D with
 |zero=>rw[show k=0 by omega]
 |
  succ D ih=>
  rcases Bu D k with hk|hk
  ·rw[show D+1=k by omega]
  ·rw[Hs,ih hk,KQ h D hk];rfl
def jS:List FuncId:=[40,75,76]
theorem VR(h:JobOk G e d l)(most:Int):Pure C1 26 [dJ G e d l,.int .i64 most] (λz=>z=VS (Ck G e) (KS G e l) d.toNat most):=by
 have hs:=Wx h
 have hw:=KK h
 have hgr:∀X:List Int,X.length<=900->Pure C1 76 [dJ G e d l,dG (Ck G e),Bx X] (λz=>z=Kc (Fh (Ck G e) (KS G e l) X)):=λX hX=>Xo h X hX
 have hok:=IS h.ok (by have:=h.n;omega) h.m e
 have hsm:=MU h
 have hd:=h.d
 clear h
 obtain⟨D,rfl⟩:=A1 (show 0<=d by omega)
 rw[Be]
 generalize Ck G e=w at hs hw hgr hok hsm⊢
 generalize KS G e l=ps at hs hgr⊢
 have hrl:∀k,(Bv w ps k).length<=256:=λk=>Cv (Pw hok ps k) (Cv (Nat.pow_le_pow_right (by decide) hsm) (by decide))
 have hfew:∀m,m<=8->Hf w ps m<=2048:=λm hm=>TF hok ps hsm hm
 refine AT Tryz.func26 Tryz.ntmps26 jS [] ?_
 (conv=>whnf)
 (repeat' ((first|refine Ai ?_ ?_|refine Aj rfl hs ?_|refine Aj rfl hw ?_|refine nx ?_|refine A5 (λ_=>?_) (λ_=>?_)|exact AA)<;>conv=>whnf))
 refine AN (ι:=Nat) (λk=>k<D/\(∀j,j<k->Bv w ps j≠[])/\(Hf w ps k:Int)<=max most 0) (λk=>[(11,.d (.int .i64 (Hf w ps k:Nat))),(10,.own 300),(8,.d (dG w)),(6,.d (Kc (Bv w ps k))),(2,.own 2),(1,.d (.int .i64 most))]) (λk=>[(2,.cells 58 [.d (dG G),.d (.bool e),.d (.int .i64 (D:Int)),.d (N6 l)]),(300,.slice 70 1 (((List.range k).map (Bv w ps)).map Kc))]) (λk=>D-k) 0 (λ_=>rfl) ⟨by omega,λj hj=>absurd hj (Nat.not_lt_zero _),by rw[show Hf w ps 0=0 from rfl];omega⟩
  (.own 10 300 70 1 rfl rfl (.refl _ _)) ⟨rfl,rfl,rfl,rfl,rfl,rfl,trivial⟩ ⟨rfl,rfl,trivial⟩ ?_
 rintro k ⟨hkD,hne,hsum⟩
 refine BV jS [] ?_
 have hRl:=hrl k
 have hdl:((Bv w ps k).map Bx).length=(Bv w ps k).length:=Ac _
 have hk8:=hfew (k+1) (by omega)
 have hst:=Hs w ps k
 have hOl:(((List.range k).map (Bv w ps)).map Kc).length=k:=by rw[Ac,Ac,CX]
 have hrg:(List.range k).length=k:=CX
 have hO1:((List.range (k+1)).map (Bv w ps)).map Kc=((List.range k).map (Bv w ps)).map Kc++[Kc (Bv w ps k)]:=by rw[Cn,AF,AF];rfl
 have hO2:(((List.range k).map (Bv w ps)).map Kc++[Kc (Bv w ps k)]).length=k+1:=by rw[Ae,hOl];rfl
 by_cases hR:Bv w ps k=[]
 ·have eS:=Zq hR (Nat.le_of_lt hkD)
  have eR:DI w ps D=(List.range k).map (Bv w ps):=by rw[Ps hR (Nat.le_of_lt hkD),FC hne]
  unfold VS
  rw[eS,if_pos hsum,eR]
  rw[hR]
  have hd0:(List.map Bx ([]:List (List Int))).length=0:=rfl
  ((conv=>whnf);repeat' ((first|refine odw ?_|refine nx ?_|refine A5 (λ_=>?_) (λ_=>?_))<;>conv=>whnf))
  exact rfl
 have hR0:(Bv w ps k).length≠0:=λe=>hR (AE e)
 by_cases hm:(Hf w ps (k+1):Int)<=max most 0
 ·by_cases hl:k+1=D
  ·have eR:DI w ps D=(List.range (k+1)).map (Bv w ps):=by
    rw[<-hl]
    exact FC λj hj=>by
     rcases Bu j k with g|g
     ·exact hne j g
     ·rw[show j=k by omega];exact hR
   unfold VS
   rw[if_pos (by rw[<-hl];exact hm),eR,hO1]
   ((conv=>whnf);repeat' ((first|refine odw ?_|refine nx ?_|refine A5 (λ_=>?_) (λ_=>?_))<;>conv=>whnf))
   exact rfl
  ·have hst2:(Hf w ps k:Int)+(((Bv w ps k).map Bx).length:Int)=(Hf w ps (k+1):Nat):=by rw[hdl,hst];omega
   have hpre:∀n,(((Bv w ps k).take n).flatMap (Fh w ps)).length<=256:=λn=>by
    have:=hrl (k+1)
    unfold Bv at this
    rw[<-CA n (Bv w ps k),BH,Ae]at this
    omega
   have hxl:∀x∈Bv w ps k,x.length<=900:=λx hx=>by
    have:=((Fv hok k).1 hx).2.1
    omega
   ((conv=>whnf);repeat' ((first|refine odw ?_|refine nx ?_|refine A5 (λ_=>?_) (λ_=>?_))<;>conv=>whnf))
   refine AN (ι:=Nat) (λi=>i<=(Bv w ps k).length) (λi=>[(51,.d (.int .i64 i)),(50,.d (.int .i64 ((Bv w ps k).map Bx).length)),(49,.d (Kc (Bv w ps k))),(12,.own 301),(11,.d (.int .i64 ((Hf w ps k:Int)+(((Bv w ps k).map Bx).length:Int)))),(10,.own 300),(8,.d (dG w)),(2,.own 2),(1,.d (.int .i64 most))]) (λi=>[(2,.cells 58 [.d (dG G),.d (.bool e),.d (.int .i64 (D:Int)),.d (N6 l)]),(300,.slice 70 1 (((List.range k).map (Bv w ps)).map Kc++[Kc (Bv w ps k)])),(301,.slice 28 1 ((((Bv w ps k).take i).flatMap (Fh w ps)).map Bx))]) (λi=>(Bv w ps k).length-i) 0 (λ_=>rfl) (As _)
    (.own 12 301 28 1 rfl rfl (.refl _ _)) ⟨rfl,rfl,rfl,rfl,rfl,rfl,rfl,rfl,rfl,trivial⟩ ⟨rfl,rfl,rfl,trivial⟩ ?_
   intro i hi
   refine BV jS [] ?_
   by_cases hil:i<(Bv w ps k).length
   ·have hx:=Ab hil
    have hg:=hgr _ (hxl _ (Bi hil))
    generalize (Bv w ps k)[i]=x at hx hg
    have hxd:((Bv w ps k).map Bx)[i]? =some (Bx x):=by rw[Af,hx];rfl
    have hstp:((Bv w ps k).take (i+1)).flatMap (Fh w ps)=((Bv w ps k).take i).flatMap (Fh w ps)++Fh w ps x:=by rw[A2,hx,BY,BH];simp
    have h1:=hpre i
    have h2:=hpre (i+1)
    rw[hstp,Ae]at h2
    have hfin:(((Bv w ps k).take i).flatMap (Fh w ps)).map Bx++(Fh w ps x).map Bx=(((Bv w ps k).take (i+1)).flatMap (Fh w ps)).map Bx:=by rw[hstp,AF]
    have hml:((((Bv w ps k).take i).flatMap (Fh w ps)).map Bx).length+((Fh w ps x).map Bx).length<=4294967296:=by rw[Ac,Ac];omega
    (conv=>whnf)
    (repeat' ((first|refine Ai ?_ ?_|refine AM hxd rfl ?_|refine Aj rfl hg ?_|refine GW hml ?_|refine nx ?_|refine A5 (λ_=>?_) (λ_=>?_)|exact AA)<;>conv=>whnf))
    exact⟨i+1,_,_,hil,.refl _ _,⟨rfl,rfl,rfl,rfl,rfl,rfl,rfl,rfl,rfl,trivial⟩,⟨rfl,rfl,Bj hfin,trivial⟩,by omega⟩
   ·have hii:(Bv w ps k).take i=Bv w ps k:=Ao (by omega)
    rw[hii]
    ((conv=>whnf);repeat' ((first|refine odw ?_|refine nx ?_|refine A5 (λ_=>?_) (λ_=>?_))<;>conv=>whnf))
    refine⟨k+1,_,_,⟨by omega,λj hj=>?_,hm⟩,.frz 301 rfl (.refl _ _),⟨congrArg (λz=>Dat.d (.int .i64 z)) hst2,rfl,rfl,rfl,rfl,rfl,trivial⟩,⟨rfl,Bj hO1.symm,trivial⟩,by omega⟩
    rcases Bu j k with g|g
    ·exact hne j g
    ·rw[show j=k by omega];exact hR
 ·have hbig:=Zr w ps (show k+1<=D from hkD)
  unfold VS
  rw[if_neg (by omega)]
  (conv=>whnf)
  (repeat' ((first|refine Ai ?_ ?_|refine Aj rfl (BU 13 0 gQ) ?_|refine nx ?_|refine A5 (λ_=>?_) (λ_=>?_)|exact AA)<;>conv=>whnf))
  exact rfl
end
end Go.Proofs.YtjejpdfldmempaaGreatDoor
end
section
namespace Go.Proofs.YtjejpdfldmempaaGreatDoor
open Go.Sx Go.RowKit Go.Reg Go.Gr
set_option maxRecDepth 100000
theorem TU(k:Int):Pure C1 168 [.int .i64 k] (λy=>y=.bool (FB k)):=by
 refine AT Tryz.func168 Tryz.ntmps168 [] [] ?_
 by_cases h1:k=1
 ·subst h1;((conv=>whnf);repeat' ((first|refine odw ?_|refine nx ?_|refine A5 (λ_=>?_) (λ_=>?_))<;>conv=>whnf));exact rfl
 by_cases h6:k=6
 ·subst h6;((conv=>whnf);repeat' ((first|refine odw ?_|refine nx ?_|refine A5 (λ_=>?_) (λ_=>?_))<;>conv=>whnf));exact rfl
 by_cases h8:k=8
 ·subst h8;((conv=>whnf);repeat' ((first|refine odw ?_|refine nx ?_|refine A5 (λ_=>?_) (λ_=>?_))<;>conv=>whnf));exact rfl
 have e:FB k=true:=by unfold FB;simp[h1,h6,h8]
 rw[e]
 ((conv=>whnf);repeat' ((first|refine odw ?_|refine nx ?_|refine A5 (λ_=>?_) (λ_=>?_))<;>conv=>whnf))
 all_goals exact congrArg Da.bool (decide_eq_true h8)
def sR:List FuncId:=[168]
theorem Ud(o:Opp):Pure C1 114 [dO o] (λy=>y=.int .i64 (DR o)):=by
 have ht:=TU o.kind
 refine AT Tryz.func114 Tryz.ntmps114 sR [] ?_
 by_cases hk:o.kind<1\/8<o.kind
 ·have e:DR o=1:=by unfold DR;rw[if_pos hk]
  rw[e]
  (conv=>whnf)
  (repeat' ((first|refine Ai ?_ ?_|refine Aj rfl ht ?_|refine nx ?_|refine A5 (λ_=>?_) (λ_=>?_)|exact AA)<;>conv=>whnf))
  all_goals first|exact rfl|(exfalso;omega)
 ·by_cases hr:o.n<0\/255<o.n\/0<o.n/\FB o.kind=false
  ·have e:DR o=3:=by unfold DR;rw[if_neg hk,if_pos hr]
   rw[e]
   cases htk:FB o.kind<;>rw[htk]at ht hr<;>
   ·(conv=>whnf)
    (repeat' ((first|refine Ai ?_ ?_|refine Aj rfl ht ?_|refine nx ?_|refine A5 (λ_=>?_) (λ_=>?_)|exact AA)<;>conv=>whnf))
    all_goals first|exact rfl|(exfalso;simp at hr;omega)|(exfalso;omega)
  ·have e:DR o=0:=by unfold DR;rw[if_neg hk,if_neg hr]
   rw[e]
   cases htk:FB o.kind<;>rw[htk]at ht hr<;>
   ·(conv=>whnf)
    (repeat' ((first|refine Ai ?_ ?_|refine Aj rfl ht ?_|refine nx ?_|refine A5 (λ_=>?_) (λ_=>?_)|exact AA)<;>conv=>whnf))
    all_goals first|exact rfl|(exfalso;simp at hr;omega)|(exfalso;omega)
def oO:List FuncId:=[114]
theorem QM(l:List Opp)(hm:l.length<=9223372036854775807):Pure C1 73 [N6 l] (λy=>(y=.tuple [.int .i64 0,.int .i64 0]/\l.length<=16/\∀o∈l,DR o=0)\/∃c i:Int,c≠0/\y=.tuple [.int .i64 c,.int .i64 i]):=by
 have hl:(l.map dO).length=l.length:=Ac _
 refine AT Tryz.func73 Tryz.ntmps73 oO [] ?_
 by_cases h16:16<l.length
 ·((conv=>whnf);repeat' ((first|refine odw ?_|refine nx ?_|refine A5 (λ_=>?_) (λ_=>?_))<;>conv=>whnf))
  exact .inr ⟨6,0,by decide,rfl⟩
 ((conv=>whnf);repeat' ((first|refine odw ?_|refine nx ?_|refine A5 (λ_=>?_) (λ_=>?_))<;>conv=>whnf))
 refine AN (ι:=Nat) (λi=>i<=l.length/\∀y∈l.take i,DR y=0) (λi=>[(4,.d (.int .i64 i)),(0,.d (N6 l))]) (λ_=>[]) (λi=>l.length-i) 0 (λ_=>rfl) ⟨As _,by simp⟩ (.refl _ _) ⟨rfl,rfl,trivial⟩ trivial ?_
 rintro i ⟨hi,hne⟩
 refine BV oO [] ?_
 by_cases hlt:i<l.length
 ·have hx:=Ab hlt
  generalize l[i]=y at hx
  have hxd:(l.map dO)[i]? =some (.agg [.int .i64 y.kind,.int .i64 y.n]):=by rw[Af,hx];rfl
  have hf:=Ud y
  by_cases hy:DR y=0
  ·rw[hy]at hf
   (conv=>whnf)
   (repeat' ((first|refine Ai ?_ ?_|refine AM hxd rfl ?_|refine Aj rfl hf ?_|refine nx ?_|refine A5 (λ_=>?_) (λ_=>?_)|exact AA)<;>conv=>whnf))
   refine⟨i+1,_,_,⟨hlt,?_⟩,.refl _ _,⟨rfl,rfl,trivial⟩,trivial,by omega⟩
   intro z hz
   rw[A2,hx]at hz
   rcases Ag.1 hz with hz|hz
   ·exact hne z hz
   ·simp at hz;subst hz;exact hy
  ·(conv=>whnf)
   (repeat' ((first|refine Ai ?_ ?_|refine AM hxd rfl ?_|refine Aj rfl hf ?_|refine nx ?_|refine A5 (λ_=>?_) (λ_=>?_)|exact AA)<;>conv=>whnf))
   exact .inr ⟨_,_,hy,rfl⟩
 ·have hii:l.take i=l:=Ao (by omega)
  rw[hii]at hne
  ((conv=>whnf);repeat' ((first|refine odw ?_|refine nx ?_|refine A5 (λ_=>?_) (λ_=>?_))<;>conv=>whnf))
  exact .inl ⟨rfl,by omega,hne⟩
end Go.Proofs.YtjejpdfldmempaaGreatDoor
end
section
namespace Go.Proofs.YtjejpdfldmempaaGreatDoor
open Go.Sx Go.RowKit Go.Reg Go.Gr
set_option maxRecDepth 100000
theorem SQ(l:List Opp)(hm:l.length<=8796093022207):Pure C1 23 [N6 l] (λy=>y=N6 l):=by
 have hel:(l.map dO).length=l.length:=Ac _
 refine AT Tryz.func23 Tryz.ntmps23 [] [] ?_
 ((conv=>whnf);repeat' ((first|refine odw ?_|refine nx ?_|refine A5 (λ_=>?_) (λ_=>?_))<;>conv=>whnf))
 refine AN (ι:=Nat) (λi=>i<=l.length) (λi=>[(4,.d (.int .i64 i)),(3,.own 300),(0,.d (N6 l))]) (λi=>[(300,.slice 140 2 ((l.take i).map dO))]) (λi=>l.length-i) 0 (λ_=>rfl) (As _)
  (.own 3 300 140 2 rfl rfl (.refl _ _)) ⟨rfl,rfl,rfl,trivial⟩ ⟨rfl,trivial⟩ ?_
 intro i hi
 refine BV [] [] ?_
 by_cases hlt:i<l.length
 ·have hx:=Ab hlt
  generalize l[i]=e at hx
  have hxd:(l.map dO)[i]? =some (dO e):=by rw[Af,hx];rfl
  have htl:((l.take i).map dO).length=i:=by rw[Ac,Aw];omega
  have hfin:(l.take i).map dO++[dO e]=(l.take (i+1)).map dO:=by rw[A2,hx,BY,AF];rfl
  generalize (l.take i).map dO=Z at htl hfin⊢
  (conv=>whnf)
  (repeat' ((first|refine Ai ?_ ?_|refine AM hxd rfl ?_|refine qG (by simp only[Ax,Cf];omega) ?_|refine nx ?_|refine A5 (λ_=>?_) (λ_=>?_)|exact AA)<;>conv=>whnf))
  exact⟨i+1,_,_,hlt,.refl _ _,⟨rfl,rfl,rfl,trivial⟩,⟨Bj hfin,trivial⟩,by omega⟩
 ·have hii:l.take i=l:=Ao (by omega)
  rw[hii]
  ((conv=>whnf);repeat' ((first|refine odw ?_|refine nx ?_|refine A5 (λ_=>?_) (λ_=>?_))<;>conv=>whnf))
  exact rfl
end Go.Proofs.YtjejpdfldmempaaGreatDoor
end
section
namespace Go.Proofs.YtjejpdfldmempaaGreatDoor
open Go.Gr
def DL:Gr:=⟨[0,0,0],[⟨0,1⟩,⟨0,2⟩,⟨1,2⟩]⟩
theorem Zd:Fx DL.edges=DL.edges:=(MD (by decide) (by decide) (by decide)).symm
theorem kS:De DL.labels DL.edges=none:=by decide
theorem Wm:DL.Ok:=by
 have:=MC kS
 rwa [Zd]at this
theorem aQ {G:Gr}(hG:G.Ok)(l:List Int):HO G l=if Dk G l=true then(Px G l G.labels.length).filter (Ec G l)else[]:=by
 unfold HO
 rw[eK hG]
theorem cI {x:List Int}(h:BK DL x=true)(h8:x.length<=8):KS DL false [] x=true:=by
 unfold KS Ck
 rw[if_neg (by decide),h,if_neg (by decide),decide_eq_true h8]
 unfold Ny
 rw[N0 Wm h8 h];rfl
theorem LC:Bv DL (KS DL false []) 0=[[0],[1],[2]]:=by
 show([[0],[1],[2]]:List (List Int)).filter _=_
 refine F5.2 λx hx=>cI ?_ ?_
 ·revert x;decide
 ·revert x;decide
theorem Hq {l:List Int} {r:List (List Int)}(h:((if Dk DL l=true then(Px DL l 3).filter (Ec DL l)else[]).map λv=>l++[v])=r)(hr:∀x∈r,BK DL x=true/\x.length<=8):Fh DL (KS DL false []) l=r:=by
 unfold Fh IJ
 rw[aQ Wm]
 rw[show DL.labels.length=3 from rfl,h]
 exact F5.2 λx hx=>cI (hr x hx).1 (hr x hx).2
theorem LB:Bv DL (KS DL false []) 1=[[0,1],[0,2],[1,2]]:=by
 show(Bv DL (KS DL false []) 0).flatMap _=_
 rw[LC,AZ,AZ,AZ,List.flatMap_nil]
 rw[Hq (l:=[0]) (r:=[[0,1],[0,2]]) (by decide) (by decide),Hq (l:=[1]) (r:=[[1,2]]) (by decide) (by decide),Hq (l:=[2]) (r:=[]) (by decide) (by decide)];rfl
theorem OX:Bv DL (KS DL false []) 2=[[0,1,2]]:=by
 show(Bv DL (KS DL false []) 1).flatMap _=_
 rw[LB,AZ,AZ,AZ,List.flatMap_nil]
 rw[Hq (l:=[0,1]) (r:=[[0,1,2]]) (by decide) (by decide),Hq (l:=[0,2]) (r:=[]) (by decide) (by decide),Hq (l:=[1,2]) (r:=[]) (by decide) (by decide)];rfl
theorem cH:DI DL (KS DL false []) 3=[[[0],[1],[2]],[[0,1],[0,2],[1,2]],[[0,1,2]]]:=by
 rw[FC]
 ·show[Bv _ _ 0,Bv _ _ 1,Bv _ _ 2]=_
  rw[LC,LB,OX]
 ·intro k hk
  have:k=0\/k=1\/k=2:=by omega
  rcases this with rfl|rfl|rfl
  ·rw[LC];simp
  ·rw[LB];simp
  ·rw[OX];simp
end Go.Proofs.YtjejpdfldmempaaGreatDoor
end
section
namespace Go.Proofs.YtjejpdfldmempaaGreatDoor
open Go.Sx Go.RowKit Go.Reg Go.Gr
set_option maxRecDepth 100000
theorem lT {O:List Nat} {w:World} {l:List Opp} {v:Value}(h:Rep O w (N6 l) v):l.length<=9223372036854775807:=by
 have:=Yt h
 rw[Ac]at this
 unfold maxLen at this
 omega
theorem Pure.len5 {f:FuncId} {a b c d:Da} {l:List Opp} {xs:List Da} {Q:Da->Prop}(h:l.length<=9223372036854775807->Sx.Pure C1 f (a::b::c::d::N6 l::xs) Q):Sx.Pure C1 f (a::b::c::d::N6 l::xs) Q:=
 Sx.Pure.assume (λO w us hr=>by
  obtain⟨_,_,rfl,_,h1⟩:=Cb hr
  obtain⟨_,_,rfl,_,h2⟩:=Cb h1
  obtain⟨_,_,rfl,_,h3⟩:=Cb h2
  obtain⟨_,_,rfl,_,h4⟩:=Cb h3
  obtain⟨_,_,rfl,h5,_⟩:=Cb h4
  exact lT h5) h
def uG(G:Gr)(e:Bool)(d:Int)(l:List Opp):Da:=.agg [dM G.labels G.edges,.bool e,.int .i64 d,N6 l]
def rW:Da:=.tuple [.agg [.nilp,.bool false,.int .i64 0,.nils],.agg [.agg [.nils,.nils],.bool false,.int .i64 0,.nils],.bool false]
def pX:List (Nat×Plan):=[(5,.split 6 11 (.leaf [0,0,0,0,2,0,1,0,0,0,0,3,3,0] [0,1,2,3,7,8,9,6,10,4,5,11,12,13] [0,0,0,0,8,31,0,0,0,0,960,127,4095,8191]) (.leaf [0,0,0,0,2,0,1,0,0,0,0,3,3,0] [0,1,2,3,7,8,9,4,5,11,6,10,12,13] [0,0,0,0,8,31,2111,0,0,0,3071,63,4095,8191]))]
def tJ:List FuncId:=[72,73,23]
theorem Xj(labels:List Int)(edges:List Edg)(e:Bool)(d:Int)(p:List Opp):Pure C1 22 [Bx labels,Er edges,.bool e,.int .i64 d,N6 p] (λy=>y=rW\/∃G,y=.tuple [dJ G e d p,uG G e d p,.bool true]/\JobOk G e d p):=by
 refine Pure.len5 λhpl=>?_
 have hll:(labels.map dI).length=labels.length:=Ac _
 have hel:(edges.map dE).length=edges.length:=Ac _
 have hmd:=R9 labels edges
 have hrr:=QM p hpl
 refine AT Tryz.func22 Tryz.ntmps22 tJ pX ?_
 (conv=>whnf)
 rcases aA labels edges with hy|⟨G,hy,hG,_,hm,hGe,_,hlen⟩
 ·rw[hy]at hmd
  (repeat' ((first|refine Ai ?_ ?_|refine Aj rfl hmd ?_|refine nx ?_|refine A5 (λ_=>?_) (λ_=>?_)|exact AA)<;>conv=>whnf))
  refine AH rfl hrr ?_
  rintro y (⟨rfl,hl16,hlok⟩|⟨c,i,hc,rfl⟩)
  ·((conv=>whnf);repeat' ((first|refine odw ?_|refine nx ?_|refine A5 (λ_=>?_) (λ_=>?_))<;>conv=>whnf))
   exact .inl rfl
  ·((conv=>whnf);repeat' ((first|refine odw ?_|refine nx ?_|refine A5 (λ_=>?_) (λ_=>?_))<;>conv=>whnf))
   exact .inl rfl
 ·rw[hy]at hmd
  have hGl:G.labels=labels:=by rw[hGe]
  (repeat' ((first|refine Ai ?_ ?_|refine Aj rfl hmd ?_|refine nx ?_|refine A5 (λ_=>?_) (λ_=>?_)|exact AA)<;>conv=>whnf))
  refine AH rfl hrr ?_
  rintro y (⟨rfl,hl16,hlok⟩|⟨c,i,hc,rfl⟩)
  ·have hof:=SQ p (by omega)
   by_cases h7:7<labels.length
   ·((conv=>whnf);repeat' ((first|refine odw ?_|refine nx ?_|refine A5 (λ_=>?_) (λ_=>?_))<;>conv=>whnf))
    exact .inl rfl
   by_cases hd:1<=d/\d<=8
   ·cases e with
    |
     true=>
     by_cases h8:8<edges.length
     ·((conv=>whnf);repeat' ((first|refine odw ?_|refine nx ?_|refine A5 (λ_=>?_) (λ_=>?_))<;>conv=>whnf))
      exact .inl rfl
     ·(conv=>whnf)
      (repeat' ((first|refine Ai ?_ ?_|refine Aj rfl hof ?_|refine nx ?_|refine A5 (λ_=>?_) (λ_=>?_)|exact AA)<;>conv=>whnf))
      exact .inr ⟨G,rfl,hG,by rw[hGl];omega,hm,λ_=>by omega,hd,hl16,hlok⟩
    |
     false=>
     by_cases h8:8<edges.length
     ·(conv=>whnf)
      (repeat' ((first|refine Ai ?_ ?_|refine Aj rfl hof ?_|refine nx ?_|refine A5 (λ_=>?_) (λ_=>?_)|exact AA)<;>conv=>whnf))
      exact .inr ⟨G,rfl,hG,by rw[hGl];omega,hm,λh=>(by cases h),hd,hl16,hlok⟩
     ·(conv=>whnf)
      (repeat' ((first|refine Ai ?_ ?_|refine Aj rfl hof ?_|refine nx ?_|refine A5 (λ_=>?_) (λ_=>?_)|exact AA)<;>conv=>whnf))
      exact .inr ⟨G,rfl,hG,by rw[hGl];omega,hm,λh=>(by cases h),hd,hl16,hlok⟩
   ·by_cases h8:8<edges.length<;>cases e<;>((conv=>whnf);repeat' ((first|refine odw ?_|refine nx ?_|refine A5 (λ_=>?_) (λ_=>?_))<;>conv=>whnf))
    all_goals exact .inl rfl
  ·by_cases h7:7<labels.length<;>by_cases h8:8<edges.length<;>cases e<;>((conv=>whnf);repeat' ((first|refine odw ?_|refine nx ?_|refine A5 (λ_=>?_) (λ_=>?_))<;>conv=>whnf))
   all_goals exact .inl rfl
theorem Xg(b:Bool)(d:Int)(ds:List Da):Pure C1 75 [.agg [.nilp,.bool b,.int .i64 d,.list 2 ds]] (λy=>y=.tuple [.nilp,dF 10 0 GD]):=by
 refine AT Tryz.func75 Tryz.ntmps75 oV pT ?_
 (conv=>whnf)
 (repeat' ((first|refine Ai ?_ ?_|refine Aj rfl (BU 10 0 GD) ?_|refine nx ?_|refine A5 (λ_=>?_) (λ_=>?_)|exact AA)<;>conv=>whnf))
 exact rfl
theorem aD {G:Da} {b:Bool} {d:Int} {ds:List Da} {x:Da}(hG:G=.nilp\/∃g,G=dG g)(h:Pure C1 75 [.agg [G,.bool b,.int .i64 d,.list 2 ds]] (λy=>y=.tuple [.nilp,x]))(hx:(∃c a s,x=dF c a s)\/∃z c a s,x=dS z (dF c a s)):Pure C1 25 [.agg [G,.bool b,.int .i64 d,.list 2 ds]] (λy=>y=x):=by
 rcases hG with rfl|⟨g,rfl⟩<;>rcases hx with⟨c,a,s,rfl⟩|⟨z,c,a,s,rfl⟩
 all_goals
  refine AT Tryz.func25 Tryz.ntmps25 tF pU ?_
  (conv=>whnf)
  (repeat' ((first|refine Ai ?_ ?_|refine Aj rfl h ?_|refine nx ?_|refine A5 (λ_=>?_) (λ_=>?_)|exact AA)<;>conv=>whnf))
  exact rfl
theorem cJ:GB [0,0,0] [⟨0,2⟩,⟨1,2⟩,⟨0,1⟩]=.tuple [dG DL,dM DL.labels DL.edges,.bool true]:=by
 have h1:De [0,0,0] [⟨0,2⟩,⟨1,2⟩,⟨0,1⟩]=none:=by decide
 have h2:Fx [⟨0,2⟩,⟨1,2⟩,⟨0,1⟩]=DL.edges:=(MD (by decide) (by decide) (by decide)).symm
 unfold GB Mi
 rw[if_pos ⟨by decide,by decide⟩,h1]
 simp only[h2]
 rfl
theorem kQ:JobOk DL false 3 []:=⟨Wm,by decide,by decide,λh=>(by cases h),by omega,by decide,λo ho=>by cases ho⟩
def rJ:List FuncId:=[72]
theorem Ts:Pure C1 21 [] (λy=>y=.bool true):=by
 have hm:=R9 [0,0,0] [⟨0,2⟩,⟨1,2⟩,⟨0,1⟩]
 rw[cJ]at hm
 have ha:Pure C1 26 [.agg [dG DL,.bool false,.int .i64 3,.nils],.int .i64 100] (λz=>z=.tuple [.list 1 ([[[0],[1],[2]],[[0,1],[0,2],[1,2]],[[0,1,2]]].map Kc),.nili]):=by
  refine Sx.Pure.lax (.cons (.agg (.cons (.refl _) (.cons (.refl _) (.cons (.refl _) (.cons (.nils 2) .nil))))) (.cons (.refl _) .nil)) ?_
  have:=VR kQ 100
  rw[show Ck DL false=DL from rfl]at this
  have hs:Hf DL (KS DL false []) 3=7:=by
   unfold Hf
   show((Bv _ _ 0).length+((Bv _ _ 1).length+((Bv _ _ 2).length+0)))=7
   rw[LC,LB,OX];rfl
  rw[show VS DL (KS DL false []) (3:Int).toNat 100=.tuple [.list 1 ([[[0],[1],[2]],[[0,1],[0,2],[1,2]],[[0,1,2]]].map Kc),.nili]by
   show VS DL (KS DL false []) 3 100=_
   unfold VS
   rw[hs,if_pos (by decide),cH]]at this
  exact this
 have hr:Pure C1 25 [.agg [.nilp,.bool false,.int .i64 0,.nils]] (λy=>y=dF 10 0 GD):=
  Sx.Pure.lax (.cons (.agg (.cons (.refl _) (.cons (.refl _) (.cons (.refl _) (.cons (.nils 2) .nil))))) .nil) (aD (.inl rfl) (Xg false 0 []) (.inl ⟨_,_,_,rfl⟩))
 have hc:=bH 10 0 GD
 have g0:(List.map Kc [[[0],[1],[2]],[[0,1],[0,2],[1,2]],[[0,1,2]]])[0]? =some (Kc [[0],[1],[2]]):=rfl
 have g1:(List.map Kc [[[0],[1],[2]],[[0,1],[0,2],[1,2]],[[0,1,2]]])[1]? =some (Kc [[0,1],[0,2],[1,2]]):=rfl
 have g2:(List.map Kc [[[0],[1],[2]],[[0,1],[0,2],[1,2]],[[0,1,2]]])[2]? =some (Kc [[0,1,2]]):=rfl
 have l0:(List.map Kc [[[0],[1],[2]],[[0,1],[0,2],[1,2]],[[0,1,2]]]).length=3:=rfl
 have l1:(List.map Bx [[0],[1],[2]]).length=3:=rfl
 have l2:(List.map Bx [[0,1],[0,2],[1,2]]).length=3:=rfl
 have l3:(List.map Bx [[0,1,2]]).length=1:=rfl
 refine AT Tryz.func21 Tryz.ntmps21 rJ [] ?_
 (conv=>whnf)
 (repeat' ((first|refine Ai ?_ ?_|refine Aj (xs:=[Bx [0,0,0],Er [⟨0,2⟩,⟨1,2⟩,⟨0,1⟩]]) rfl hm ?_|refine Du 7 rfl ?_|refine Du 11 rfl ?_|refine Aj rfl ha ?_|refine Aj rfl hr ?_|refine Aj rfl hc ?_|refine AM g0 rfl ?_|refine AM g1 rfl ?_|refine AM g2 rfl ?_|refine nx ?_|refine A5 (λ_=>?_) (λ_=>?_)|exact AA)<;>conv=>whnf))
 exact rfl
end Go.Proofs.YtjejpdfldmempaaGreatDoor
end
section
namespace Go.Proofs.YtjejpdfldmempaaGreatDoor
open Go.Sx Go.RowKit Go.Reg Go.Gr
set_option maxRecDepth 100000
def Ma(G:Gr)(e:Bool)(X:List Int):Pt:=if e=true then Qx G X else NP G X
def kM(G:Gr)(e:Bool)(X:List Int):List Int:=if e=true then BN (BJ G.edges X)else X
section
variable {G:Gr} {e:Bool} {d:Int} {l:List Opp}
theorem Xm(_h:JobOk G true d l) {X:List Int}(hl:BK (Gq G) X=true):∀x∈X,0<=x/\x<(G.edges.length:Int):=λx hx=>by
 have:=La hl x hx
 have e:(Gq G).labels.length=G.edges.length:=Bm
 omega
theorem Up(h:JobOk G e d l) {X:List Int}(hl:BK (Ck G e) X=true)(h8:(kM G e X).length<=8):Hj (Ma G e X)=none:=by
 cases e with
 |true=>exact RG h.ok h8
 |false=>exact N0 h.ok h8 hl
theorem pO(h:JobOk G e d l) {X:List Int}(hl:BK (Ck G e) X=true):KS G e l X=(decide ((kM G e X).length<=8)&&l.all λo=>P2 o (Ma G e X)):=by
 by_cases h8:(kM G e X).length<=8
 ·have hp:=Up h hl h8
  have hk:=aJ (l:=l) (p:=Ma G e X) ⟨rfl,(H5 hp).2.1,(H5 hp).2.2⟩ h.lok
  rw[hk]
  unfold KS Ny
  rw[hl]
  cases e with
  |
   true=>
   rw[if_pos rfl]
   rw[show Ma G true X=Qx G X from rfl]at hp⊢
   rw[hp];rfl
  |
   false=>
   rw[if_neg (by decide)]
   rw[show Ma G false X=NP G X from rfl]at hp⊢
   rw[hp];rfl
 ·rw[decide_eq_false h8,Bool.false_and]
  unfold KS
  rw[hl]
  cases e with
  |
   true=>
   rw[if_pos rfl]
   rw[show kM G true X=BN (BJ G.edges X)from rfl]at h8
   rw[decide_eq_false h8];rfl
  |
   false=>
   rw[if_neg (by decide)]
   rw[show kM G false X=X from rfl]at h8
   rw[decide_eq_false h8];rfl
end
end Go.Proofs.YtjejpdfldmempaaGreatDoor
end
section
namespace Go.Proofs.YtjejpdfldmempaaGreatDoor
open Go.Sx Go.RowKit Go.Reg Go.Gr
set_option maxRecDepth 100000
section
variable {G:Gr} {e:Bool} {d:Int} {l:List Opp}
theorem fP(h:JobOk G e d l) {X:List Int}(hl:BK (Ck G e) X=true)(h8:(kM G e X).length<=8):WR G e X=.tuple [L3 (Ma G e X),Bx (kM G e X),.nili]:=by
 unfold WR
 cases e with
 |
  true=>
  rw[if_pos rfl]
  unfold RV
  rw[if_neg (by rw[show BK (Gq G) X=true from hl];decide),if_neg (by have:(BN (BJ G.edges X)).length<=8:=h8;omega)];rfl
 |
  false=>
  rw[if_neg (by decide),if_neg (by have:X.length<=8:=h8;omega),if_neg (by rw[show BK G X=true from hl];decide)];rfl
end
end Go.Proofs.YtjejpdfldmempaaGreatDoor
end
section
namespace Go.Gr
section
variable {α:Type} {f:α->α->Int}
theorem nO {l:List (α×Int)} {p:α} {n:Int}(hn:0<=n)(hl:∀x∈l,0<=x.2):∀x∈D1 f l p n,0<=x.2:=by
 induction l with
 |nil=>intro x hx;simp only[D1,AG]at hx;subst hx;exact hn
 |
  cons y l ih=>
  obtain⟨q,m⟩:=y
  have h0:=hl (q,m) (.head _)
  have ih:=ih (λx hx=>hl x (.tail _ hx))
  intro x hx
  simp only[D1]at hx
  split at hx
  ·rcases Ar.1 hx with rfl|hx
   ·exact h0
   ·exact ih x hx
  ·split at hx
   ·rcases Ar.1 hx with rfl|hx
    ·simp only at h0⊢;omega
    ·exact hl x (.tail _ hx)
   ·rcases Ar.1 hx with rfl|hx
    ·exact hn
    ·exact hl x hx
theorem jB {l:List (α×Int)} {p:α} {n:Int}:(D1 f l p n).length<=l.length+1:=by
 induction l with
 |nil=>simp[D1]
 |
  cons y l ih=>
  obtain⟨q,m⟩:=y
  simp only[D1]
  split
  ·simp only[Ax];omega
  ·split<;>simp only[Ax]<;>omega
theorem Pj {l:List (α×Int)}(hl:∀x∈l,0<=x.2):(0<=Gm l)/\∀x∈l,x.2<=Gm l:=by
 unfold Gm
 induction l with
 |nil=>exact⟨Int.le_refl _,λx hx=>by cases hx⟩
 |
  cons y l ih=>
  obtain⟨h1,h2⟩:=ih (λx hx=>hl x (.tail _ hx))
  have h0:=hl y (.head _)
  simp only[Ap,List.foldr_cons]
  refine⟨by omega,λx hx=>?_⟩
  rcases Ar.1 hx with rfl|hx
  ·omega
  ·have:=h2 x hx;omega
def He(ps:List Pt):List (Pt×Int):=ps.foldl (λl p=>D1 Ia l p 1) []
theorem Rc(ps:List Pt)(p:Pt):He (ps++[p])=D1 Ia (He ps) p 1:=by unfold He;rw[List.foldl_append];rfl
theorem MR(ps:List Pt):Gm (He ps)=ps.length/\(∀x∈He ps,0<=x.2)/\(He ps).length<=ps.length/\(∀x∈He ps,x.1∈ps)/\KI Ia (He ps):=by
 suffices h:∀qs:List Pt,Gm (He qs.reverse)=qs.length/\(∀x∈He qs.reverse,0<=x.2)/\(He qs.reverse).length<=qs.length/\(∀x∈He qs.reverse,x.1∈qs)/\KI Ia (He qs.reverse)by
  have:=h ps.reverse
  rw[List.reverse_reverse,List.length_reverse]at this
  exact⟨this.1,this.2.1,this.2.2.1,λx hx=>List.mem_reverse.1 (this.2.2.2.1 x hx),this.2.2.2.2⟩
 intro qs
 induction qs with
 |nil=>exact⟨rfl,λx hx=>(by cases hx),Av _,λx hx=>(by cases hx),.nil⟩
 |
  cons q qs ih=>
  obtain⟨h1,h2,h3,h4,h5⟩:=ih
  rw[List.reverse_cons,Rc]
  refine⟨by rw[dD,h1];simp,nO (by omega) h2,Cv jB (by simpa using h3),λx hx=>?_,NH OY h5⟩
  rcases VU x hx with e|hx
  ·rw[e];exact .head _
  ·exact .tail _ (h4 x hx)
end
end Go.Gr
namespace Go.Proofs.YtjejpdfldmempaaGreatDoor
open Go.Sx Go.RowKit Go.Reg Go.Gr
set_option maxRecDepth 100000
theorem kV {p:Pt}(h:Hj p=none):TextOk p/\Tu p:=by
 obtain⟨h1,h2,h3⟩:=H5 h
 obtain⟨g1,g2⟩:=Nx h1
 obtain⟨s1,s2⟩:=LW h
 refine⟨⟨Jd h,by omega,λx hx=>?_,by omega,λe he=>?_⟩,λx hx=>(g2 x hx).1,λe he=>?_⟩
 ·have:=g2 x hx;omega
 ·have:=h2 e he;omega
 ·have:=h2 e he;omega
theorem CG.mono {C:Cx} {f:FuncId} {args:List Dat} {σ0:Sg} {ks:List Nat} {Q R:Dat->Sg->Prop}(h:CG C f args σ0 ks Q)(hq:∀d σ,Q d σ->R d σ):CG C f args σ0 ks R:=by
 intro B S w η φ css hm hr
 obtain⟨h1,h2⟩:=h B S w η φ css hm hr
 refine⟨h1,h2.mono ?_⟩
 rintro e w' ⟨v,d,σ1,η1,φ1,e1,hQ,r⟩
 exact⟨v,d,σ1,η1,φ1,e1,hq _ _ hQ,r⟩
theorem kW {m:List (ByteArray×RowV)}(X:List (Value×Da)) {l:List (Pt×Int)} {p:Pt} {n:Int}(ht:MK l m)(hp:Hj p=none)(hn:0<=n)(hl:∀x∈l,0<=x.2)(hs:Gm l+n<=9223372036854775807):
  CG C3 16 [.own 900,.d (L3 p),.d (.int .i64 n)] (sT m X) [900] (λd σ=>∃z:List (ByteArray×RowV)×List (Value×Da),d=.d .nili/\σ=sT z.1 z.2/\MK (D1 Ia l p n) z.1):=by
 obtain⟨hx,hnp⟩:=kV hp
 obtain⟨s0,s1⟩:=Pj hl
 cases hg:Reg.get m (bs (Fu p))with
 |
  none=>
  refine CG.mono (cN m X p n hx ⟨hn,by omega⟩ hg) ?_
  rintro d σ ⟨r,⟨r1,r2⟩,rfl,rfl⟩
  exact⟨(_,_),rfl,rfl,by rw[<-r1];exact cQ ht hnp r2 hg⟩
 |
  some r=>
  obtain⟨e,hT⟩:=cO ht hnp n hg
  have hm:(bs (Fu p),r)∈m:=by
   unfold Reg.get at hg
   obtain⟨q,hq,e⟩:=BR.1 hg
   have h1:=List.mem_of_find?_eq_some hq
   have h2:=List.find?_some hq
   have h3:q.1=bs (Fu p):=by simpa using h2
   have:q=(bs (Fu p),r):=by rw[<-h3,<-e]
   rw[<-this];exact h1
  have hin:=TC ht hm
  have h0:=hl _ hin
  have h1:=s1 _ hin
  simp only at h0 h1
  refine CG.mono (cM m X p n r hx hn hg h0 (by omega)) ?_
  rintro d σ ⟨rfl,rfl⟩
  exact⟨(_,_),rfl,rfl,hT⟩
section
variable {G:Gr} {e:Bool} {d:Int} {l:List Opp}
def Yy:List (Nat×Plan):=[]
def Yb:List FuncId:=[34]
theorem iP:BQ Tryz.prog Yb Yy (Tryz.f42.body.getD .skip)=true:=by kernel_rfl
theorem eC(vs:Array Value)(w:World):(callFunc 42 vs).run C1.P w=.ok (.enter 42 vs) w:=by kernel_rfl
theorem aC(R:List (List Int))(q:List Int->Pt)(hR:R.length<=1000000)(hq:∀X∈R,Hj (q X)=none/\∃V,Pure C1 34 [dJ G e d l,Bx X] (λz=>z=.tuple [L3 (q X),Bx V,.nili])):
  CG C3 42 [.d (dJ G e d l),.d (Kc R)] [] [] (λd σ=>∃z:List (ByteArray×RowV)×List (Value×Da),d=.tuple [.own 900,.d .nili]/\σ=sT z.1 z.2/\MK (He (R.map q)) z.1):=by
 have hRl:(R.map Bx).length=R.length:=Ac _
 refine FD E6 (pl:=Yy) (G:=Yb) Tryz.func42 rfl Tryz.ntmps42 eC iP (by simp) 999 rfl ?_
 intro vs
 (conv=>whnf)
 refine CW [] [] kU rfl rfl rfl rfl rfl rfl rfl ?_
 (conv=>whnf)
 refine AN (ι:=Nat×List (ByteArray×RowV)×List (Value×Da)) (λx=>x.1<=R.length/\MK (He ((R.take x.1).map q)) x.2.1) (λx=>[(16,.d (.int .i64 x.1)),(15,.d (.int .i64 (R.map Bx).length)),(14,.d (Kc R)),(6,.own 900),(2,.own 2)])
  (λx=>[(999,.ghost vs []),(2,.cells 58 [.d (dG G),.d (.bool e),.d (.int .i64 d),.d (N6 l)]),(900,.cells 106 [.own 901]),(901,(Fs Nc x.2.1 x.2.2).own)]) (λx=>R.length-x.1) (0,[],[]) (λ_=>rfl) ⟨As _,cP⟩ (.refl _ _) ⟨rfl,rfl,rfl,rfl,rfl,trivial⟩ ⟨rfl,rfl,rfl,rfl,trivial⟩ ?_
 rintro⟨i,m,X⟩ ⟨hi,hT⟩
 simp only at hi hT
 refine IM Yb [] ?_
 by_cases hlt:i<R.length
 ·have hx:R[i]? =some R[i]:=Ab hlt
  have hxm:=AD hx
  have htk:(R.take (i+1)).map q=(R.take i).map q++[q R[i]]:=by rw[A2,hx,BY,AF];rfl
  generalize R[i]=x at hx hxm htk
  obtain⟨hpe,V,hpt⟩:=hq x hxm
  have hpt:=Pure.up3 hpt
  have hxd:(R.map Bx)[i]? =some (Bx x):=by rw[Af,hx];rfl
  obtain⟨t1,t2,t3,t4,t5⟩:=MR ((R.take i).map q)
  have hsl:Gm (He ((R.take i).map q))<=1000000:=by rw[t1,Ac,Aw];omega
  have had:=kW X hT hpe (n:=1) (by omega) t2 (by omega)
  rw[<-Rc,<-htk]at had
  (conv=>whnf)
  (repeat' ((first|refine Ai ?_ ?_|refine AM hxd rfl ?_|refine Aj rfl hpt ?_|refine nx ?_|refine A5 (λ_=>?_) (λ_=>?_)|exact AA)<;>conv=>whnf))
  refine NC [] [900,901] had (λd σ h=>h) rfl rfl rfl rfl rfl rfl (λ_=>rfl) ?_
  rintro⟨m',X'⟩ hT'
  ((conv=>whnf);repeat' ((first|refine odw ?_|refine nx ?_|refine A5 (λ_=>?_) (λ_=>?_))<;>conv=>whnf))
  exact⟨(i+1,m',X'),_,_,⟨hlt,hT'⟩,.refl _ _,⟨rfl,rfl,rfl,rfl,rfl,trivial⟩,⟨rfl,rfl,rfl,rfl,trivial⟩,by simp only;omega⟩
 ·have e:R.take i=R:=Ao (by omega)
  rw[e]at hT
  ((conv=>whnf);repeat' ((first|refine odw ?_|refine nx ?_|refine A5 (λ_=>?_) (λ_=>?_))<;>conv=>whnf))
  exact⟨_,_,[],sT m X,.lo (.refl _ _),rfl,⟨rfl,rfl,trivial⟩,rfl,(m,X),rfl,rfl,hT⟩
end
end Go.Proofs.YtjejpdfldmempaaGreatDoor
end
section
namespace Go.Proofs.YtjejpdfldmempaaGreatDoor
open Go.Sx Go.RowKit Go.Reg Go.Gr
set_option maxRecDepth 100000
def IK(l:List Edg):List Int:=l.flatMap λe=>[e.a,e.b]
theorem XF(l:List Edg)(e:Edg):IK (l++[e])=IK l++[e.a,e.b]:=by unfold IK;rw[BH,L1]
theorem N4(l:List Edg):(IK l).length=2*l.length:=by
 induction l with
 |nil=>rfl
 |cons x l ih=>unfold IK at*;rw[AZ,Ae,ih,Ax];simp;omega
def pB(p:Pt):List Int:=(w4 (p.labels.map dI).length++wL p.labels)++w4 ((IK p.edges).map dI).length++wL (IK p.edges)
theorem Uo(p:Pt)(h1:p.labels.length<=1000000)(h2:p.edges.length<=1000000)(hl:∀x∈p.labels,0<=x/\x<=4294967295)(he:∀e∈p.edges,(0<=e.a/\e.a<=4294967295)/\0<=e.b/\e.b<=4294967295):Pure C3 67 [L3 p] (λy=>y=.list 1 (bD (pB p))):=by
 have hel:(p.edges.map dE).length=p.edges.length:=Ac _
 have hends:=N4 p.edges
 have hdl:(Bx p.labels).size=1:=rfl
 have hl1:=gR (l:=p.labels) hl (by omega)
 have hl2:=mB (l:=IK p.edges) (w4 (p.labels.map dI).length++wL p.labels) (λx hx=>by
  obtain⟨e,h,hx⟩:=A9.1 hx
  have:=he e h
  rcases Ar.1 hx with rfl|hx
  ·exact this.1
  ·rw[AG.1 hx];exact this.2) (by rw[Ae,OW,F9];omega)
 have hby:=QU (pB p) (λh=>by unfold pB w4 at h;simp at h) (by unfold pB;simp only[Ae,OW,F9];omega)
 refine Uj Tryz.func67 Tryz.ntmps67 [] [] ?_
 (conv=>whnf)
 refine AN (ι:=Nat) (λi=>i<=p.edges.length) (λi=>[(12,.d (.int .i64 i)),(11,.d (.int .i64 (p.edges.map dE).length)),(10,.d (Er p.edges)),(4,.own 300),(3,.own 8),(1,.own 1)]) (λi=>[(1,.cells 31 [.d (Bx p.labels),.d (Er p.edges)]),(8,.cells 129 [.d .nils,.d .nili]),(300,.slice 3 1 ((IK (p.edges.take i)).map dI))]) (λi=>p.edges.length-i) 0 (λ_=>rfl) (As _) (.own 4 300 3 1 rfl rfl (.refl _ _)) ⟨rfl,rfl,rfl,rfl,rfl,rfl,trivial⟩ ⟨rfl,rfl,rfl,trivial⟩ ?_
 intro i hi
 refine IM [] [] ?_
 by_cases hlt:i<p.edges.length
 ·have hx:p.edges[i]? =some p.edges[i]:=Ab hlt
  have htk:p.edges.take (i+1)=p.edges.take i++[p.edges[i]]:=by rw[A2,hx];rfl
  generalize p.edges[i]=x at hx htk
  have hxd:(p.edges.map dE)[i]? =some (dE x):=by rw[Af,hx];rfl
  have hsl:(IK (p.edges.take (i+1))).map dI=(IK (p.edges.take i)).map dI++[.int .i64 x.a,.int .i64 x.b]:=by rw[htk,XF,AF];rfl
  have hnl:(IK (p.edges.take i)).length<=2000000:=by rw[N4,Aw];omega
  (conv=>whnf)
  (repeat' ((first|refine Ai ?_ ?_|refine AM hxd rfl ?_|refine nx ?_|refine A5 (λ_=>?_) (λ_=>?_)|exact AA)<;>conv=>whnf))
  exact⟨i+1,_,_,hlt,.refl _ _,⟨rfl,rfl,rfl,rfl,rfl,rfl,trivial⟩,⟨rfl,rfl,Bj hsl.symm,trivial⟩,by omega⟩
 ·have e:p.edges.take i=p.edges:=Ao (by omega)
  rw[e]
  (conv=>whnf)
  ((conv=>whnf);repeat' ((first|refine odw ?_|refine nx ?_|refine A5 (λ_=>?_) (λ_=>?_))<;>conv=>whnf))
  refine CW [(8,900)] [8] hl1 rfl rfl rfl rfl rfl rfl rfl ?_
  (conv=>whnf)
  (repeat' ((first|refine Ai ?_ ?_|refine Du 300 rfl ?_|refine nx ?_|refine A5 (λ_=>?_) (λ_=>?_)|exact AA)<;>conv=>whnf))
  refine CW [(8,900)] [8,901] hl2 rfl rfl rfl rfl rfl rfl rfl ?_
  ((conv=>whnf);repeat' ((first|refine odw ?_|refine nx ?_|refine A5 (λ_=>?_) (λ_=>?_))<;>conv=>whnf))
  refine CW [(8,900)] [8,901] hby rfl rfl rfl rfl rfl rfl rfl ?_
  ((conv=>whnf);repeat' ((first|refine odw ?_|refine nx ?_|refine A5 (λ_=>?_) (λ_=>?_))<;>conv=>whnf))
  exact rfl
def rB(x:Pt×Int):List Int:=(w4 (bS (pB x.1)).size++sB (bS (pB x.1)))++w8 x.2
def tB(l:List (Pt×Int)):List Int:=w4 (l.map FJ).length++l.flatMap rB
theorem fR(p:Pt):(pB p).length=8+4*p.labels.length+8*p.edges.length:=by unfold pB;simp only[Ae,OW,F9,N4];omega
theorem pN(x:Pt×Int):(rB x).length=20+4*x.1.labels.length+8*x.1.edges.length:=by unfold rB;simp only[Ae,F9,pA,WB,YN,fR];omega
def tO(p:Pt):Prop:=(p.labels.length<=1000/\p.edges.length<=1000)/\(∀x∈p.labels,0<=x/\x<=4294967295)/\∀e∈p.edges,(0<=e.a/\e.a<=4294967295)/\0<=e.b/\e.b<=4294967295
theorem Na {l:List (Pt×Int)}(hp:∀x∈l,tO x.1):(l.flatMap rB).length<=12020*l.length:=by
 induction l with
 |nil=>exact Av _
 |
  cons x l ih=>
  have h:=(hp x (.head _)).1
  have ih:=ih λy hy=>hp y (.tail _ hy)
  rw[AZ,Ae,pN,Ax];omega
def eZ:List (Nat×Plan):=[]
def oN:List FuncId:=[]
theorem mZ:BQ Tryz.prog oN eZ (Tryz.f19.body.getD .skip)=true:=by kernel_rfl
theorem lE(vs:Array Value)(w:World):(callFunc 19 vs).run C3.P w=.ok (.enter 19 vs) w:=by kernel_rfl
theorem Ra(l:List (Pt×Int))(m:List (ByteArray×RowV))(X:List (Value×Da))(ht:MK l m)(hl:l.length<=100000)(hp:∀x∈l,tO x.1):
  CG C3 19 [.own 900] (sT m X) [900] (λd σ=>d=.d (.list 1 (bD (tB l)))/\σ=sT m []):=by
 have hlm:(l.map FJ).length=l.length:=Ac _
 have hrw:=T8 l m X ht (by omega) (λx hx=>(hp x hx).1)
 have hn:=Y3 (l.map FJ).length (by omega) (by omega)
 have hbl:=Na hp
 have hby:=QU (tB l) (λh=>by unfold tB w4 at h;simp at h) (by unfold tB;rw[Ae,F9];omega)
 refine FD E6 (pl:=eZ) (G:=oN) Tryz.func19 rfl Tryz.ntmps19 lE mZ (by simp) 999 rfl ?_
 intro vs
 (conv=>whnf)
 refine CW [] [900,901] hrw rfl rfl rfl rfl rfl rfl rfl ?_
 ((conv=>whnf);repeat' ((first|refine odw ?_|refine nx ?_|refine A5 (λ_=>?_) (λ_=>?_))<;>conv=>whnf))
 refine CW [(8,900),(931,901)] [8] hn rfl rfl rfl rfl rfl rfl rfl ?_
 ((conv=>whnf);repeat' ((first|refine odw ?_|refine nx ?_|refine A5 (λ_=>?_) (λ_=>?_))<;>conv=>whnf))
 refine AN (ι:=Nat) (λi=>i<=l.length) (λi=>[(17,.d (.int .i64 i)),(16,.d (.int .i64 (l.map FJ).length)),(15,.d (.list 3 (l.map FJ))),(3,.own 8)]) (λi=>[(999,.ghost vs [.own 900]),(900,.cells 106 [.own 901]),(901,(Fs Nc m []).own),(8,.cells 129 [.own 931,.d .nili]),(931,.slice 5 1 (bD (w4 (l.map FJ).length++(l.take i).flatMap rB)))]) (λi=>l.length-i) 0 (λ_=>rfl) (As _) (.frz 910 rfl (.refl _ _)) ⟨rfl,rfl,rfl,rfl,trivial⟩ ⟨rfl,rfl,rfl,rfl,by rw[List.take_zero,List.flatMap_nil,C4];rfl,trivial⟩ ?_
 intro i hi
 refine IM [] [] ?_
 by_cases hlt:i<l.length
 ·have hx:l[i]? =some l[i]:=Ab hlt
  have hxm:=hp _ (AD hx)
  have htk:l.take (i+1)=l.take i++[l[i]]:=by rw[A2,hx];rfl
  generalize l[i]=x at hx hxm htk
  have hxd:(l.map FJ)[i]? =some (.agg [.agg [Bx x.1.labels,Er x.1.edges],.int .i64 x.2]):=by rw[Af,hx];rfl
  have hbi:=Na (l:=l.take i) (λy hy=>hp y (Ea hy))
  have hpb:=Uo x.1 (by have:=hxm.1;omega) (by have:=hxm.1;omega) hxm.2.1 hxm.2.2
  have hsz:(bS (pB x.1)).size<=12008:=by rw[YN,fR];have:=hxm.1;omega
  have htl:(l.take i).length<=100000:=by rw[Aw];omega
  have hwl:(w4 (l.map FJ).length++(l.take i).flatMap rB).length<=2000000000:=by rw[Ae,F9];omega
  have htx:=cK (w4 (l.map FJ).length++(l.take i).flatMap rB) (bS (pB x.1)) (by omega) (by omega)
  have hlg:=lZ (w4 (l.map FJ).length++(l.take i).flatMap rB++w4 (bS (pB x.1)).size++sB (bS (pB x.1))) x.2 (by rw[Ae,Ae,F9,WB];omega)
  have hnx:w4 (l.map FJ).length++(l.take i).flatMap rB++w4 (bS (pB x.1)).size++sB (bS (pB x.1))++w8 x.2=w4 (l.map FJ).length++(l.take (i+1)).flatMap rB:=by
   rw[htk,BH,L1]
   unfold rB
   simp only[Bz]
  rw[hnx]at hlg
  (conv=>whnf)
  (repeat' ((first|refine Ai ?_ ?_|refine AM hxd rfl ?_|refine Aj rfl hpb ?_|refine Uy E6 rfl rfl rfl rfl rfl rfl rfl rfl rfl rfl ?_|refine nx ?_|refine A5 (λ_=>?_) (λ_=>?_)|exact AA)<;>conv=>whnf))
  refine CW [(8,900),(931,901)] [8,931] htx rfl rfl rfl rfl rfl rfl rfl ?_
  ((conv=>whnf);repeat' ((first|refine odw ?_|refine nx ?_|refine A5 (λ_=>?_) (λ_=>?_))<;>conv=>whnf))
  refine CW [(8,900),(931,901)] [8,931] hlg rfl rfl rfl rfl rfl rfl rfl ?_
  ((conv=>whnf);repeat' ((first|refine odw ?_|refine nx ?_|refine A5 (λ_=>?_) (λ_=>?_))<;>conv=>whnf))
  exact⟨i+1,_,_,hlt,.refl _ _,⟨rfl,rfl,rfl,rfl,trivial⟩,⟨rfl,rfl,rfl,rfl,rfl,trivial⟩,by omega⟩
 ·have e:l.take i=l:=Ao (by omega)
  rw[e]
  ((conv=>whnf);repeat' ((first|refine odw ?_|refine nx ?_|refine A5 (λ_=>?_) (λ_=>?_))<;>conv=>whnf))
  refine CW [(8,900),(931,901)] [8,931] hby rfl rfl rfl rfl rfl rfl rfl ?_
  ((conv=>whnf);repeat' ((first|refine odw ?_|refine nx ?_|refine A5 (λ_=>?_) (λ_=>?_))<;>conv=>whnf))
  exact⟨_,_,[],sT m [],.lo (.refl _ _),rfl,⟨rfl,rfl,trivial⟩,rfl,rfl,rfl⟩
def fB:List (Nat×Plan):=[(6,.leaf [0,0,0,1,0,0,0,1,0] [0,1,2,4,5,6,3,7,8] [0,0,3,7,0,0,48,112,255])]
theorem TV(bs:List Int)(h:bs.length<=4000000000):Pure C3 18 [.list 1 (bD bs),.list 1 (bD bs)] (λy=>y=.bool true):=by
 have hl:=Q8 bs
 refine Uj Tryz.func18 Tryz.ntmps18 [] fB ?_
 (conv=>whnf)
 ((conv=>whnf);repeat' ((first|refine odw ?_|refine nx ?_|refine A5 (λ_=>?_) (λ_=>?_))<;>conv=>whnf))
 refine AN (ι:=Nat) (λi=>i<=bs.length) (λi=>[(5,.d (.int .i64 i)),(1,.d (.list 1 (bD bs))),(0,.d (.list 1 (bD bs)))]) (λ_=>[]) (λi=>bs.length-i) 0 (λ_=>rfl) (As _) (.refl _ _) ⟨rfl,rfl,rfl,trivial⟩ trivial ?_
 intro i hi
 refine IM [] fB ?_
 by_cases hlt:i<bs.length
 ·have hx:bs[i]? =some bs[i]:=Ab hlt
  generalize bs[i]=x at hx
  have hxd:(bs.map λb=>Da.int .u8 b)[i]? =some (.int .u8 x):=by rw[Af,hx];rfl
  (conv=>whnf)
  (repeat' ((first|refine Ai ?_ ?_|refine AM hxd rfl ?_|refine nx ?_|refine A5 (λ_=>?_) (λ_=>?_)|exact AA)<;>conv=>whnf))
  exact⟨i+1,_,_,hlt,.refl _ _,⟨rfl,rfl,rfl,trivial⟩,trivial,by omega⟩
 ·((conv=>whnf);repeat' ((first|refine odw ?_|refine nx ?_|refine A5 (λ_=>?_) (λ_=>?_))<;>conv=>whnf))
  exact rfl
theorem rO {p:Pt}(h:Hj p=none):tO p:=by
 obtain⟨h1,h2,h3⟩:=H5 h
 obtain⟨g1,g2⟩:=Nx h1
 obtain⟨s1,s2⟩:=LW h
 exact⟨⟨by omega,by omega⟩,λx hx=>by have:=g2 x hx;omega,λe he=>by have:=h2 e he;omega⟩
end Go.Proofs.YtjejpdfldmempaaGreatDoor
end
section
namespace Go.Gr
section
variable {α:Type} {f:α->α->Int}
theorem DC {y:α×Int} {l:List (α×Int)} {p:α} {n:Int}(h:f y.1 p<0):D1 f (y::l) p n=y::D1 f l p n:=by
 obtain⟨q,m⟩:=y
 simp only[D1];rw[if_pos h]
theorem EI {y:α×Int} {l:List (α×Int)} {p:α} {n:Int}(h:f y.1 p=0):D1 f (y::l) p n=(p,y.2+n)::l:=by
 obtain⟨q,m⟩:=y
 simp only[D1];rw[if_neg (by simp only at h;omega),if_pos h]
theorem EW {y:α×Int} {l:List (α×Int)} {p:α} {n:Int}(h:0<f y.1 p):D1 f (y::l) p n=(p,n)::y::l:=by
 obtain⟨q,m⟩:=y
 simp only[D1];rw[if_neg (by simp only at h;omega),if_neg (by simp only at h;omega)]
theorem bQ(h:TOrd f)(p q:α)(m n:Int):∀l:List (α×Int),D1 f (D1 f l p m) q n=D1 f (D1 f l q n) p m:=by
 have two:∀l:List (α×Int),(∀y l',l=y::l'->0<f y.1 p/\0<f y.1 q)->D1 f (D1 f l p m) q n=D1 f (D1 f l q n) p m:=by
  intro l hl
  have hp:D1 f l p m=(p,m)::l:=by
   cases l with
   |nil=>rfl
   |cons y l=>exact EW (hl y l rfl).1
  have hq:D1 f l q n=(q,n)::l:=by
   cases l with
   |nil=>rfl
   |cons y l=>exact EW (hl y l rfl).2
  rw[hp,hq]
  rcases Wb (f p q) 0 with h1|h1|h1
  ·rw[DC (y:=(p,m)) h1,EW (y:=(q,n)) ((h.anti q p).1 h1),hq]
  ·have e:=(h.eq0 p q).1 h1
   subst e
   rw[EI (y:=(p,m)) h1,EI (y:=(p,n)) h1,Int.add_comm]
  ·rw[EW (y:=(p,m)) h1,DC (y:=(q,n)) ((h.anti p q).2 h1),hp]
 intro l
 induction l with
 |nil=>exact two [] (λy l e=>by cases e)
 |
  cons y l ih=>
  rcases Wb (f y.1 p) 0 with h1|h1|h1
  ·rcases Wb (f y.1 q) 0 with h2|h2|h2
   ·rw[DC h1,DC h2,DC h2,DC h1,ih]
   ·have e:=(h.eq0 _ _).1 h2
    rw[DC h1,EI h2,EI h2,DC (y:=(q,y.2+n)) (by rw[<-e];exact h1)]
   ·rw[DC h1,EW h2,EW h2,DC (y:=(q,n)) (h.trans _ _ _ ((h.anti _ _).2 h2) h1),DC h1]
  ·have e:=(h.eq0 _ _).1 h1
   rcases Wb (f y.1 q) 0 with h2|h2|h2
   ·rw[EI h1,DC (y:=(p,y.2+m)) (by rw[<-e];exact h2),DC h2,EI h1]
   ·have e2:=(h.eq0 _ _).1 h2
    rw[EI h1,EI h2,EI (y:=(p,y.2+m)) (by rw[<-e];exact h2),EI (y:=(q,y.2+n)) (by rw[<-e2];exact h1),<-e,<-e2,Int.add_right_comm]
   ·rw[EI h1,EW (y:=(p,y.2+m)) (by rw[<-e];exact h2),EW h2,DC (y:=(q,n)) (by rw[<-e];exact(h.anti _ _).2 h2),EI h1]
  ·rcases Wb (f y.1 q) 0 with h2|h2|h2
   ·rw[EW h1,DC (y:=(p,m)) (h.trans _ _ _ ((h.anti _ _).2 h1) h2),DC h2,EW h1]
   ·have e2:=(h.eq0 _ _).1 h2
    rw[EW h1,DC (y:=(p,m)) (by rw[<-e2];exact(h.anti _ _).2 h1),EI h2,EW (y:=(q,y.2+n)) (by rw[<-e2];exact h1)]
   ·exact two _ (λz l' e=>by cases e;exact⟨h1,h2⟩)
end
end Go.Gr
namespace Go.Proofs.YtjejpdfldmempaaGreatDoor
open Go.Sx Go.RowKit Go.Reg Go.Gr
theorem Zn {a b:List Pt}(h:a.Perm b):He a=He b:=by
 unfold He
 suffices H:∀s,a.foldl (λl p=>D1 Ia l p 1) s=b.foldl (λl p=>D1 Ia l p 1) s from H []
 induction h with
 |nil=>intro s;rfl
 |cons x _ ih=>intro s;exact ih _
 |swap x y l=>intro s;simp only[List.foldl_cons];rw[bQ OY]
 |trans _ _ i1 i2=>intro s;rw[i1,i2]
def Hp {β:Type}(R:List β)(c i:Nat):List β:=(List.range i).flatMap λk=>(R[(k+c) % R.length]?).toList
theorem Wk {β:Type}(R:List β)(c i:Nat) {x:β}(h:R[(i+c) % R.length]? =some x):Hp R c (i+1)=Hp R c i++[x]:=by
 unfold Hp
 rw[Cn,BH,L1,h];rfl
theorem Zc {β:Type}(R:List β)(c i:Nat):(Hp R c i).length<=i:=by
 induction i with
 |zero=>exact Av _
 |
  succ i ih=>
  unfold Hp at ih⊢
  rw[Cn,BH,L1,Ae]
  have:((R[(i+c) % R.length]?).toList).length<=1:=by cases R[(i+c) % R.length]? <;>simp
  omega
theorem Wl {β:Type}(R:List β)(c:Nat):(Hp R c R.length).Perm R:=by
 have hd:Hp R c R.length=R.drop (c % R.length)++R.take (c % R.length):=by
  rcases Nat.eq_zero_or_pos R.length with h0|h0
  ·have:R=[]:=AE h0
   subst this;simp[Hp]
  have hc:c % R.length<R.length:=jF _ h0
  have hmap:Hp R c R.length=(List.range R.length).map λk=>R[(k+c) % R.length]'(jF _ h0):=by
   unfold Hp
   rw[List.map_eq_flatMap]
   congr 1
   funext k
   rw[Ab (jF _ h0)];rfl
  rw[hmap]
  refine List.ext_getElem (by simp only[Ac,CX,Ae,FN,Aw];omega) λi h1 h2=>?_
  simp only[Ac,CX]at h1
  rw[List.getElem_map,List.getElem_range]
  have hm:(i+c) % R.length=(i+c % R.length) % R.length:=by rw[Nat.add_mod,Nat.add_mod i (c % R.length),Nat.mod_mod]
  by_cases hi:i<R.length-c % R.length
  ·rw[List.getElem_append_left (by rw[FN];exact hi),List.getElem_drop]
   congr 1
   rw[hm,Nat.mod_eq_of_lt (by omega)];omega
  ·rw[List.getElem_append_right (by rw[FN];omega),List.getElem_take]
   congr 1
   rw[hm,FN,Nat.mod_eq_sub_mod (by omega),Nat.mod_eq_of_lt (by omega)];omega
 rw[hd]
 exact List.perm_append_comm.trans (by rw[CA])
theorem TE(a b:List (Pt×Int)):Gm (a++b)=Gm a+Gm b:=by
 unfold Gm
 induction a with
 |nil=>simp
 |cons x a ih=>simp only[Bo,Ap,List.foldr_cons,ih];omega
theorem Zp {l:List (Pt×Int)}(hl:∀x∈l,0<=x.2) {i:Nat} {x:Pt×Int}(hx:l[i]? =some x):Gm (l.take (i+1))=Gm (l.take i)+x.2/\0<=Gm (l.take i)/\Gm (l.take (i+1))<=Gm l:=by
 have h1:Gm (l.take (i+1))=Gm (l.take i)+x.2:=by
  rw[A2,hx,BY,TE];simp[Gm]
 have h2:=TE (l.take (i+1)) (l.drop (i+1))
 rw[CA]at h2
 exact⟨h1,(Pj λy hy=>hl y (Ea hy)).1,by have:=(Pj (l:=l.drop (i+1)) λy hy=>hl y (List.mem_of_mem_drop hy)).1;omega⟩
end Go.Proofs.YtjejpdfldmempaaGreatDoor
end
section
namespace Go.Proofs.YtjejpdfldmempaaGreatDoor
open Go.Sx Go.RowKit Go.Reg Go.Gr
set_option maxRecDepth 100000
section
variable {G:Gr} {e:Bool} {d:Int} {l:List Opp}
theorem lK(h:JobOk G e d l) {k:Nat} {X:List Int}(hX:X∈Bv (Ck G e) (KS G e l) k):X≠[]/\X.length=k+1/\BK (Ck G e) X=true/\(kM G e X).length<=8:=by
 have hok:=IS h.ok (by have:=h.n;omega) h.m e
 obtain⟨h1,h2,h3⟩:=(Fv hok k).1 hX
 have hl:=Gu hok h1
 unfold XT at h3
 have hp:=Cr.1 h3 (X.length-1) (AO.2 (by omega))
 rw[show X.length-1+1=X.length by omega,Dr]at hp
 rw[pO h hl,Ah,decide_eq_true_eq]at hp
 exact⟨λe=>by rw[e]at h2;simp at h2,h2,hl,hp.1⟩
end
end Go.Proofs.YtjejpdfldmempaaGreatDoor
end
