/- Merged: Lvk Lvq Pgo Pgq Lve Lmd Rft Rfu Rfl Lgg Tbl Ltb Afa Imc Ime Mna Imd Mra Nst Bag Spd. -/
import Derived.Test.YtjpmmkodoeipmaaGreatDoorrtaw
import Derived.Test.YtjpmmkodoeipmaaGreatDoorrtas
import Derived.Test.YtjpmmkodoeipmaaGreatDoorrtar
import Derived.Test.YtjpmmkodoeipmaaGreatDoorrtav
import Derived.Test.YtjpmmkodoeipmaaGreatDoorrtat
import Derived.Test.YtjpmmkodoeipmaaGreatDoorrtau
section
namespace Go.Proofs.YtjpmmkodoeipmaaGreatDoor
open Go.Sx Go.RowKit Go.Reg Go.Gr
set_option maxRecDepth 100000
theorem vU {α:Type} {l:List α} {i:Nat}(h:i<l.length)(y:α):(l.set i y).take (i+1)=l.take i++[y]:=by
 rw[Au,List.take_set_of_le (Ay i),I4 h];rfl
def xP:List (Nat×Plan):=[]
def AAW:List FuncId:=[140]
theorem ACw:CI Tryz.prog AAW xP (Tryz.f95.body.getD .skip)=true:=by kernel_rfl
theorem ABx(vs:Array Value)(w:World):(callFunc 95 vs).run C1.P w=.ok (.enter 95 vs) w:=by kernel_rfl
theorem aY(l:List (List Int))(g:FuncId)(cs:List Da)(p:List Int->Bool)(hl:l.length<=4294967296)(hp:∀x∈l,Pure C1 g (Bh x::cs) (λy=>y=.bool (p x))):
  AAY C1 95 22 1 (l.map Bh) [] [.func (.func g) [] cs] (λds=>ds=(l.filter λx=>!p x).map Bh):=by
 have hll:(l.map Bh).length=l.length:=Ac _
 have hif:=Ym l g cs p (by omega) hp
 refine nW EM (pl:=xP) (G:=AAW) Tryz.func95 rfl Tryz.ntmps95 ABx ACw (by simp) ?_
 cases hf:l.findIdx? p with
 |
  none=>
  rw[hf]at hif
  simp only[NQ]at hif
  have hfl:(l.filter λx=>!p x)=l:=by
   rw[H9]
   intro a ha
   rw[Bd]at hf
   simp[hf a ha]
  rw[hfl]
  (conv=>whnf)
  (repeat' ((first|refine Aj ?_ ?_|refine Bq tab rfl hif rfl ?_|refine nx ?_|refine AB (λ_=>?_) (λ_=>?_)|exact AE)<;>conv=>whnf))
  exact⟨rfl,rfl,rfl⟩
 |
  some i=>
  rw[hf]at hif
  simp only[NQ]at hif
  have hf2:=hf
  rw[Ba]at hf2
  obtain⟨hil,hpi,hfirst⟩:=hf2
  have hti:l.take i=(l.take (i+1)).filter λx=>!p x:=by
   rw[Au,Ab hil,AS,Cd]
   have h2:[l[i]].filter (λx=>!p x)=[]:=by simp[hpi]
   rw[h2,Cq]
   refine(H9.2 λa ha=>?_).symm
   obtain⟨j,hj,rfl⟩:=Bc.1 ha
   have:=hfirst j (by omega)
   simpa using this
  (conv=>whnf)
  (repeat' ((first|refine Aj ?_ ?_|refine Bq tab rfl hif rfl ?_|refine nx ?_|refine AB (λ_=>?_) (λ_=>?_)|exact AE)<;>conv=>whnf))
  refine AQ (ι:=Nat×Nat×List (List Int)) (λx=>(x.2.2.length=l.length/\x.1<x.2.1/\x.2.1<=l.length)/\x.2.2.take x.1=((l.take x.2.1).filter λx=>!p x)/\x.2.2.drop x.2.1=l.drop x.2.1)
   (λx=>[(6,.d (.int .i64 (x.2.1:Nat))),(5,.d (.int .i64 (x.1:Nat))),(1,.d (.func (.func g) [] cs)),(0,.own 900)]) (λx=>[(900,.slice 22 1 (x.2.2.map Bh))]) (λx=>l.length-x.2.1) (i,i+1,l) (λ_=>rfl)
   ⟨⟨rfl,by simp,by simp only;omega⟩,hti,rfl⟩ (.refl _ _) ⟨rfl,rfl,rfl,rfl,trivial⟩ ⟨rfl,trivial⟩ ?_
  rintro⟨i,j,L⟩ ⟨⟨hLl,hij,hjl⟩,hT,hD⟩
  dsimp only at hLl hij hjl hT hD
  have hLm:(L.map Bh).length=L.length:=Ac _
  dsimp only
  refine Ca AAW [] ?_
  by_cases hj:j<l.length
  ·have hx:=Ab hj
   have hpy:=hp _ (AZ hj)
   generalize l[j]=y at hx hpy
   have hLj:L[j]? =some y:=by
    have:=congrArg (λz=>z[0]?) hD
    simp only[Nr,Eu]at this
    rw[this];exact hx
   have hxd:(L.map Bh)[j]? =some (.list 1 (y.map dI)):=by rw[Ad,hLj];rfl
   have hD2:L.drop (j+1)=l.drop (j+1):=by
    have:=congrArg (List.drop 1) hD
    rwa [List.drop_drop,List.drop_drop]at this
   cases hpv:p y with
   |
    true=>
    rw[hpv]at hpy
    (conv=>whnf)
    (repeat' ((first|refine Aj ?_ ?_|refine GY (i:=j) rfl (by omega) ?_|refine GX hxd ?_|refine Af (FR _ _) hpy ?_|refine nx ?_|refine AB (λ_=>?_) (λ_=>?_)|exact AE)<;>conv=>whnf))
    refine⟨(i,j+1,L),_,_,⟨⟨hLl,by dsimp only;omega,hj⟩,?_,hD2⟩,.refl _ _,⟨rfl,rfl,rfl,rfl,trivial⟩,⟨rfl,trivial⟩,by dsimp only;omega⟩
    dsimp only
    rw[hT,Au,hx,AS,Cd]
    simp[hpv]
   |
    false=>
    rw[hpv]at hpy
    have hLi:=Ab (l:=L) (i:=i) (by omega)
    generalize L[i]'(by omega)=z at hLi
    have hzd:(L.map Bh)[i]? =some (.list 1 (z.map dI)):=by rw[Ad,hLi];rfl
    have hset:(L.map Bh).set i (.list 1 (y.map dI))=(L.set i y).map Bh:=by rw[Dz];rfl
    (conv=>whnf)
    (repeat' ((first|refine Aj ?_ ?_|refine GY (i:=j) rfl (by omega) ?_|refine GX hxd ?_|refine Af (FR _ _) hpy ?_|refine GY (i:=i) rfl (by omega) ?_|refine GX hzd ?_|refine nx ?_|refine AB (λ_=>?_) (λ_=>?_)|exact AE)<;>conv=>whnf))
    refine⟨(i+1,j+1,L.set i y),_,_,⟨⟨by rw[Di];exact hLl,by dsimp only;omega,hj⟩,?_,?_⟩,.refl _ _,⟨rfl,rfl,rfl,rfl,trivial⟩,⟨Bj hset,trivial⟩,by dsimp only;omega⟩
    ·dsimp only
     rw[vU (by omega),hT,Au,hx,AS,Cd]
     simp[hpv]
    ·dsimp only
     rw[List.drop_set_of_lt (by omega)];exact hD2
  ·have hje:j=l.length:=by omega
   subst hje
   rw[E0]at hT
   have hL0:L.map Bh≠[]:=λe=>by have hc:=congrArg List.length e;rw[hLm,Br]at hc;omega
   have hone:∀d∈L.map Bh,d.one=true:=λd hd=>by obtain⟨x,_,rfl⟩:=An.1 hd;rfl
   have hone2:∀d∈(L.map Bh).take i,d.one=true/\d.stor=true:=λd hd=>by obtain⟨x,_,rfl⟩:=An.1 (DO hd);exact⟨rfl,rfl⟩
   have hhead:(L.map Bh).take i=(l.filter λx=>!p x).map Bh:=by rw[<-Fj,hT]
   ((conv=>whnf);repeat' ((first|refine odw ?_|refine nx ?_|refine AB (λ_=>?_) (λ_=>?_))<;>conv=>whnf))
   refine yC i 800 EM 900 rfl rfl rfl rfl rfl rfl rfl rfl hone rfl rfl (by omega) hL0 ⟨by decide,by decide⟩ rfl λg c vs hvs=>?_
   ((conv=>whnf);repeat' ((first|refine odw ?_|refine nx ?_|refine AB (λ_=>?_) (λ_=>?_))<;>conv=>whnf))
   refine qZ EM 900 rfl rfl rfl rfl rfl rfl (λw=>by kernel_rfl) rfl rfl ⟨by decide,by decide⟩ rfl ?_
   ((conv=>whnf);repeat' ((first|refine odw ?_|refine nx ?_|refine AB (λ_=>?_) (λ_=>?_))<;>conv=>whnf))
   refine yD (gh:=800) (ds:=(L.map Bh).take i) EM 900 rfl rfl rfl rfl rfl (by rw[Ah,A8,B9];omega) rfl rfl (by rw[BX (by rw[A8];omega),HV,Nat.min_self]) (by rw[A8];omega) hone2 rfl rfl ⟨by decide,by decide⟩ rfl ?_
   rw[hhead]
   ((conv=>whnf);repeat' ((first|refine odw ?_|refine nx ?_|refine AB (λ_=>?_) (λ_=>?_))<;>conv=>whnf))
   exact⟨rfl,rfl,rfl⟩
section
variable {G:Gr} {e:Bool} {d:Int} {l:List Opp}
def xL:List (Nat×Plan):=[]
def ADt:List FuncId:=[95]
theorem ACu:CI Tryz.prog ADt xL (Tryz.f52.body.getD .skip)=true:=by kernel_rfl
theorem ABv(vs:Array Value)(w:World):(callFunc 52 vs).run C1.P w=.ok (.enter 52 vs) w:=by kernel_rfl
theorem bB(h:JobOk G e d l)(P:List (List Int))(hP:P.length<=4294967296)(hx:∀x∈P,x≠[]/\x.length<=1000):
  AAY C1 52 22 1 (P.map Bh) [dJ G e d l] [] (λds=>ds=(P.filter (Ld G e l)).map Bh):=by
 have hdl:=aY P 96 [.ref (dJ G e d l)] (λx=>!Ld G e l x) hP (λx hm=>jL h x (hx x hm).1 (hx x hm).2)
 simp only[Bool.not_not]at hdl
 refine nW EM (pl:=xL) (G:=ADt) Tryz.func52 rfl Tryz.ntmps52 ABv ACu (by simp) ?_
 (conv=>whnf)
 refine RJ 2 rfl rfl ?_
 refine Xt [] rfl rfl rfl hdl ?_;rintro ds rfl
 ((conv=>whnf);repeat' ((first|refine odw ?_|refine nx ?_|refine AB (λ_=>?_) (λ_=>?_))<;>conv=>whnf))
 exact⟨rfl,rfl,rfl⟩
def ADu:List FuncId:=[98]
theorem jG(G:Gr)(hG:G.Ok):E5 C1 53 [dG G] 22 1 (λds=>ds=((I9 G.labels.length).map λv=>[v]).map Bh):=by
 have hsz:=hG.size
 have hnx:Pure C1 98 [dG G,.nils] (λy=>y=Bh (I9 G.labels.length)):=Sx.Pure.lax (.cons (.refl _) (.cons (.nils 1) .nil)) (by
  have:=rH G hG [] (by simp)
  rwa [show Hv G []=I9 G.labels.length from if_pos rfl]at this)
 have hul:=JX G.labels.length
 generalize hL:I9 G.labels.length=L at hnx hul
 have hLl:(L.map dI).length=L.length:=Ac _
 rw[show(L.map λv=>[v]).map Bh=L.map ACp from ED]
 refine WN Tryz.func53 Tryz.ntmps53 ADu [] ?_
 (conv=>whnf)
 (repeat' ((first|refine Aj ?_ ?_|refine Af rfl hnx ?_|refine nx ?_|refine AB (λ_=>?_) (λ_=>?_)|exact AE)<;>conv=>whnf))
 refine AQ (ι:=Nat) (λi=>i<=L.length) (λi=>[(9,.d (.int .i64 i)),(8,.d (.int .i64 (L.map dI).length)),(7,.d (Bh L)),(3,.own 300)]) (λi=>[(300,.slice 22 1 ((L.take i).map ACp))]) (λi=>L.length-i) 0 (λ_=>rfl) (Am _)
  (.own 3 300 22 1 rfl rfl (.refl _ _)) ⟨rfl,rfl,rfl,rfl,trivial⟩ ⟨rfl,trivial⟩ ?_
 intro i hi
 refine Ca ADu [] ?_
 by_cases hlt:i<L.length
 ·have hx:=Ab hlt
  generalize L[i]=x at hx
  have hxd:(L.map dI)[i]? =some (.int .i64 x):=by rw[Ad,hx];rfl
  (conv=>whnf)
  (repeat' ((first|refine Aj ?_ ?_|refine AO hxd rfl ?_|refine nx ?_|refine AB (λ_=>?_) (λ_=>?_)|exact AE)<;>conv=>whnf))
  refine Mp EM (G:=[]) (.frz 15 rfl (.refl _ _)) (.inr rfl) ?_
  have hfin:(L.take i).map ACp++[.list 1 [.int .i64 x]]=(L.take (i+1)).map ACp:=by rw[tk1 hx,A7];rfl
  ((conv=>whnf);repeat' ((first|refine odw ?_|refine nx ?_|refine AB (λ_=>?_) (λ_=>?_))<;>conv=>whnf))
  exact⟨i+1,_,_,hlt,.refl _ _,⟨rfl,rfl,rfl,rfl,trivial⟩,⟨Bj hfin,trivial⟩,by omega⟩
 ·have hii:L.take i=L:=Ak (by omega)
  rw[hii]
  ((conv=>whnf);repeat' ((first|refine odw ?_|refine nx ?_|refine AB (λ_=>?_) (λ_=>?_))<;>conv=>whnf))
  exact⟨rfl,rfl,rfl⟩
def ADI:List (Nat×Plan):=[(4,.leaf [1,0,2,3,0,0] [1,0,2,3,4,5] [0,0,2,7,15,31])]
def AF0:List FuncId:=[53,19]
theorem fZ(h:JobOk G e d l):Pure C1 18 [dJ G e d l] (λz=>z=.tuple [NT (CF (CL G e) (Ld G e l) 0),.nili]):=by
 have hw:=Oy h
 have hok:=JV h.ok (by have:=h.n;omega) h.m e
 have hsm:=Nz h
 have hbr:=jG (CL G e) hok
 have hkp:=bB h ((I9 (CL G e).labels.length).map λv=>[v]) (by rw[Ac,JX];omega) (λx hx=>by obtain⟨v,_,rfl⟩:=An.1 hx;exact⟨by simp,by simp⟩)
 refine AU Tryz.func18 Tryz.ntmps18 AF0 ADI ?_
 (conv=>whnf)
 (repeat' ((first|refine Aj ?_ ?_|refine Af rfl hw ?_|refine Jr 300 rfl rfl hbr ?_|refine RK [_] rfl rfl rfl hkp ?_|refine nx ?_|refine AB (λ_=>?_) (λ_=>?_)|exact AE)<;>conv=>whnf))
 exact rfl
def AAV:List FuncId:=[57,58]
theorem jE(h:JobOk G e d l)(X:List Int)(hx:X.length<=900):Pure C1 21 [dJ G e d l,dG (CL G e),Bh X] (λz=>z=NT (GV (CL G e) (Ld G e l) X)):=by
 have hok:=JV h.ok (by have:=h.n;omega) h.m e
 have hg:=sK (CL G e) hok X (by omega)
 have hXl:(X.map dI).length=X.length:=Ac _
 have hgl:(Ky (CL G e) X).length<=4294967296:=by
  unfold Ky
  split
  ·exact BI (CM _ _) (WH hok (by omega))
  ·simp
 have hkp:=bB h (LB (CL G e) X) (by unfold LB;rw[Ac];exact hgl) (λx hm=>by
  unfold LB at hm
  obtain⟨v,_,rfl⟩:=An.1 hm
  exact⟨by simp,by rw[Ah,B8];omega⟩)
 refine AU Tryz.func21 Tryz.ntmps21 AAV [] ?_
 (conv=>whnf)
 refine AR rfl hg ?_
 unfold GV
 unfold LB at hkp⊢
 generalize Ky (CL G e) X=L at hgl hkp⊢
 have hLl:(L.map dI).length=L.length:=Ac _
 rintro y (rfl|⟨rfl,rfl⟩)
 ·((conv=>whnf);repeat' ((first|refine odw ?_|refine nx ?_|refine AB (λ_=>?_) (λ_=>?_))<;>conv=>whnf))
  refine AQ (ι:=Nat) (λi=>i<=L.length) (λi=>[(14,.d (.int .i64 i)),(13,.d (.int .i64 (L.map dI).length)),(12,.d (Bh L)),(7,.own 300),(3,.own 3),(2,.d (Bh X))]) (λi=>[(3,.cells 43 [.d (dG G),.d (.bool e),.d (.int .i64 d),.d (JS l)]),(300,.slice 22 1 (((L.take i).map λv=>X++[v]).map Bh))]) (λi=>L.length-i) 0 (λ_=>rfl) (Am _)
   (.own 7 300 22 1 rfl rfl (.refl _ _)) ⟨rfl,rfl,rfl,rfl,rfl,rfl,trivial⟩ ⟨rfl,rfl,trivial⟩ ?_
  intro i hi
  refine Ca AAV [] ?_
  by_cases hlt:i<L.length
  ·have hx:=Ab hlt
   generalize L[i]=v at hx
   have hxd:(L.map dI)[i]? =some (.int .i64 v):=by rw[Ad,hx];rfl
   have hnl:(((L.take i).map λv=>X++[v]).map Bh).length=i:=by rw[Ac,Ac,A8];omega
   have hfin:((L.take i).map λv=>X++[v]).map Bh++[.list 1 (X.map dI++[.int .i64 v])]=((L.take (i+1)).map λv=>X++[v]).map Bh:=by rw[tk1 hx,A7,A7];simp[Bh,dI]
   (conv=>whnf)
   (repeat' ((first|refine Aj ?_ ?_|refine AO hxd rfl ?_|refine tZ 400 rfl rfl AC0 λa=>?_|refine iO 400 23 20 EM rfl rfl rfl rfl (by decide) (by decide) rfl rfl rfl rfl (by simp) rfl rfl rfl (WK (by simp only[Ac,Ax,Br];omega) rfl rfl) rfl ⟨rfl,rfl,rfl,rfl,trivial⟩ ?_|refine nx ?_|refine AB (λ_=>?_) (λ_=>?_)|exact AE)<;>conv=>whnf))
   refine Mp EM (G:=[]) (.frz 23 rfl (.refl _ _)) (.inr rfl) ?_
   ((conv=>whnf);repeat' ((first|refine odw ?_|refine nx ?_|refine AB (λ_=>?_) (λ_=>?_))<;>conv=>whnf))
   exact⟨i+1,_,_,hlt,.refl _ _,⟨rfl,rfl,rfl,rfl,rfl,rfl,trivial⟩,⟨rfl,Bj hfin,trivial⟩,by omega⟩
  ·have hii:L.take i=L:=Ak (by omega)
   rw[hii]
   (conv=>whnf)
   (repeat' ((first|refine Aj ?_ ?_|refine RK [_] rfl rfl rfl hkp ?_|refine nx ?_|refine AB (λ_=>?_) (λ_=>?_)|exact AE)<;>conv=>whnf))
   exact rfl
 ·((conv=>whnf);repeat' ((first|refine odw ?_|refine nx ?_|refine AB (λ_=>?_) (λ_=>?_))<;>conv=>whnf))
  refine AQ (ι:=Nat) (λi=>i=0) (λ_=>[(14,.d (.int .i64 0)),(13,.d (.int .i64 0)),(7,.own 300),(3,.own 3),(2,.d (Bh X))]) (λ_=>[(3,.cells 43 [.d (dG G),.d (.bool e),.d (.int .i64 d),.d (JS l)]),(300,.slice 22 1 [])]) (λ_=>0) 0 (λ_=>rfl) rfl
   (.own 7 300 22 1 rfl rfl (.refl _ _)) ⟨rfl,rfl,rfl,rfl,rfl,trivial⟩ ⟨rfl,rfl,trivial⟩ ?_
  rintro i rfl
  refine Ca AAV [] ?_
  (conv=>whnf)
  (repeat' ((first|refine Aj ?_ ?_|refine RK [_] rfl rfl rfl hkp ?_|refine nx ?_|refine AB (λ_=>?_) (λ_=>?_)|exact AE)<;>conv=>whnf))
  exact rfl
end
end Go.Proofs.YtjpmmkodoeipmaaGreatDoor
end
section
namespace Go.Proofs.YtjpmmkodoeipmaaGreatDoor
open Go.Sx Go.RowKit Go.Reg Go.Gr
set_option maxRecDepth 100000
def zF:ByteArray:=⟨#[108,105,115,116,115]⟩
def lG(w:Gr)(ps:List Int->Bool)(D:Nat)(most:Int):Da:=if(JJ w ps D:Int)<=max most 0 then .tuple [.list 1 ((FO w ps D).map NT),.nili]else .tuple [.nils,dF 13 0 zF]
section
variable {G:Gr} {e:Bool} {d:Int} {l:List Opp}
theorem pG {w:Gr} {ps:List Int->Bool} {k:Nat}(h:CF w ps k=[]):∀{D:Nat},k<=D->JJ w ps D=JJ w ps k:=by
 intro D hD
 induction D with
 |zero=>rw[show k=0 by omega]
 |
  succ D ih=>
  rcases BN D k with hk|hk
  ·rw[show D+1=k by omega]
  ·rw[Ka,ih hk,O9 h D hk];rfl
def lR:List FuncId:=[18,19,21]
theorem eP(h:JobOk G e d l)(most:Int):Pure C1 7 [dJ G e d l,.int .i64 most] (λz=>z=lG (CL G e) (Ld G e l) d.toNat most):=by
 have hs:=fZ h
 have hw:=Oy h
 have hgr:∀X:List Int,X.length<=900->Pure C1 21 [dJ G e d l,dG (CL G e),Bh X] (λz=>z=NT (GV (CL G e) (Ld G e l) X)):=λX hX=>jE h X hX
 have hok:=JV h.ok (by have:=h.n;omega) h.m e
 have hsm:=Nz h
 have hd:=h.d
 clear h
 obtain⟨D,rfl⟩:=A9 (show 0<=d by omega)
 rw[Bi]
 generalize CL G e=w at hs hw hgr hok hsm⊢
 generalize Ld G e l=ps at hs hgr⊢
 have hrl:∀k,(CF w ps k).length<=256:=λk=>BI (Ug hok ps k) (BI (JQ (by decide) hsm) (by decide))
 have hfew:∀m,m<=8->JJ w ps m<=2048:=λm hm=>Zc hok ps hsm hm
 refine AU Tryz.func7 Tryz.ntmps7 lR [] ?_
 (conv=>whnf)
 (repeat' ((first|refine Aj ?_ ?_|refine Af rfl hs ?_|refine Af rfl hw ?_|refine nx ?_|refine AB (λ_=>?_) (λ_=>?_)|exact AE)<;>conv=>whnf))
 refine AQ (ι:=Nat) (λk=>k<D/\(∀j,j<k->CF w ps j≠[])/\(JJ w ps k:Int)<=max most 0) (λk=>[(11,.d (.int .i64 (JJ w ps k:Nat))),(10,.own 300),(8,.d (dG w)),(6,.d (NT (CF w ps k))),(2,.own 2),(1,.d (.int .i64 most))]) (λk=>[(2,.cells 43 [.d (dG G),.d (.bool e),.d (.int .i64 (D:Int)),.d (JS l)]),(300,.slice 46 1 (((List.range k).map (CF w ps)).map NT))]) (λk=>D-k) 0 (λ_=>rfl) ⟨by omega,λj hj=>absurd hj (Nat.not_lt_zero _),by rw[show JJ w ps 0=0 from rfl];omega⟩
  (.own 10 300 46 1 rfl rfl (.refl _ _)) ⟨rfl,rfl,rfl,rfl,rfl,rfl,trivial⟩ ⟨rfl,rfl,trivial⟩ ?_
 rintro k ⟨hkD,hne,hsum⟩
 refine Ca lR [] ?_
 have hRl:=hrl k
 have hdl:((CF w ps k).map Bh).length=(CF w ps k).length:=Ac _
 have hk8:=hfew (k+1) (by omega)
 have hst:=Ka w ps k
 have hOl:(((List.range k).map (CF w ps)).map NT).length=k:=by rw[Ac,Ac,Dt]
 have hrg:(List.range k).length=k:=Dt
 have hO1:((List.range (k+1)).map (CF w ps)).map NT=((List.range k).map (CF w ps)).map NT++[NT (CF w ps k)]:=by rw[CR,A7,A7];rfl
 have hO2:(((List.range k).map (CF w ps)).map NT++[NT (CF w ps k)]).length=k+1:=by rw[Ah,hOl];rfl
 by_cases hR:CF w ps k=[]
 ·have eS:=pG hR (Nat.le_of_lt hkD)
  have eR:FO w ps D=(List.range k).map (CF w ps):=by rw[Ud hR (Nat.le_of_lt hkD),HJ hne]
  unfold lG
  rw[eS,if_pos hsum,eR]
  rw[hR]
  have hd0:(List.map Bh ([]:List (List Int))).length=0:=rfl
  ((conv=>whnf);repeat' ((first|refine odw ?_|refine nx ?_|refine AB (λ_=>?_) (λ_=>?_))<;>conv=>whnf))
  exact rfl
 have hR0:(CF w ps k).length≠0:=λe=>hR (AF e)
 by_cases hm:(JJ w ps (k+1):Int)<=max most 0
 ·by_cases hl:k+1=D
  ·have eR:FO w ps D=(List.range (k+1)).map (CF w ps):=by
    rw[<-hl]
    exact HJ λj hj=>by
     rcases BN j k with g|g
     ·exact hne j g
     ·rw[show j=k by omega];exact hR
   unfold lG
   rw[if_pos (by rw[<-hl];exact hm),eR,hO1]
   ((conv=>whnf);repeat' ((first|refine odw ?_|refine nx ?_|refine AB (λ_=>?_) (λ_=>?_))<;>conv=>whnf))
   exact rfl
  ·have hst2:(JJ w ps k:Int)+(((CF w ps k).map Bh).length:Int)=(JJ w ps (k+1):Nat):=by rw[hdl,hst];omega
   have hpre:∀n,(((CF w ps k).take n).flatMap (GV w ps)).length<=256:=λn=>by
    have:=hrl (k+1)
    unfold CF at this
    rw[<-BP n (CF w ps k),Cy,Ah]at this
    omega
   have hxl:∀x∈CF w ps k,x.length<=900:=λx hx=>by
    have:=((Hm hok k).1 hx).2.1
    omega
   ((conv=>whnf);repeat' ((first|refine odw ?_|refine nx ?_|refine AB (λ_=>?_) (λ_=>?_))<;>conv=>whnf))
   refine AQ (ι:=Nat) (λi=>i<=(CF w ps k).length) (λi=>[(51,.d (.int .i64 i)),(50,.d (.int .i64 ((CF w ps k).map Bh).length)),(49,.d (NT (CF w ps k))),(12,.own 301),(11,.d (.int .i64 ((JJ w ps k:Int)+(((CF w ps k).map Bh).length:Int)))),(10,.own 300),(8,.d (dG w)),(2,.own 2),(1,.d (.int .i64 most))]) (λi=>[(2,.cells 43 [.d (dG G),.d (.bool e),.d (.int .i64 (D:Int)),.d (JS l)]),(300,.slice 46 1 (((List.range k).map (CF w ps)).map NT++[NT (CF w ps k)])),(301,.slice 22 1 ((((CF w ps k).take i).flatMap (GV w ps)).map Bh))]) (λi=>(CF w ps k).length-i) 0 (λ_=>rfl) (Am _)
    (.own 12 301 22 1 rfl rfl (.refl _ _)) ⟨rfl,rfl,rfl,rfl,rfl,rfl,rfl,rfl,rfl,trivial⟩ ⟨rfl,rfl,rfl,trivial⟩ ?_
   intro i hi
   refine Ca lR [] ?_
   by_cases hil:i<(CF w ps k).length
   ·have hx:=Ab hil
    have hg:=hgr _ (hxl _ (AZ hil))
    generalize (CF w ps k)[i]=x at hx hg
    have hxd:((CF w ps k).map Bh)[i]? =some (Bh x):=by rw[Ad,hx];rfl
    have hstp:((CF w ps k).take (i+1)).flatMap (GV w ps)=((CF w ps k).take i).flatMap (GV w ps)++GV w ps x:=by rw[Au,hx,AS,Cy];simp
    have h1:=hpre i
    have h2:=hpre (i+1)
    rw[hstp,Ah]at h2
    have hfin:(((CF w ps k).take i).flatMap (GV w ps)).map Bh++(GV w ps x).map Bh=(((CF w ps k).take (i+1)).flatMap (GV w ps)).map Bh:=by rw[hstp,A7]
    have hml:((((CF w ps k).take i).flatMap (GV w ps)).map Bh).length+((GV w ps x).map Bh).length<=4294967296:=by rw[Ac,Ac];omega
    (conv=>whnf)
    (repeat' ((first|refine Aj ?_ ?_|refine AO hxd rfl ?_|refine Af rfl hg ?_|refine J9 hml ?_|refine nx ?_|refine AB (λ_=>?_) (λ_=>?_)|exact AE)<;>conv=>whnf))
    exact⟨i+1,_,_,hil,.refl _ _,⟨rfl,rfl,rfl,rfl,rfl,rfl,rfl,rfl,rfl,trivial⟩,⟨rfl,rfl,Bj hfin,trivial⟩,by omega⟩
   ·have hii:(CF w ps k).take i=CF w ps k:=Ak (by omega)
    rw[hii]
    ((conv=>whnf);repeat' ((first|refine odw ?_|refine nx ?_|refine AB (λ_=>?_) (λ_=>?_))<;>conv=>whnf))
    refine⟨k+1,_,_,⟨by omega,λj hj=>?_,hm⟩,.frz 301 rfl (.refl _ _),⟨congrArg (λz=>Dat.d (.int .i64 z)) hst2,rfl,rfl,rfl,rfl,rfl,trivial⟩,⟨rfl,Bj hO1.symm,trivial⟩,by omega⟩
    rcases BN j k with g|g
    ·exact hne j g
    ·rw[show j=k by omega];exact hR
 ·have hbig:=pH w ps (show k+1<=D from hkD)
  unfold lG
  rw[if_neg (by omega)]
  (conv=>whnf)
  (repeat' ((first|refine Aj ?_ ?_|refine Af rfl (CH 13 0 zF) ?_|refine nx ?_|refine AB (λ_=>?_) (λ_=>?_)|exact AE)<;>conv=>whnf))
  exact rfl
end
end Go.Proofs.YtjpmmkodoeipmaaGreatDoor
end
section
namespace Go.Proofs.YtjpmmkodoeipmaaGreatDoor
open Go.Sx Go.RowKit Go.Reg Go.Gr
set_option maxRecDepth 100000
theorem Zw(k:Int):Pure C1 139 [.int .i64 k] (λy=>y=.bool (HH k)):=by
 refine AU Tryz.func139 Tryz.ntmps139 [] [] ?_
 by_cases h1:k=1
 ·subst h1;((conv=>whnf);repeat' ((first|refine odw ?_|refine nx ?_|refine AB (λ_=>?_) (λ_=>?_))<;>conv=>whnf));exact rfl
 by_cases h6:k=6
 ·subst h6;((conv=>whnf);repeat' ((first|refine odw ?_|refine nx ?_|refine AB (λ_=>?_) (λ_=>?_))<;>conv=>whnf));exact rfl
 by_cases h8:k=8
 ·subst h8;((conv=>whnf);repeat' ((first|refine odw ?_|refine nx ?_|refine AB (λ_=>?_) (λ_=>?_))<;>conv=>whnf));exact rfl
 have e:HH k=true:=by unfold HH;simp[h1,h6,h8]
 rw[e]
 ((conv=>whnf);repeat' ((first|refine odw ?_|refine nx ?_|refine AB (λ_=>?_) (λ_=>?_))<;>conv=>whnf))
 all_goals exact congrArg Da.bool (decide_eq_true h8)
def AFg:List FuncId:=[139]
theorem Z8(o:Opp):Pure C1 94 [dO o] (λy=>y=.int .i64 (Fg o)):=by
 have ht:=Zw o.kind
 refine AU Tryz.func94 Tryz.ntmps94 AFg [] ?_
 by_cases hk:o.kind<1\/8<o.kind
 ·have e:Fg o=1:=by unfold Fg;rw[if_pos hk]
  rw[e]
  (conv=>whnf)
  (repeat' ((first|refine Aj ?_ ?_|refine Af rfl ht ?_|refine nx ?_|refine AB (λ_=>?_) (λ_=>?_)|exact AE)<;>conv=>whnf))
  all_goals first|exact rfl|(exfalso;omega)
 ·by_cases hr:o.n<0\/255<o.n\/0<o.n/\HH o.kind=false
  ·have e:Fg o=3:=by unfold Fg;rw[if_neg hk,if_pos hr]
   rw[e]
   cases htk:HH o.kind<;>rw[htk]at ht hr<;>
   ·(conv=>whnf)
    (repeat' ((first|refine Aj ?_ ?_|refine Af rfl ht ?_|refine nx ?_|refine AB (λ_=>?_) (λ_=>?_)|exact AE)<;>conv=>whnf))
    all_goals first|exact rfl|(exfalso;simp at hr;omega)|(exfalso;omega)
  ·have e:Fg o=0:=by unfold Fg;rw[if_neg hk,if_neg hr]
   rw[e]
   cases htk:HH o.kind<;>rw[htk]at ht hr<;>
   ·(conv=>whnf)
    (repeat' ((first|refine Aj ?_ ?_|refine Af rfl ht ?_|refine nx ?_|refine AB (λ_=>?_) (λ_=>?_)|exact AE)<;>conv=>whnf))
    all_goals first|exact rfl|(exfalso;simp at hr;omega)|(exfalso;omega)
def ADg:List FuncId:=[94]
theorem VK(l:List Opp)(hm:l.length<=9223372036854775807):Pure C1 49 [JS l] (λy=>(y=.tuple [.int .i64 0,.int .i64 0]/\l.length<=16/\∀o∈l,Fg o=0)\/∃c i:Int,c≠0/\y=.tuple [.int .i64 c,.int .i64 i]):=by
 have hl:(l.map dO).length=l.length:=Ac _
 refine AU Tryz.func49 Tryz.ntmps49 ADg [] ?_
 by_cases h16:16<l.length
 ·((conv=>whnf);repeat' ((first|refine odw ?_|refine nx ?_|refine AB (λ_=>?_) (λ_=>?_))<;>conv=>whnf))
  exact .inr ⟨6,0,by decide,rfl⟩
 ((conv=>whnf);repeat' ((first|refine odw ?_|refine nx ?_|refine AB (λ_=>?_) (λ_=>?_))<;>conv=>whnf))
 refine AQ (ι:=Nat) (λi=>i<=l.length/\∀y∈l.take i,Fg y=0) (λi=>[(4,.d (.int .i64 i)),(0,.d (JS l))]) (λ_=>[]) (λi=>l.length-i) 0 (λ_=>rfl) ⟨Am _,by simp⟩ (.refl _ _) ⟨rfl,rfl,trivial⟩ trivial ?_
 rintro i ⟨hi,hne⟩
 refine Ca ADg [] ?_
 by_cases hlt:i<l.length
 ·have hx:=Ab hlt
  generalize l[i]=y at hx
  have hxd:(l.map dO)[i]? =some (.agg [.int .i64 y.kind,.int .i64 y.n]):=by rw[Ad,hx];rfl
  have hf:=Z8 y
  by_cases hy:Fg y=0
  ·rw[hy]at hf
   (conv=>whnf)
   (repeat' ((first|refine Aj ?_ ?_|refine AO hxd rfl ?_|refine Af rfl hf ?_|refine nx ?_|refine AB (λ_=>?_) (λ_=>?_)|exact AE)<;>conv=>whnf))
   refine⟨i+1,_,_,⟨hlt,?_⟩,.refl _ _,⟨rfl,rfl,trivial⟩,trivial,by omega⟩
   intro z hz
   rw[Au,hx]at hz
   rcases Ag.1 hz with hz|hz
   ·exact hne z hz
   ·simp at hz;subst hz;exact hy
  ·(conv=>whnf)
   (repeat' ((first|refine Aj ?_ ?_|refine AO hxd rfl ?_|refine Af rfl hf ?_|refine nx ?_|refine AB (λ_=>?_) (λ_=>?_)|exact AE)<;>conv=>whnf))
   exact .inr ⟨_,_,hy,rfl⟩
 ·have hii:l.take i=l:=Ak (by omega)
  rw[hii]at hne
  ((conv=>whnf);repeat' ((first|refine odw ?_|refine nx ?_|refine AB (λ_=>?_) (λ_=>?_))<;>conv=>whnf))
  exact .inl ⟨rfl,by omega,hne⟩
end Go.Proofs.YtjpmmkodoeipmaaGreatDoor
end
section
namespace Go.Proofs.YtjpmmkodoeipmaaGreatDoor
open Go.Sx Go.RowKit Go.Reg Go.Gr
set_option maxRecDepth 100000
theorem Yn(l:List Opp)(hm:l.length<=8796093022207):Pure C1 51 [JS l] (λy=>y=JS l):=by
 have hel:(l.map dO).length=l.length:=Ac _
 refine AU Tryz.func51 Tryz.ntmps51 [] [] ?_
 ((conv=>whnf);repeat' ((first|refine odw ?_|refine nx ?_|refine AB (λ_=>?_) (λ_=>?_))<;>conv=>whnf))
 refine AQ (ι:=Nat) (λi=>i<=l.length) (λi=>[(4,.d (.int .i64 i)),(3,.own 300),(0,.d (JS l))]) (λi=>[(300,.slice 126 2 ((l.take i).map dO))]) (λi=>l.length-i) 0 (λ_=>rfl) (Am _)
  (.own 3 300 126 2 rfl rfl (.refl _ _)) ⟨rfl,rfl,rfl,trivial⟩ ⟨rfl,trivial⟩ ?_
 intro i hi
 refine Ca [] [] ?_
 by_cases hlt:i<l.length
 ·have hx:=Ab hlt
  generalize l[i]=e at hx
  have hxd:(l.map dO)[i]? =some (dO e):=by rw[Ad,hx];rfl
  have htl:((l.take i).map dO).length=i:=by rw[Ac,A8];omega
  have hfin:(l.take i).map dO++[dO e]=(l.take (i+1)).map dO:=by rw[Au,hx,AS,A7];rfl
  generalize (l.take i).map dO=Z at htl hfin⊢
  (conv=>whnf)
  (repeat' ((first|refine Aj ?_ ?_|refine AO hxd rfl ?_|refine yR (by simp only[Ax,Br];omega) ?_|refine nx ?_|refine AB (λ_=>?_) (λ_=>?_)|exact AE)<;>conv=>whnf))
  exact⟨i+1,_,_,hlt,.refl _ _,⟨rfl,rfl,rfl,trivial⟩,⟨Bj hfin,trivial⟩,by omega⟩
 ·have hii:l.take i=l:=Ak (by omega)
  rw[hii]
  ((conv=>whnf);repeat' ((first|refine odw ?_|refine nx ?_|refine AB (λ_=>?_) (λ_=>?_))<;>conv=>whnf))
  exact rfl
end Go.Proofs.YtjpmmkodoeipmaaGreatDoor
end
section
namespace Go.Proofs.YtjpmmkodoeipmaaGreatDoor
open Go.Gr
theorem sL {G:Gr}(hG:G.Ok)(l:List Int):Ky G l=if Ew G l=true then(Ui G l G.labels.length).filter (FE G l)else[]:=by
 unfold Ky
 rw[wF hG]
end Go.Proofs.YtjpmmkodoeipmaaGreatDoor
end
section
namespace Go.Proofs.YtjpmmkodoeipmaaGreatDoor
open Go.Sx Go.RowKit Go.Reg Go.Gr
set_option maxRecDepth 100000
theorem ABD {O:List Nat} {w:World} {l:List Opp} {v:Value}(h:Rep O w (JS l) v):l.length<=9223372036854775807:=by
 have:=mM h
 rw[Ac]at this
 unfold maxLen at this
 omega
end Go.Proofs.YtjpmmkodoeipmaaGreatDoor
end
section
namespace Go.Proofs.YtjpmmkodoeipmaaGreatDoor
open Go.Sx Go.RowKit Go.Reg Go.Gr
set_option maxRecDepth 100000
def Jb(G:Gr)(e:Bool)(X:List Int):Pt:=if e=true then Vm G X else Og G X
def Tp(G:Gr)(e:Bool)(X:List Int):List Int:=if e=true then C8 (C0 G.edges X)else X
section
variable {G:Gr} {e:Bool} {d:Int} {l:List Opp}
theorem jB(_h:JobOk G true d l) {X:List Int}(hl:C9 (IE G) X=true):∀x∈X,0<=x/\x<(G.edges.length:Int):=λx hx=>by
 have:=OO hl x hx
 have e:(IE G).labels.length=G.edges.length:=B9
 omega
theorem ZL(h:JobOk G e d l) {X:List Int}(hl:C9 (CL G e) X=true)(h8:(Tp G e X).length<=8):Dk (Jb G e X)=none:=by
 cases e with
 |true=>exact WZ h.ok h8
 |false=>exact Rz h.ok h8 hl
theorem ADB(h:JobOk G e d l) {X:List Int}(hl:C9 (CL G e) X=true):Ld G e l X=(decide ((Tp G e X).length<=8)&&l.all λo=>Un o (Jb G e X)):=by
 by_cases h8:(Tp G e X).length<=8
 ·have hp:=ZL h hl h8
  have hk:=sB (l:=l) (p:=Jb G e X) ⟨rfl,(BK hp).2.1,(BK hp).2.2⟩ h.lok
  rw[hk]
  unfold Ld Rx
  rw[hl]
  cases e with
  |
   true=>
   rw[if_pos rfl]
   rw[show Jb G true X=Vm G X from rfl]at hp⊢
   rw[hp];rfl
  |
   false=>
   rw[if_neg (by decide)]
   rw[show Jb G false X=Og G X from rfl]at hp⊢
   rw[hp];rfl
 ·rw[decide_eq_false h8,Bool.false_and]
  unfold Ld
  rw[hl]
  cases e with
  |
   true=>
   rw[if_pos rfl]
   rw[show Tp G true X=C8 (C0 G.edges X)from rfl]at h8
   rw[decide_eq_false h8];rfl
  |
   false=>
   rw[if_neg (by decide)]
   rw[show Tp G false X=X from rfl]at h8
   rw[decide_eq_false h8];rfl
end
end Go.Proofs.YtjpmmkodoeipmaaGreatDoor
end
section
namespace Go.Proofs.YtjpmmkodoeipmaaGreatDoor
open Go.Sx Go.RowKit Go.Reg Go.Gr
set_option maxRecDepth 100000
theorem Pure.laxR {C:Cx} {f:FuncId} {xs:List Da} {Q:Da->Prop} {z:Da}(hq:∀y,Q y->LaxA y z)(h:Sx.Pure C f xs Q):Sx.Pure C f xs (λy=>y=z):=by
 intro O w us hO hg hr
 obtain⟨g1,g2⟩:=h O w us hO hg hr
 refine⟨g1,g2.mono ?_⟩
 rintro e w' ⟨u,y,he,hy,⟨cs,hr1,hr2⟩,ht⟩
 exact⟨u,z,he,rfl,⟨cs,RepC.lax (hq y hy) hr1,by rw[hr2];exact UI (hq y hy) cs⟩,ht⟩
section
variable {G:Gr} {e:Bool} {d:Int} {l:List Opp}
theorem xS(h:JobOk G e d l) {X:List Int}(hl:C9 (CL G e) X=true)(h8:(Tp G e X).length<=8):iD G e X=.tuple [FC (Jb G e X),Bh (Tp G e X),.nili]:=by
 unfold iD
 cases e with
 |
  true=>
  rw[if_pos rfl]
  unfold Xn
  rw[if_neg (by rw[show C9 (IE G) X=true from hl];decide),if_neg (by have:(C8 (C0 G.edges X)).length<=8:=h8;omega)];rfl
 |
  false=>
  rw[if_neg (by decide),if_neg (by have:X.length<=8:=h8;omega),if_neg (by rw[show C9 G X=true from hl];decide)];rfl
end
end Go.Proofs.YtjpmmkodoeipmaaGreatDoor
end
section
namespace Go.Gr
section
variable {α:Type} {f:α->α->Int}
theorem oH {l:List (α×Int)} {p:α} {n:Int}(hn:0<=n)(hl:∀x∈l,0<=x.2):∀x∈Dr f l p n,0<=x.2:=by
 induction l with
 |nil=>intro x hx;simp only[Dr,As]at hx;subst hx;exact hn
 |
  cons y l ih=>
  obtain⟨q,m⟩:=y
  have h0:=hl (q,m) (.head _)
  have ih:=ih (λx hx=>hl x (.tail _ hx))
  intro x hx
  simp only[Dr]at hx
  split at hx
  ·rcases Ai.1 hx with rfl|hx
   ·exact h0
   ·exact ih x hx
  ·split at hx
   ·rcases Ai.1 hx with rfl|hx
    ·simp only at h0⊢;omega
    ·exact hl x (.tail _ hx)
   ·rcases Ai.1 hx with rfl|hx
    ·exact hn
    ·exact hl x hx
theorem eW {l:List (α×Int)} {p:α} {n:Int}:(Dr f l p n).length<=l.length+1:=by
 induction l with
 |nil=>simp[Dr]
 |
  cons y l ih=>
  obtain⟨q,m⟩:=y
  simp only[Dr]
  split
  ·simp only[Ax];omega
  ·split<;>simp only[Ax]<;>omega
theorem T9 {l:List (α×Int)}(hl:∀x∈l,0<=x.2):(0<=GM l)/\∀x∈l,x.2<=GM l:=by
 unfold GM
 induction l with
 |nil=>exact⟨Int.le_refl _,λx hx=>by cases hx⟩
 |
  cons y l ih=>
  obtain⟨h1,h2⟩:=ih (λx hx=>hl x (.tail _ hx))
  have h0:=hl y (.head _)
  simp only[Ap,List.foldr_cons]
  refine⟨by omega,λx hx=>?_⟩
  rcases Ai.1 hx with rfl|hx
  ·omega
  ·have:=h2 x hx;omega
def Em(ps:List Pt):List (Pt×Int):=ps.foldl (λl p=>Dr D4 l p 1) []
theorem JZ(ps:List Pt)(p:Pt):Em (ps++[p])=Dr D4 (Em ps) p 1:=by unfold Em;rw[EE];rfl
theorem Gj(ps:List Pt):GM (Em ps)=ps.length/\(∀x∈Em ps,0<=x.2)/\(Em ps).length<=ps.length/\(∀x∈Em ps,x.1∈ps)/\H5 D4 (Em ps):=by
 suffices h:∀qs:List Pt,GM (Em qs.reverse)=qs.length/\(∀x∈Em qs.reverse,0<=x.2)/\(Em qs.reverse).length<=qs.length/\(∀x∈Em qs.reverse,x.1∈qs)/\H5 D4 (Em qs.reverse)by
  have:=h ps.reverse
  rw[F5,List.length_reverse]at this
  exact⟨this.1,this.2.1,this.2.2.1,λx hx=>List.mem_reverse.1 (this.2.2.2.1 x hx),this.2.2.2.2⟩
 intro qs
 induction qs with
 |nil=>exact⟨rfl,λx hx=>(by cases hx),Ay _,λx hx=>(by cases hx),.nil⟩
 |
  cons q qs ih=>
  obtain⟨h1,h2,h3,h4,h5⟩:=ih
  rw[Hd,JZ]
  refine⟨by rw[Zb,h1];simp,oH (by omega) h2,BI eW (by simpa using h3),λx hx=>?_,NL Ij h5⟩
  rcases QC x hx with e|hx
  ·rw[e];exact .head _
  ·exact .tail _ (h4 x hx)
end
end Go.Gr
namespace Go.Proofs.YtjpmmkodoeipmaaGreatDoor
open Go.Sx Go.RowKit Go.Reg Go.Gr
set_option maxRecDepth 100000
theorem Nv {p:Pt}(h:Dk p=none):TextOk p/\ACD p:=by
 obtain⟨h1,h2,h3⟩:=BK h
 obtain⟨g1,g2⟩:=CQ h1
 obtain⟨s1,s2⟩:=Mh h
 refine⟨⟨Fm h,by omega,λx hx=>?_,by omega,λe he=>?_⟩,λx hx=>(g2 x hx).1,λe he=>?_⟩
 ·have:=g2 x hx;omega
 ·have:=h2 e he;omega
 ·have:=h2 e he;omega
theorem DY.mono {C:Cx} {f:FuncId} {args:List Dat} {σ0:Sg} {ks:List Nat} {Q R:Dat->Sg->Prop}(h:DY C f args σ0 ks Q)(hq:∀d σ,Q d σ->R d σ):DY C f args σ0 ks R:=by
 intro B S w η φ css hm hr
 obtain⟨h1,h2⟩:=h B S w η φ css hm hr
 refine⟨h1,h2.mono ?_⟩
 rintro e w' ⟨v,d,σ1,η1,φ1,e1,hQ,r⟩
 exact⟨v,d,σ1,η1,φ1,e1,hq _ _ hQ,r⟩
theorem mA {m:List (ByteArray×RowV)}(X:List (Value×Da)) {l:List (Pt×Int)} {p:Pt} {n:Int}(ht:Nn l m)(hp:Dk p=none)(hn:0<=n)(hl:∀x∈l,0<=x.2)(hs:GM l+n<=9223372036854775807):
  DY C3 67 [.own 900,.d (FC p),.d (.int .i64 n)] (sT m X) [900] (λd σ=>∃z:List (ByteArray×RowV)×List (Value×Da),d=.d .nili/\σ=sT z.1 z.2/\Nn (Dr D4 l p n) z.1):=by
 obtain⟨hx,hnp⟩:=Nv hp
 obtain⟨s0,s1⟩:=T9 hl
 cases hg:Reg.get m (bs (DW p))with
 |
  none=>
  refine DY.mono (uV m X p n hx ⟨hn,by omega⟩ hg) ?_
  rintro d σ ⟨r,⟨r1,r2⟩,rfl,rfl⟩
  exact⟨(_,_),rfl,rfl,by rw[<-r1];exact uZ ht hnp r2 hg⟩
 |
  some r=>
  obtain⟨e,hT⟩:=uY ht hnp n hg
  have hm:(bs (DW p),r)∈m:=by
   unfold Reg.get at hg
   obtain⟨q,hq,e⟩:=Ck.1 hg
   have h1:=List.mem_of_find?_eq_some hq
   have h2:=List.find?_some hq
   have h3:q.1=bs (DW p):=by simpa using h2
   have:q=(bs (DW p),r):=by rw[<-h3,<-e]
   rw[<-this];exact h1
  have hin:=YY ht hm
  have h0:=hl _ hin
  have h1:=s1 _ hin
  simp only at h0 h1
  refine DY.mono (uU m X p n r hx hn hg h0 (by omega)) ?_
  rintro d σ ⟨rfl,rfl⟩
  exact⟨(_,_),rfl,rfl,hT⟩
end Go.Proofs.YtjpmmkodoeipmaaGreatDoor
end
section
namespace Go.Gr
section
variable {α:Type} {f:α->α->Int}
theorem DQ {y:α×Int} {l:List (α×Int)} {p:α} {n:Int}(h:f y.1 p<0):Dr f (y::l) p n=y::Dr f l p n:=by
 obtain⟨q,m⟩:=y
 simp only[Dr];rw[if_pos h]
theorem El {y:α×Int} {l:List (α×Int)} {p:α} {n:Int}(h:f y.1 p=0):Dr f (y::l) p n=(p,y.2+n)::l:=by
 obtain⟨q,m⟩:=y
 simp only[Dr];rw[if_neg (by simp only at h;omega),if_pos h]
theorem EX {y:α×Int} {l:List (α×Int)} {p:α} {n:Int}(h:0<f y.1 p):Dr f (y::l) p n=(p,n)::y::l:=by
 obtain⟨q,m⟩:=y
 simp only[Dr];rw[if_neg (by simp only at h;omega),if_neg (by simp only at h;omega)]
theorem RO(h:TOrd f)(p q:α)(m n:Int):∀l:List (α×Int),Dr f (Dr f l p m) q n=Dr f (Dr f l q n) p m:=by
 have two:∀l:List (α×Int),(∀y l',l=y::l'->0<f y.1 p/\0<f y.1 q)->Dr f (Dr f l p m) q n=Dr f (Dr f l q n) p m:=by
  intro l hl
  have hp:Dr f l p m=(p,m)::l:=by
   cases l with
   |nil=>rfl
   |cons y l=>exact EX (hl y l rfl).1
  have hq:Dr f l q n=(q,n)::l:=by
   cases l with
   |nil=>rfl
   |cons y l=>exact EX (hl y l rfl).2
  rw[hp,hq]
  rcases He (f p q) 0 with h1|h1|h1
  ·rw[DQ (y:=(p,m)) h1,EX (y:=(q,n)) ((h.anti q p).1 h1),hq]
  ·have e:=(h.eq0 p q).1 h1
   subst e
   rw[El (y:=(p,m)) h1,El (y:=(p,n)) h1,Int.add_comm]
  ·rw[EX (y:=(p,m)) h1,DQ (y:=(q,n)) ((h.anti p q).2 h1),hp]
 intro l
 induction l with
 |nil=>exact two [] (λy l e=>by cases e)
 |
  cons y l ih=>
  rcases He (f y.1 p) 0 with h1|h1|h1
  ·rcases He (f y.1 q) 0 with h2|h2|h2
   ·rw[DQ h1,DQ h2,DQ h2,DQ h1,ih]
   ·have e:=(h.eq0 _ _).1 h2
    rw[DQ h1,El h2,El h2,DQ (y:=(q,y.2+n)) (by rw[<-e];exact h1)]
   ·rw[DQ h1,EX h2,EX h2,DQ (y:=(q,n)) (h.trans _ _ _ ((h.anti _ _).2 h2) h1),DQ h1]
  ·have e:=(h.eq0 _ _).1 h1
   rcases He (f y.1 q) 0 with h2|h2|h2
   ·rw[El h1,DQ (y:=(p,y.2+m)) (by rw[<-e];exact h2),DQ h2,El h1]
   ·have e2:=(h.eq0 _ _).1 h2
    rw[El h1,El h2,El (y:=(p,y.2+m)) (by rw[<-e];exact h2),El (y:=(q,y.2+n)) (by rw[<-e2];exact h1),<-e,<-e2,Int.add_right_comm]
   ·rw[El h1,EX (y:=(p,y.2+m)) (by rw[<-e];exact h2),EX h2,DQ (y:=(q,n)) (by rw[<-e];exact(h.anti _ _).2 h2),El h1]
  ·rcases He (f y.1 q) 0 with h2|h2|h2
   ·rw[EX h1,DQ (y:=(p,m)) (h.trans _ _ _ ((h.anti _ _).2 h1) h2),DQ h2,EX h1]
   ·have e2:=(h.eq0 _ _).1 h2
    rw[EX h1,DQ (y:=(p,m)) (by rw[<-e2];exact(h.anti _ _).2 h1),El h2,EX (y:=(q,y.2+n)) (by rw[<-e2];exact h1)]
   ·exact two _ (λz l' e=>by cases e;exact⟨h1,h2⟩)
end
end Go.Gr
namespace Go.Proofs.YtjpmmkodoeipmaaGreatDoor
open Go.Sx Go.RowKit Go.Reg Go.Gr
theorem Wb {a b:List Pt}(h:a.Perm b):Em a=Em b:=by
 unfold Em
 suffices H:∀s,a.foldl (λl p=>Dr D4 l p 1) s=b.foldl (λl p=>Dr D4 l p 1) s from H []
 induction h with
 |nil=>intro s;rfl
 |cons x _ ih=>intro s;exact ih _
 |swap x y l=>intro s;simp only[VB];rw[RO Ij]
 |trans _ _ i1 i2=>intro s;rw[i1,i2]
def Gx {β:Type}(R:List β)(c i:Nat):List β:=(List.range i).flatMap λk=>(R[(k+c) % R.length]?).toList
theorem fM {β:Type}(R:List β)(c i:Nat) {x:β}(h:R[(i+c) % R.length]? =some x):Gx R c (i+1)=Gx R c i++[x]:=by
 unfold Gx
 rw[CR,Cy,AAK,h];rfl
theorem oU {β:Type}(R:List β)(c i:Nat):(Gx R c i).length<=i:=by
 induction i with
 |zero=>exact Ay _
 |
  succ i ih=>
  unfold Gx at ih⊢
  rw[CR,Cy,AAK,Ah]
  have:((R[(i+c) % R.length]?).toList).length<=1:=by cases R[(i+c) % R.length]? <;>simp
  omega
theorem O0 {β:Type}(R:List β)(c:Nat):(Gx R c R.length).Perm R:=by
 have hd:Gx R c R.length=R.drop (c % R.length)++R.take (c % R.length):=by
  rcases Nat.eq_zero_or_pos R.length with h0|h0
  ·have:R=[]:=AF h0
   subst this;simp[Gx]
  have hc:c % R.length<R.length:=Nat.mod_lt _ h0
  have hmap:Gx R c R.length=(List.range R.length).map λk=>R[(k+c) % R.length]'(Nat.mod_lt _ h0):=by
   unfold Gx
   rw[List.map_eq_flatMap]
   congr 1
   funext k
   rw[Ab (Nat.mod_lt _ h0)];rfl
  rw[hmap]
  refine List.ext_getElem (by simp only[Ac,Dt,Ah,Gv,A8];omega) λi h1 h2=>?_
  simp only[Ac,Dt]at h1
  rw[List.getElem_map,List.getElem_range]
  have hm:(i+c) % R.length=(i+c % R.length) % R.length:=by rw[Nat.add_mod,Nat.add_mod i (c % R.length),Nat.mod_mod]
  by_cases hi:i<R.length-c % R.length
  ·rw[List.getElem_append_left (by rw[Gv];exact hi),List.getElem_drop]
   congr 1
   rw[hm,KI (by omega)];omega
  ·rw[List.getElem_append_right (by rw[Gv];omega),List.getElem_take]
   congr 1
   rw[hm,Gv,Nat.mod_eq_sub_mod (by omega),KI (by omega)];omega
 rw[hd]
 exact List.perm_append_comm.trans (by rw[BP])
theorem Za(a b:List (Pt×Int)):GM (a++b)=GM a+GM b:=by
 unfold GM
 induction a with
 |nil=>simp
 |cons x a ih=>simp only[AV,Ap,List.foldr_cons,ih];omega
theorem pF {l:List (Pt×Int)}(hl:∀x∈l,0<=x.2) {i:Nat} {x:Pt×Int}(hx:l[i]? =some x):GM (l.take (i+1))=GM (l.take i)+x.2/\0<=GM (l.take i)/\GM (l.take (i+1))<=GM l:=by
 have h1:GM (l.take (i+1))=GM (l.take i)+x.2:=by
  rw[Au,hx,AS,Za];simp[GM]
 have h2:=Za (l.take (i+1)) (l.drop (i+1))
 rw[BP]at h2
 exact⟨h1,(T9 λy hy=>hl y (DO hy)).1,by have:=(T9 (l:=l.drop (i+1)) λy hy=>hl y (SL hy)).1;omega⟩
end Go.Proofs.YtjpmmkodoeipmaaGreatDoor
end
section
namespace Go.Gr
section
variable {α:Type} {f:α->α->Int}
def HU(f:α->α->Int)(u:α->α)(s l:List (α×Int)):List (α×Int):=l.foldl (λs x=>Dr f s (u x.1) x.2) s
theorem lL(h:TOrd f)(p:α)(m n:Int):∀l:List (α×Int),Dr f (Dr f l p m) p n=Dr f l p (m+n):=by
 have h0:f p p=0:=(h.eq0 p p).2 rfl
 intro l
 induction l with
 |nil=>exact El (y:=(p,m)) h0
 |
  cons y l ih=>
  rcases He (f y.1 p) 0 with h1|h1|h1
  ·rw[DQ h1,DQ h1,DQ h1,ih]
  ·rw[El h1,El h1,El (y:=(p,y.2+m)) h0,Int.add_assoc]
  ·rw[EX h1,EX h1,El (y:=(p,m)) h0]
theorem NK(h:TOrd f)(u:α->α)(p:α)(n:Int):∀(l s:List (α×Int)),HU f u (Dr f s p n) l=Dr f (HU f u s l) p n
 |[],s=>rfl
 |
  x::l,s=>by
  show HU f u (Dr f (Dr f s p n) (u x.1) x.2) l=_
  rw[RO h,NK h u p n l];rfl
theorem Xx(h:TOrd f)(u:α->α)(p:α)(n:Int):∀(l s:List (α×Int)),HU f u s (Dr f l p n)=Dr f (HU f u s l) (u p) n
 |[],s=>rfl
 |
  y::l,s=>by
  rcases He (f y.1 p) 0 with h1|h1|h1
  ·rw[DQ h1];exact Xx h u p n l _
  ·have e:=(h.eq0 _ _).1 h1
   rw[El h1]
   show HU f u (Dr f s (u p) (y.2+n)) l=Dr f (HU f u (Dr f s (u y.1) y.2) l) (u p) n
   rw[NK h,NK h,e,lL h]
  ·rw[EX h1]
   show HU f u (Dr f (Dr f s (u p) n) (u y.1) y.2) l=Dr f (HU f u (Dr f s (u y.1) y.2) l) (u p) n
   rw[RO h,NK h]
theorem AA7(u:α->α)(s a b:List (α×Int)):HU f u s (a++b)=HU f u (HU f u s a) b:=EE
theorem uG(u:α->α)(s a:List (α×Int))(x:α×Int):HU f u s (a++[x])=Dr f (HU f u s a) (u x.1) x.2:=by rw[AA7];rfl
theorem uF(h:TOrd f)(u:α->α) {l:List (α×Int)}(hl:∀x∈l,0<=x.2):∀{s:List (α×Int)},(∀x∈s,0<=x.2)->H5 f s->GM (HU f u s l)=GM s+GM l/\(∀x∈HU f u s l,0<=x.2)/\(HU f u s l).length<=s.length+l.length/\(∀x∈HU f u s l,x∈s\/(∃y∈l,x.1=u y.1)\/∃y∈s,x.1=y.1)/\H5 f (HU f u s l):=by
 induction l with
 |nil=>intro s hs ho;exact⟨by simp[HU,GM],hs,Ay _,λx hx=>.inl hx,ho⟩
 |
  cons x l ih=>
  intro s hs ho
  have h0:=hl x (.head _)
  obtain⟨h1,h2,h3,h4,h5⟩:=ih (λy hy=>hl y (.tail _ hy)) (s:=Dr f s (u x.1) x.2) (oH h0 hs) (NL h ho)
  refine⟨?_,h2,?_,λy hy=>?_,h5⟩
  ·show GM (HU f u (Dr f s (u x.1) x.2) l)=_
   rw[h1,Zb]
   have:GM (x::l)=x.2+GM l:=rfl
   omega
  ·have:=eW (f:=f) (l:=s) (p:=u x.1) (n:=x.2)
   simp only[Ax]
   show(HU f u (Dr f s (u x.1) x.2) l).length<=_
   omega
  ·rcases h4 y hy with hy|⟨z,hz,e⟩|⟨z,hz,e⟩
   ·rcases QC y hy with e|hy
    ·exact .inr (.inl ⟨x,.head _,e⟩)
    ·exact .inl hy
   ·exact .inr (.inl ⟨z,.tail _ hz,e⟩)
   ·rcases QC z hz with e2|hz
    ·exact .inr (.inl ⟨x,.head _,e.trans e2⟩)
    ·exact .inr (.inr ⟨z,hz,e⟩)
end
end Go.Gr
end
section
namespace Go.Gr
open Go.Proofs.YtjpmmkodoeipmaaGreatDoor
theorem mD {α:Type} [DecidableEq α]:∀{l m:List α},l.Nodup->(∀x∈l,x∈m)->l.length<=m.length
 |[],_,_,_=>Am _
 |
  x::l,m,hn,hs=>by
  have hx:x∈m:=hs x (by simp)
  rw[Cp]at hn
  have h:=mD (m:=m.erase x) hn.2 λy hy=>by
   have hne:y≠x:=λe=>hn.1 (e▸hy)
   exact(List.mem_erase_of_ne hne).2 (hs y (by simp[hy]))
  rw[List.length_erase_of_mem hx]at h
  have:=List.length_pos_of_mem hx
  rw[Ax];omega
theorem U2 {α:Type} [DecidableEq α] {l m:List α}(hn:l.Nodup)(hs:∀x∈l,x∈m):l.length<=m.length:=mD hn hs
structure IsImg(G:Gr)(p:Pt)(whole:Bool)(L:List Int):Prop where
 len:L.length=p.labels.length
 nodup:L.Nodup
 lt:∀x∈L,0<=x/\x<(G.labels.length:Int)
 label:∀i x,L[i]? =some x->EO G x=AFI p i
 has:∀i j x y,i≠j->L[i]? =some x->L[j]? =some y->AEB p i j=true->AEK G x y=true
 only:whole=true->∀i j x y,i≠j->L[i]? =some x->L[j]? =some y->AEK G x y=true->AEB p i j=true
end Go.Gr
end
section
namespace Go.Gr
open Go.Proofs.YtjpmmkodoeipmaaGreatDoor
def V5(s:List Int)(n:Int):List Int:=D3 (n::s)
theorem Qe {s:List Int} {n x:Int}:x∈V5 s n↔x=n\/x∈s:=by unfold V5;rw[(BG _).2,Ai]
def Jp(X:List (List Int))(i:Nat):List Int:=D3 (X.map λL=>(L[i]?).getD 0)
theorem NG(X:List (List Int))(i:Nat):(Jp X i).Pairwise (· < ·):=(BG _).1
theorem Qc {X:List (List Int)} {i:Nat} {x:Int}:x∈Jp X i↔∃L∈X,(L[i]?).getD 0=x:=by unfold Jp;rw[(BG _).2,An]
theorem OA {l:List Int}(h:l.Pairwise (· < ·)):l.Nodup:=h.imp λh=>Int.ne_of_lt h
theorem TK {l:List Int}(h:l.Pairwise (· < ·)):D3 l=l:=Hi (BG l).1 h (BG l).2
theorem pO:D3 []=[]:=TK List.Pairwise.nil
theorem AAt(i:Nat):Jp [] i=[]:=pO
theorem HI(l:List Int):(D3 l).length<=l.length:=U2 (OA (BG l).1) λx hx=>((BG l).2 x).1 hx
theorem dA(X:List (List Int))(i:Nat):(Jp X i).length<=X.length:=by
 have:=HI (X.map λL=>(L[i]?).getD 0)
 rwa [Ac]at this
theorem tJ {X:List (List Int)} {k:Nat} {L:List Int} {i:Nat} {v:Int}(hL:X[k]? =some L)(hv:L[i]? =some v):Jp (X.take (k+1)) i=V5 (Jp (X.take k) i) v:=by
 refine Hi (NG _ _) (BG _).1 λx=>?_
 rw[Qe,Qc,Qc,Au,hL]
 constructor
 ·rintro⟨M,hM,e⟩
  rcases Ag.1 hM with h|h
  ·exact .inr ⟨M,h,e⟩
  ·rw[AS,As]at h
   subst h
   rw[hv]at e;exact .inl e.symm
 ·rintro(rfl|⟨M,hM,e⟩)
  ·exact⟨L,by simp,by rw[hv];rfl⟩
  ·exact⟨M,Av _ hM,e⟩
def OT(l:List (List Int)):Nat:=((l.map List.length).min?).getD 0
theorem rX {l:List (List Int)} {s:List Int}(hs:s∈l)(h:∀t∈l,s.length<=t.length):OT l=s.length:=by
 unfold OT
 rw[(List.min?_eq_some_iff (a:=s.length)).2 ⟨An.2 ⟨s,hs,rfl⟩,λb hb=>by obtain⟨t,ht,rfl⟩:=An.1 hb;exact h t ht⟩]
 rfl
def Et(k:Nat)(X:List (List Int)):List (List Int):=(List.range k).map (Jp X)
theorem NF(k:Nat)(X:List (List Int)):(Et k X).length=k:=by unfold Et;simp
theorem AAs {k:Nat} {X:List (List Int)} {i:Nat}(h:i<k):(Et k X)[i]? =some (Jp X i):=by
 unfold Et;rw[Ad,Df h];rfl
theorem rQ {k:Nat} {X:List (List Int)} {s:List Int}:s∈Et k X↔∃i,i<k/\Jp X i=s:=by
 unfold Et;simp
def bA(G:Gr)(x:Int):List Int:=((List.range G.labels.length).filter λv:Nat=>decide (EO G v=x)).map λv:Nat=>(v:Int)
def Qb(k:Nat)(Y:List (List Int))(M:List Int)(done:Nat->Bool):List (List Int):=(List.range k).map λv=>if done v then Jp (Y++[M]) v else Jp Y v
theorem Qa(k:Nat)(Y:List (List Int))(M:List Int)(done:Nat->Bool):(Qb k Y M done).length=k:=by unfold Qb;simp
theorem Yj {k:Nat} {Y:List (List Int)} {M:List Int} {done:Nat->Bool} {v:Nat}(hv:v<k):(Qb k Y M done)[v]? =some (if done v then Jp (Y++[M]) v else Jp Y v):=by
 unfold Qb;rw[Ad,Df hv];rfl
theorem iT(k:Nat)(Y:List (List Int))(M:List Int) {done:Nat->Bool}(h:∀v,v<k->done v=false):Qb k Y M done=Et k Y:=by
 unfold Qb Et
 exact Ec λv hv=>by rw[h v (AN.1 hv)];rfl
theorem yU(k:Nat)(Y:List (List Int))(M:List Int) {done:Nat->Bool}(h:∀v,v<k->done v=true):Qb k Y M done=Et k (Y++[M]):=by
 unfold Qb Et
 exact Ec λv hv=>by rw[h v (AN.1 hv)];rfl
theorem tK {Y:List (List Int)} {M:List Int} {v:Nat} {x:Int}(h:M[v]? =some x):Jp (Y++[M]) v=V5 (Jp Y v) x:=by
 have:=tJ (X:=Y++[M]) (k:=Y.length) (L:=M) (i:=v) (v:=x) (by simp) h
 rwa [Ak (by simp),List.take_left' rfl]at this
theorem rO {k:Nat} {Y:List (List Int)} {M:List Int} {done done':Nat->Bool} {w:Nat} {x:Int}(hx:M[w]? =some x)(h:∀v,v<k->done' v=(done v||decide (v=w))):(Qb k Y M done).set w (V5 (Jp Y w) x)=Qb k Y M done':=by
 refine BY λv=>?_
 rw[Be,Qa]
 by_cases hv:v<k
 ·rw[Yj hv,Yj hv,h v hv]
  by_cases e:w=v
  ·subst e
   rw[if_pos rfl,if_pos hv,decide_eq_true rfl,Bool.or_true,if_pos rfl,tK hx]
  ·rw[if_neg e,decide_eq_false (λh=>e h.symm),Bool.or_false]
 ·rw[AI (by rw[Qa];omega),AI (by rw[Qa];omega)]
  by_cases e:w=v
  ·rw[if_pos e,if_neg (by omega)]
  ·rw[if_neg e]
end Go.Gr
end
section
namespace Go.Gr
open Go.Proofs.YtjpmmkodoeipmaaGreatDoor
section
variable {n:Nat} {p:Pt} {b:List Int}
def JR(b L:List Int):List Int:=La b L b.length
theorem mZ(b L:List Int):(JR b L).length=L.length:=Kj _ _ _
theorem yQ(hb:C6 n b) {L:List Int}(hL:L.length=n) {i:Nat}(hi:i<n):(JR b L)[pl b i]? =L[i]? :=SU hb hL hi
theorem aE(hb:C6 n b) {L:List Int}(hL:L.length=n) {k:Nat} {x:Int}(h:(JR b L)[k]? =some x):∃i,i<n/\pl b i=k/\L[i]? =some x:=by
 have hk:=(Ae.1 h).1
 rw[mZ,hL]at hk
 obtain⟨i,hi,e⟩:=Lg hb hk
 refine⟨i,hi,e,?_⟩
 rw[<-yQ hb hL hi,e];exact h
theorem aB {L:List Int}(h:∀(i j:Nat) (x:Int),L[i]? =some x->L[j]? =some x->i=j):L.Nodup:=by
 rw[List.Nodup,AM]
 intro i j hi hj hij e
 have:=h i j L[i] (Ab hi) (by rw[Ab hj,e])
 omega
end
end Go.Gr
end
section
namespace Go.Gr
open Go.Proofs.YtjpmmkodoeipmaaGreatDoor
theorem tL {X Y:List (List Int)}(h:∀L,L∈X↔L∈Y)(i:Nat):Jp X i=Jp Y i:=by
 refine Hi (NG _ _) (NG _ _) λx=>?_
 rw[Qc,Qc]
 exact⟨λ⟨L,hL,e⟩=>⟨L,(h L).1 hL,e⟩,λ⟨L,hL,e⟩=>⟨L,(h L).2 hL,e⟩⟩
theorem kU {X Y:List (List Int)}(h:∀L,L∈X↔L∈Y)(k:Nat):Et k X=Et k Y:=by
 unfold Et
 exact Ec λi _=>tL h i
theorem AAr {k:Nat}(hk:0<k)(X:List (List Int)):Et k X≠[]:=λe=>by have:=NF k X;rw[e]at this;simp at this;omega
section
variable {n:Nat} {p:Pt} {b:List Int}
def Jw(p:Pt)(X:List (List Int)):List (List Int):=X.flatMap λL=>(Es p p).map λo=>JR o L
end
end Go.Gr
end
section
namespace Go.Sx
open Go Go.RowKit Go.Reg
def eS(s:ByteArray):List Value:=[.string s]
inductive Bx
 |junk
 |pin (u:Value)
 |box (l:List ByteArray)
structure BoxR(E1 E2:Nat)(bs:List Bx)(w:World)(v:Value)(F:List Nat)(css:List (List Value))(G:Nat->List Nat):Prop where
 sl:Sl E1 1 id w v css
 len:css.length=bs.length
 row:∀x∈css,EN 1 x
 pin:∀(i:Nat) u,bs[i]? =some (.pin u)->css[i]? =some [u]
 box:∀(i:Nat) l,bs[i]? =some (.box l)->∃u,css[i]? =some [u]/\Sl E2 1 id w u (l.map eS)/\G i=u.ownBlock.toList
 non:∀(i:Nat),(∀l,bs[i]? ≠some (.box l))->G i=[]
 dis:∀i j b,i≠j->b∈G i->b∉G j
 out:∀i b,b∈G i->v.ownBlock≠some b
 mem:∀b,b∈F↔v.ownBlock=some b\/∃i,b∈G i
def AFT(E1 E2:Nat)(bs:List Bx):Absn where
 R w v F:=∃css G,BoxR E1 E2 bs w v F css G
 keep:=by
  rintro S w w' v F ⟨css,G,h⟩ t hd
  refine⟨css,G,h.sl.keep t (λb hb=>hd b ((h.mem b).2 (.inl hb))),h.len,h.row,h.pin,λi l hi=>?_,h.non,h.dis,h.out,h.mem⟩
  obtain⟨u,h1,h2,h3⟩:=h.box i l hi
  exact⟨u,h1,h2.keep t (λb hb=>hd b ((h.mem b).2 (.inr ⟨i,by rw[h3,hb];simp⟩))),h3⟩
 lt:=by
  rintro w v F ⟨css,G,h⟩ x hx
  rcases(h.mem x).1 hx with hx|⟨i,hi⟩
  ·exact h.sl.lt hx
  ·by_cases hb:∃l,bs[i]? =some (.box l)
   ·obtain⟨l,hl⟩:=hb
    obtain⟨u,h1,h2,h3⟩:=h.box i l hl
    rw[h3]at hi
    exact h2.lt (by simpa using hi)
   ·rw[h.non i (λl hl=>hb ⟨l,hl⟩)]at hi;cases hi
 one:=by
  rintro w v F ⟨css,G,h⟩
  rcases h.sl.shape with⟨rfl,_⟩|⟨g,cap,rfl,_⟩<;>rfl
theorem Ta {φ:Nat->List Nat} {σ:Sg} {b:Nat}:b∈Ao φ σ↔∃k∈BB σ,b∈φ k:=
 ⟨λh=>by obtain⟨p,hp,hb⟩:=AL.1 h;exact⟨p.1,AW hp,hb⟩,λ⟨_,hk,hb⟩=>B5 hk hb⟩
section
variable {C:Cx} {T:Hb} {n kd:Nat} {fr:Fr} {σ:Sg} {o:Oper} {K:Fr->Sg->Prop} {B S:List Nat} {w0 w w':World} {η:Nat->Value} {φ:Nat->List Nat} {a:Act} {E1 E2:Nat}
theorem Mem.split(h:Mem C B S w0 σ η φ w) {i j:Nat}(hi:i∈BB σ)(hj:j∉BB σ) {F1 F2:List Nat}(hF:∀b,b∈φ i↔b∈F1\/b∈F2)(hd:∀b∈F1,b∉F2) {v:Value} {o1 o2:Own}
  (h1:∀η' I' O',o1.holds η' I' O' w (η i) F1) (h2:∀η' I' O',o2.holds η' I' O' w v F2):
  Mem C B S w0 ((j,o2)::AX id i o1 σ) (CE η j v) (CE (CE φ i F1) j F2) w/\Later (B++Ao φ σ) w (B++Ao (CE (CE φ i F1) j F2) ((j,o2)::AX id i o1 σ)) w:=by
 have hij:i≠j:=λe=>hj (e▸hi)
 have e1:CE (CE φ i F1) j F2 i=F1:=by rw[BV _ _ _ hij,Cj]
 have e2:CE (CE φ i F1) j F2 j=F2:=Cj _ _ _
 have e3:∀k,k≠i->k≠j->CE (CE φ i F1) j F2 k=φ k:=λk a b=>by rw[BV _ _ _ b,BV _ _ _ a]
 have hids:BB ((j,o2)::AX id i o1 σ)=j::BB σ:=by
  have:=AY id i o1 σ
  unfold BB at this⊢
  rw[Ap,this]
 have hne:∀k∈BB σ,k≠j:=λk hk e=>hj (e▸hk)
 have hsub:∀k∈BB σ,∀b∈CE (CE φ i F1) j F2 k,b∈φ k:=λk hk b hb=>by
  by_cases e:k=i
  ·subst e;rw[e1]at hb;exact(hF b).2 (.inl hb)
  ·rw[e3 k e (hne k hk)]at hb;exact hb
 have hO:∀b,b∈B++Ao (CE (CE φ i F1) j F2) ((j,o2)::AX id i o1 σ)↔b∈B++Ao φ σ:=λb=>by
  simp only[Ag,Ta,hids,Ai]
  refine or_congr SD ⟨?_,?_⟩
  ·rintro⟨k,rfl|hk,hb⟩
   ·rw[e2]at hb;exact⟨i,hi,(hF b).2 (.inr hb)⟩
   ·exact⟨k,hk,hsub k hk b hb⟩
  ·rintro⟨k,hk,hb⟩
   by_cases e:k=i
   ·subst e
    rcases(hF b).1 hb with hb|hb
    ·exact⟨k,.inr hk,by rw[e1];exact hb⟩
    ·exact⟨j,.inl rfl,by rw[e2];exact hb⟩
   ·exact⟨k,.inr hk,by rw[e3 k e (hne k hk)];exact hb⟩
 have hl:Later (B++Ao φ σ) w (B++Ao (CE (CE φ i F1) j F2) ((j,o2)::AX id i o1 σ)) w:=⟨Ay _,λ_ _ _=>rfl,λb hn _ hm=>hn ((hO b).1 hm)⟩
 refine⟨⟨h.tch,?_,?_,?_,?_,h.out,λg hg=>(h.glob g hg).later hl⟩,hl⟩
 ·intro p hp
  rcases Ai.1 hp with rfl|hp
  ·simp only[Cj];exact h2 _ _ _
  ·rcases Gt hp with rfl|⟨q,hq,hqi,rfl⟩
   ·simp only[e1,BV _ _ _ hij];exact h1 _ _ _
   ·have hqj:=hne q.1 (AW hq)
    simp only[e3 q.1 hqi hqj,BV _ _ _ hqj]
    exact(h.own q hq).later hl (λk hk=>⟨by rw[hids];exact AA _ hk,BV _ _ _ (hne k hk)⟩) (Tch.refl [] w) (λ_ _=>by simp)
 ·rw[hids];exact Cp.2 ⟨hj,h.nodup⟩
 ·intro k hk m hm hkm b hb1 hb2
  rw[hids]at hk hm
  rcases Ai.1 hk with ek|hk<;>rcases Ai.1 hm with em|hm
  ·exact hkm (ek.trans em.symm)
  ·rw[ek,e2]at hb1
   by_cases e:m=i
   ·rw[e,e1]at hb2;exact hd b hb2 hb1
   ·exact h.disj m hm i hi e b (hsub m hm b hb2) ((hF b).2 (.inr hb1))
  ·rw[em,e2]at hb2
   by_cases e:k=i
   ·rw[e,e1]at hb1;exact hd b hb1 hb2
   ·exact h.disj k hk i hi e b (hsub k hk b hb1) ((hF b).2 (.inr hb2))
  ·exact h.disj k hk m hm hkm b (hsub k hk b hb1) (hsub m hm b hb2)
 ·intro k hk b hb
  rw[hids]at hk
  rcases Ai.1 hk with ek|hk
  ·rw[ek,e2]at hb;exact h.new i hi b ((hF b).2 (.inr hb))
  ·exact h.new k hk b (hsub k hk b hb)
theorem Mem.merge(h:Mem C B S w0 σ η φ w) {i j:Nat}(hi:i∈BB σ)(hj:j∈BB σ)(hij:i≠j) {F:List Nat}(hF:∀b,b∈F↔b∈φ i\/b∈φ j) {r:Absn}(h1:r.R w (η i) F):
  Mem C B S w0 (Db (BL j .undef) j (AX id i r.own σ)) η (CE φ i F) w/\Later (B++Ao φ σ) w (B++Ao (CE φ i F) (Db (BL j .undef) j (AX id i r.own σ))) w:=by
 have hids:BB (Db (BL j .undef) j (AX id i r.own σ))=(BB σ).filter (· !=j):=by rw[DI,AY]
 have hin:∀k,k∈BB (Db (BL j .undef) j (AX id i r.own σ))↔k∈BB σ/\k≠j:=λk=>by rw[hids,A0];simp
 have e3:∀k,k≠i->CE φ i F k=φ k:=λk a=>BV _ _ _ a
 have hO:∀b,b∈B++Ao (CE φ i F) (Db (BL j .undef) j (AX id i r.own σ))↔b∈B++Ao φ σ:=λb=>by
  simp only[Ag,Ta,hin]
  refine or_congr SD ⟨?_,?_⟩
  ·rintro⟨k,⟨hk,hkj⟩,hb⟩
   by_cases e:k=i
   ·subst e;rw[Cj]at hb
    rcases(hF b).1 hb with hb|hb
    ·exact⟨k,hk,hb⟩
    ·exact⟨j,hj,hb⟩
   ·rw[e3 k e]at hb;exact⟨k,hk,hb⟩
  ·rintro⟨k,hk,hb⟩
   by_cases e:k=i
   ·subst e;exact⟨k,⟨hk,hij⟩,by rw[Cj];exact(hF b).2 (.inl hb)⟩
   ·by_cases e2:k=j
    ·subst e2;exact⟨i,⟨hi,hij⟩,by rw[Cj];exact(hF b).2 (.inr hb)⟩
    ·exact⟨k,⟨hk,e2⟩,by rw[e3 k e];exact hb⟩
 have hl:Later (B++Ao φ σ) w (B++Ao (CE φ i F) (Db (BL j .undef) j (AX id i r.own σ))) w:=⟨Ay _,λ_ _ _=>rfl,λb hn _ hm=>hn ((hO b).1 hm)⟩
 have hcov:∀k,k∈BB σ->k≠j->∀b∈CE φ i F k,b∈φ k\/(k=i/\b∈φ j):=λk hk _ b hb=>by
  by_cases e:k=i
  ·subst e;rw[Cj]at hb
   rcases(hF b).1 hb with hb|hb
   ·exact .inl hb
   ·exact .inr ⟨rfl,hb⟩
  ·rw[e3 k e]at hb;exact .inl hb
 refine⟨⟨h.tch,?_,?_,?_,?_,h.out,λg hg=>(h.glob g hg).later hl⟩,hl⟩
 ·intro p hp
  obtain⟨q,hq,hqj,rfl⟩:=Fc hp
  rcases Gt hq with rfl|⟨q',hq',hqi,rfl⟩
  ·simp only[Cj];exact h1
  ·simp only[e3 q'.1 hqi]
   exact(h.own q' hq').kill rfl hl (λk hk hkj=>⟨(hin k).2 ⟨hk,hkj⟩,rfl⟩) (RepC.undef_ex _ _ _) (Tch.refl [] w) (λ_ _=>by simp)
 ·rw[hids];exact h.nodup.filter _
 ·intro k hk m hm hkm b hb1 hb2
  obtain⟨hk,hkj⟩:=(hin k).1 hk
  obtain⟨hm,hmj⟩:=(hin m).1 hm
  rcases hcov k hk hkj b hb1 with g1|⟨e1,g1⟩<;>rcases hcov m hm hmj b hb2 with g2|⟨e2,g2⟩
  ·exact h.disj k hk m hm hkm b g1 g2
  ·exact h.disj k hk j hj hkj b g1 g2
  ·exact h.disj m hm j hj hmj b g2 g1
  ·exact hkm (e1.trans e2.symm)
 ·intro k hk b hb
  obtain⟨hk,hkj⟩:=(hin k).1 hk
  rcases hcov k hk hkj b hb with g1|⟨_,g1⟩
  ·exact h.new k hk b g1
  ·exact h.new j hj b g1
theorem LP(i:Nat)(o1 o2:Own):∀(σ:Sg),AX id i o2 (AX id i o1 σ)=AX id i o2 σ
 |[]=>rfl
 |
  (k,q)::σ=>by
  have ih:=LP i o1 o2 σ
  simp only[AX]
  cases h:Nat.beq k i<;>simp only[AX,h,ih,id]
theorem BoxR.take {bs:List Bx} {v:Value} {F:List Nat} {css:List (List Value)} {G:Nat->List Nat}(hb:BoxR E1 E2 bs w v F css G) {m:Nat} {l:List ByteArray}(hm:bs[m]? =some (.box l)) {u:Value}(hu:css[m]? =some [u]) {F1:List Nat}(hF:∀b,b∈F1↔b∈F/\b∉u.ownBlock.toList):
  BoxR E1 E2 (bs.set m .junk) w v F1 css (λi=>if i=m then[]else G i):=by
 have hml:m<bs.length:=(Ae.1 hm).1
 obtain⟨u',h1,h2,h3⟩:=hb.box m l hm
 have eu:u'=u:=by rw[hu]at h1;simpa using h1.symm
 subst eu
 refine⟨hb.sl,by rw[Di];exact hb.len,hb.row,λi v hi=>?_,λi k hi=>?_,λi hi=>?_,λi j b hij hbi=>?_,λi b hbi=>?_,λb=>?_⟩
 ·rw[Be]at hi
  by_cases e:m=i
  ·subst e;rw[if_pos rfl,if_pos hml]at hi;cases hi
  ·rw[if_neg e]at hi;exact hb.pin i v hi
 ·rw[Be]at hi
  by_cases e:m=i
  ·subst e;rw[if_pos rfl,if_pos hml]at hi;cases hi
  ·rw[if_neg e]at hi
   obtain⟨u2,g1,g2,g3⟩:=hb.box i k hi
   exact⟨u2,g1,g2,(if_neg (λh=>e h.symm)).trans g3⟩
 ·by_cases e:i=m
  ·simp[e]
  ·simp only[if_neg e]
   refine hb.non i λk hk=>hi k ?_
   rw[Be,if_neg (λh=>e h.symm)];exact hk
 ·by_cases e:i=m
  ·simp only[e,if_pos]at hbi;cases hbi
  ·simp only[if_neg e]at hbi
   by_cases e2:j=m
   ·simp[e2]
   ·simp only[if_neg e2];exact hb.dis i j b hij hbi
 ·by_cases e:i=m
  ·simp only[e,if_pos]at hbi;cases hbi
  ·simp only[if_neg e]at hbi;exact hb.out i b hbi
 ·rw[hF,hb.mem,<-h3]
  constructor
  ·rintro⟨h|⟨i,hi⟩,hn⟩
   ·exact .inl h
   ·refine .inr ⟨i,?_⟩
    have e:i≠m:=λe=>hn (e▸hi)
    simp only[if_neg e];exact hi
  ·rintro(h|⟨i,hi⟩)
   ·exact⟨.inl h,λhn=>hb.out m b hn h⟩
   ·by_cases e:i=m
    ·simp only[e,if_pos]at hi;cases hi
    ·simp only[if_neg e]at hi
     exact⟨.inr ⟨i,hi⟩,hb.dis i m b e hi⟩
theorem BoxR.put {bs:List Bx} {v:Value} {F:List Nat} {css:List (List Value)} {G:Nat->List Nat}(hb:BoxR E1 E2 bs w v F css G) {m:Nat} {u:Value}(hm:bs[m]? =some (.pin u)) {l:List ByteArray}(hs:Sl E2 1 id w u (l.map eS))(hn:∀b∈u.ownBlock.toList,b∉F) {F1:List Nat}(hF:∀b,b∈F1↔b∈F\/b∈u.ownBlock.toList):
  BoxR E1 E2 (bs.set m (.box l)) w v F1 css (λi=>if i=m then u.ownBlock.toList else G i):=by
 have hml:m<bs.length:=(Ae.1 hm).1
 have hG:G m=[]:=hb.non m λk hk=>by rw[hm]at hk;cases hk
 have hin:∀i b,b∈G i->b∉u.ownBlock.toList:=λi b hbi hbu=>hn b hbu ((hb.mem b).2 (.inr ⟨i,hbi⟩))
 refine⟨hb.sl,by rw[Di];exact hb.len,hb.row,λi v hi=>?_,λi k hi=>?_,λi hi=>?_,λi j b hij hbi=>?_,λi b hbi=>?_,λb=>?_⟩
 ·rw[Be]at hi
  by_cases e:m=i
  ·subst e;rw[if_pos rfl,if_pos hml]at hi;cases hi
  ·rw[if_neg e]at hi;exact hb.pin i v hi
 ·rw[Be]at hi
  by_cases e:m=i
  ·subst e;rw[if_pos rfl,if_pos hml]at hi;cases hi
   exact⟨u,hb.pin m u hm,hs,by simp only[if_pos]⟩
  ·rw[if_neg e]at hi
   obtain⟨u2,g1,g2,g3⟩:=hb.box i k hi
   exact⟨u2,g1,g2,(if_neg (λh=>e h.symm)).trans g3⟩
 ·by_cases e:i=m
  ·subst e
   exact absurd (by rw[Be,if_pos rfl,if_pos hml]) (hi l)
  ·simp only[if_neg e]
   refine hb.non i λk hk=>hi k ?_
   rw[Be,if_neg (λh=>e h.symm)];exact hk
 ·by_cases e:i=m
  ·simp only[e,if_pos]at hbi
   have e2:j≠m:=λe2=>hij (e.trans e2.symm)
   simp only[if_neg e2];exactλh=>hin j b h hbi
  ·simp only[if_neg e]at hbi
   by_cases e2:j=m
   ·simp only[e2,if_pos];exact hin i b hbi
   ·simp only[if_neg e2];exact hb.dis i j b hij hbi
 ·by_cases e:i=m
  ·simp only[e,if_pos]at hbi;exactλh=>hn b hbi ((hb.mem b).2 (.inl h))
  ·simp only[if_neg e]at hbi;exact hb.out i b hbi
 ·rw[hF,hb.mem]
  constructor
  ·rintro((h|⟨i,hi⟩)|h)
   ·exact .inl h
   ·refine .inr ⟨i,?_⟩
    have e:i≠m:=λe=>by rw[e,hG]at hi;cases hi
    simp only[if_neg e];exact hi
   ·exact .inr ⟨m,by simp only[if_pos];exact h⟩
  ·rintro(h|⟨i,hi⟩)
   ·exact .inl (.inl h)
   ·by_cases e:i=m
    ·simp only[e,if_pos]at hi;exact .inr hi
    ·simp only[if_neg e]at hi;exact .inl (.inr ⟨i,hi⟩)
theorem BoxR.over {bs:List Bx} {v:Value} {F:List Nat} {css:List (List Value)} {G:Nat->List Nat}(hb:BoxR E1 E2 bs w v F css G) {m:Nat}(hm:m<bs.length) {u:Value}(hu:u.oneCell'=true) {g l c:Nat}(hv:v=.slice (some ⟨g,0,none⟩) l c)(ht:Tch [g] w w')(hs:Sl E1 1 id w' v (css.set m [u])):
  ∃F1,(∀b∈F1,b∈F)/\BoxR E1 E2 (bs.set m (.pin u)) w' v F1 (css.set m [u]) (λi=>if i=m then[]else G i):=by
 have hl:=hb.len
 refine⟨F.filter (λb=>decide (b∉G m)),λb h=>(A0.1 h).1,hs,by rw[Di,Di];exact hl,λx hx=>?_,λi z hi=>?_,λi k hi=>?_,λi hi=>?_,λi j b hij hbi=>?_,λi b hbi=>?_,λb=>?_⟩
 ·rcases KK hx with hx|rfl
  ·exact hb.row x hx
  ·exact⟨rfl,by simpa using hu⟩
 ·rw[Be]at hi⊢
  by_cases e:m=i
  ·subst e;rw[if_pos rfl,if_pos hm]at hi;cases hi
   rw[if_pos rfl,if_pos (by omega)]
  ·rw[if_neg e]at hi⊢;exact hb.pin i z hi
 ·rw[Be]at hi
  by_cases e:m=i
  ·subst e;rw[if_pos rfl,if_pos hm]at hi;cases hi
  ·rw[if_neg e]at hi
   obtain⟨u2,g1,g2,g3⟩:=hb.box i k hi
   refine⟨u2,by rw[Be,if_neg e];exact g1,g2.keep ht (λb hbb hm=>?_),(if_neg (λh=>e h.symm)).trans g3⟩
   have:b=g:=by simpa using hm
   subst this
   exact hb.out i b (by rw[g3,hbb];simp) (by rw[hv];rfl)
 ·by_cases e:i=m
  ·simp[e]
  ·simp only[if_neg e]
   refine hb.non i λk hk=>hi k ?_
   rw[Be,if_neg (λh=>e h.symm)];exact hk
 ·by_cases e:i=m
  ·simp only[e,if_pos]at hbi;cases hbi
  ·simp only[if_neg e]at hbi
   by_cases e2:j=m
   ·simp[e2]
   ·simp only[if_neg e2];exact hb.dis i j b hij hbi
 ·by_cases e:i=m
  ·simp only[e,if_pos]at hbi;cases hbi
  ·simp only[if_neg e]at hbi;exact hb.out i b hbi
 ·rw[A0,hb.mem]
  simp only[decide_eq_true_eq]
  constructor
  ·rintro⟨h|⟨i,hi⟩,hn⟩
   ·exact .inl h
   ·refine .inr ⟨i,?_⟩
    have e:i≠m:=λe=>hn (e▸hi)
    simp only[if_neg e];exact hi
  ·rintro(h|⟨i,hi⟩)
   ·exact⟨.inl h,λhn=>hb.out m b hn h⟩
   ·by_cases e:i=m
    ·simp only[e,if_pos]at hi;cases hi
    ·simp only[if_neg e]at hi
     exact⟨.inr ⟨i,hi⟩,hb.dis i m b e hi⟩
end
end Go.Sx
end
section
namespace Go.Sx
open Go Go.RowKit Go.Reg
inductive Bg(ν:Type)
 |here (y:ν)
 |pin
inductive Bp(κ:Type)
 |off
 |it (r:Nat) (todo:List (κ×Value))
 |on (r:Nat) (todo:List (κ×Value)) (p:κ×Value)
def Bp.rb {κ:Type}:Bp κ->List Nat
 |.off=>[]
 |.it r _=>[r]
 |.on r _ _=>[r]
def Bp.At {P:Program} {κ:Type} [DecidableEq κ](M:MapE P κ Value)(w:World)(b:Nat)(m:List (κ×Value)):Bp κ->Prop
 |.off=>CK M.encK M.encV w b m
 |.it r todo=>Ex M.encK M.encV w r b m todo
 |.on r todo p=>LH M.encK M.encV w r b m todo p
section
variable {P:Program} {κ:Type} [DecidableEq κ] {M:MapE P κ Value} {w w':World} {S:List Nat} {b:Nat} {m:List (κ×Value)} {p:Bp κ}
theorem Bp.At.keep(h:p.At M w b m)(t:Tch S w w')(hr:∀x∈p.rb,x∉S)(hb:b∉S):p.At M w' b m:=by
 cases p with
 |off=>exact CK.keep h t hb
 |it r todo=>exact Ex.keep h t (hr r (As.2 rfl)) hb
 |on r todo q=>exact LH.keep h t (hr r (As.2 rfl)) hb
theorem Bp.At.mapAt(h:p.At M w b m):CK M.encK M.encV w b m:=by
 cases p with
 |off=>exact h
 |it r todo=>exact Ex.mapAt h
 |on r todo q=>exact Ex.mapAt (LH.iter h)
theorem Bp.At.rlt(h:p.At M w b m):∀x∈p.rb,x<w.heap.size:=by
 cases p with
 |off=>intro x hx;cases hx
 |it r todo=>intro x hx;rw[As.1 hx];exact Ex.lt h
 |on r todo q=>intro x hx;rw[As.1 hx];exact Ex.lt (LH.iter h)
end
structure BagR {P:Program} {κ ν:Type} [DecidableEq κ](M:MapE P κ Value)(A:ν->Absn)(p:Bp κ)(m:List (κ×Value))(bs:List (Bg ν))(w:World)(v:Value)(F:List Nat)(b:Nat)(G:Nat->List Nat):Prop where
 val:v=.map (some b)
 len:bs.length=m.length
 map:p.At M w b m
 here:∀i y,bs[i]? =some (.here y)->∃q u,m[i]? =some (q,u)/\(A y).R w u (G i)
 none:∀i,(∀y,bs[i]? ≠some (.here y))->G i=[]
 nb:∀i,b∉G i
 nr:∀x∈p.rb,∀i,x∉G i
 disj:∀i j x,i≠j->x∈G i->x∉G j
 mem:∀x,x∈F↔x=b\/x∈p.rb\/∃i,x∈G i
def AA4 {P:Program} {κ ν:Type} [DecidableEq κ](M:MapE P κ Value)(A:ν->Absn)(p:Bp κ)(m:List (κ×Value))(bs:List (Bg ν)):Absn where
 R w v F:=∃b G,BagR M A p m bs w v F b G
 keep:=by
  rintro S w w' v F ⟨b,G,h⟩ t hd
  exact⟨b,G,h.val,h.len,h.map.keep t (λx hx=>hd x ((h.mem x).2 (.inr (.inl hx)))) (hd b ((h.mem b).2 (.inl rfl))),λi y hi=>by
   obtain⟨q,u,h1,h2⟩:=h.here i y hi
   exact⟨q,u,h1,(A y).keep S w w' u (G i) h2 t (λx hx=>hd x ((h.mem x).2 (.inr (.inr ⟨i,hx⟩))))⟩,h.none,h.nb,h.nr,h.disj,h.mem⟩
 lt:=by
  rintro w v F ⟨b,G,h⟩ x hx
  rcases(h.mem x).1 hx with rfl|hx|⟨i,hx⟩
  ·exact h.map.mapAt.lt
  ·exact h.map.rlt x hx
  ·cases hb:bs[i]? with
   |none=>rw[h.none i (λy e=>by rw[hb]at e;cases e)]at hx;cases hx
   |
    some z=>
    cases z with
    |pin=>rw[h.none i (λy e=>by rw[hb]at e;cases e)]at hx;cases hx
    |
     here y=>
     obtain⟨q,u,_,h2⟩:=h.here i y hb
     exact(A y).lt w u (G i) h2 x hx
 one:=by rintro w v F ⟨b,G,h⟩;rw[h.val];rfl
abbrev KC {P:Program} {κ ν:Type} [DecidableEq κ](M:MapE P κ Value)(A:ν->Absn)(m:List (κ×Value))(bs:List (Bg ν)):Absn:=AA4 M A .off m bs
section
variable {C:Cx} {T:Hb} {n kd:Nat} {fr:Fr} {σ:Sg} {o:Oper} {K:Fr->Sg->Prop} {κ ν:Type} [DecidableEq κ] {M:MapE C.P κ Value} {A:ν->Absn} {p:Bp κ} {m:List (κ×Value)} {bs:List (Bg ν)} {w:World}
theorem XY {B S:List Nat} {w0:World} {η:Nat->Value} {φ:Nat->List Nat}(hm:Mem C B S w0 σ η φ w) {i:Nat}(hg:BJ i σ=some (AA4 M A p m bs).own):∃b G,BagR M A p m bs w (η i) (φ i) b G:=hm.own _ (AT hg)
theorem BagR.take {v:Value} {F:List Nat} {b:Nat} {G:Nat->List Nat}(h:BagR M A p m bs w v F b G) {k:Nat} {y:ν}(hk:bs[k]? =some (.here y)) {F1:List Nat}(hF:∀x,x∈F1↔x∈F/\x∉G k):
  BagR M A p m (bs.set k .pin) w v F1 b (λi=>if i=k then[]else G i):=by
 have hkl:k<bs.length:=(Ae.1 hk).1
 refine⟨h.val,by rw[Di];exact h.len,h.map,λi z hi=>?_,λi hi=>?_,λi=>?_,λx hx i=>?_,λi j x hij hx=>?_,λx=>?_⟩
 ·rw[Be]at hi
  by_cases e:k=i
  ·subst e;rw[if_pos rfl,if_pos hkl]at hi;cases hi
  ·rw[if_neg e]at hi
   obtain⟨q,u,h1,h2⟩:=h.here i z hi
   exact⟨q,u,h1,by rw[if_neg (λe2=>e e2.symm)];exact h2⟩
 ·by_cases e:i=k
  ·rw[if_pos e]
  ·rw[if_neg e]
   refine h.none i λz hz=>hi z ?_
   rw[Be,if_neg (λe2=>e e2.symm)];exact hz
 ·by_cases e:i=k
  ·rw[if_pos e];exact CS
  ·rw[if_neg e];exact h.nb i
 ·by_cases e:i=k
  ·rw[if_pos e];exact CS
  ·rw[if_neg e];exact h.nr x hx i
 ·by_cases e:i=k
  ·rw[if_pos e]at hx;cases hx
  ·rw[if_neg e]at hx
   by_cases e2:j=k
   ·rw[if_pos e2];exact CS
   ·rw[if_neg e2];exact h.disj i j x hij hx
 ·rw[hF,h.mem]
  constructor
  ·rintro⟨rfl|hx|⟨i,hx⟩,hn⟩
   ·exact .inl rfl
   ·exact .inr (.inl hx)
   ·refine .inr (.inr ⟨i,?_⟩)
    rw[if_neg (λe:i=k=>hn (by rw[<-e];exact hx))];exact hx
  ·rintro(rfl|hx|⟨i,hx⟩)
   ·exact⟨.inl rfl,h.nb k⟩
   ·exact⟨.inr (.inl hx),h.nr x hx k⟩
   ·by_cases e:i=k
    ·rw[if_pos e]at hx;cases hx
    ·rw[if_neg e]at hx
     exact⟨.inr (.inr ⟨i,hx⟩),h.disj i k x e hx⟩
theorem BagR.back {v:Value} {F:List Nat} {b:Nat} {G:Nat->List Nat}(h:BagR M A p m bs w v F b G) {k:Nat} {q:κ} {u:Value}(hk:bs[k]? =some .pin)(hm:m[k]? =some (q,u)) {y:ν} {Fy:List Nat}(hy:(A y).R w u Fy)(hd:∀x∈Fy,x∉F) {F1:List Nat}(hF:∀x,x∈F1↔x∈F\/x∈Fy):
  BagR M A p m (bs.set k (.here y)) w v F1 b (λi=>if i=k then Fy else G i):=by
 have hkl:k<bs.length:=(Ae.1 hk).1
 have hGk:G k=[]:=h.none k λz e=>by rw[hk]at e;cases e
 refine⟨h.val,by rw[Di];exact h.len,h.map,λi z hi=>?_,λi hi=>?_,λi=>?_,λx hx i=>?_,λi j x hij hx=>?_,λx=>?_⟩
 ·rw[Be]at hi
  by_cases e:k=i
  ·subst e;rw[if_pos rfl,if_pos hkl]at hi;cases hi
   exact⟨q,u,hm,by rw[if_pos rfl];exact hy⟩
  ·rw[if_neg e]at hi
   obtain⟨q,u,h1,h2⟩:=h.here i z hi
   exact⟨q,u,h1,by rw[if_neg (λe2=>e e2.symm)];exact h2⟩
 ·by_cases e:i=k
  ·subst e
   exact absurd (by rw[Be,if_pos rfl,if_pos hkl]) (hi y)
  ·rw[if_neg e]
   refine h.none i λz hz=>hi z ?_
   rw[Be,if_neg (λe2=>e e2.symm)];exact hz
 ·by_cases e:i=k
  ·rw[if_pos e];exactλhb=>hd b hb ((h.mem b).2 (.inl rfl))
  ·rw[if_neg e];exact h.nb i
 ·by_cases e:i=k
  ·rw[if_pos e];exactλhb=>hd x hb ((h.mem x).2 (.inr (.inl hx)))
  ·rw[if_neg e];exact h.nr x hx i
 ·by_cases e:i=k
  ·rw[if_pos e]at hx
   rw[if_neg (λe2=>hij (e.trans e2.symm))]
   exactλhj=>hd x hx ((h.mem x).2 (.inr (.inr ⟨j,hj⟩)))
  ·rw[if_neg e]at hx
   by_cases e2:j=k
   ·rw[if_pos e2];exactλhj=>hd x hj ((h.mem x).2 (.inr (.inr ⟨i,hx⟩)))
   ·rw[if_neg e2];exact h.disj i j x hij hx
 ·rw[hF,h.mem]
  constructor
  ·rintro((rfl|hx|⟨i,hx⟩)|hx)
   ·exact .inl rfl
   ·exact .inr (.inl hx)
   ·refine .inr (.inr ⟨i,?_⟩)
    rw[if_neg (λe=>by rw[e,hGk]at hx;cases hx)];exact hx
   ·exact .inr (.inr ⟨k,by rw[if_pos rfl];exact hx⟩)
  ·rintro(rfl|hx|⟨i,hx⟩)
   ·exact .inl (.inl rfl)
   ·exact .inl (.inr (.inl hx))
   ·by_cases e:i=k
    ·rw[if_pos e]at hx;exact .inr hx
    ·rw[if_neg e]at hx;exact .inl (.inr (.inr ⟨i,hx⟩))
theorem ADS(hV:∀v,M.encV v=v)(i j g k:Nat)(q:κ) {u:Value} {y:ν} {x ix:Operand}(ho:o.op=.lookup M.t x ix false)(hx:ev C.Γ fr x=.own i)(hg:BJ i σ=some (KC M A m bs).own)(hix:ev C.Γ fr ix=.d (M.dK q))(hmk:m[k]? =some (q,u))(hget:Reg.get m q=some u)(hb:bs[k]? =some (.here y))(hj:BJ j σ=none)(hgj:BJ g σ=none)(hne:g≠j)(hkd:kd=3)(hd:Dh o.dst n=true)
  (hK:Ch (Fi g (.ghost [u] [.own j]) (Fi j (A y).own (AX id i (KC M A m (bs.set k .pin)).own σ))) λσ=>K (CG o.dst (.own j) fr) σ):Bm C n kd o K fr σ:=by
 subst hkd
 refine CD (by decide) (by decide) λB S w0 η φ a w hM=>⟨λe=>(by cases e),.inl ?_⟩
 obtain⟨b,G,hB⟩:=XY hM.mem hg
 obtain⟨q',u',hmk',hA⟩:=hB.here k y hb
 rw[hmk]at hmk'
 obtain⟨rfl,rfl⟩:q=q'/\u=u':=by simpa using hmk'
 have hi:=AW (AT hg)
 have hj':=CO hj
 have hgj':=CO hgj
 have e1:=FL (Bb hM x) hx
 have e2:=M.repK _ _ _ _ (Ee (Bb hM ix) hix)
 have hr:=hB.map.lookup M.hk M.ht M.hz q false
 have hk:=hK
 rw[Bw]at hk
 let F1:=(φ i).filter (λc=>decide (c∉G k))
 have hF1:∀c,c∈F1↔c∈φ i/\c∉G k:=λc=>by simp only[F1,A0,decide_eq_true_eq]
 obtain⟨hm',hl⟩:=hM.mem.split hi hj' (F1:=F1) (F2:=G k) (v:=u) (o1:=(KC M A m (bs.set k .pin)).own) (o2:=(A y).own) (λc=>by
  rw[hF1]
  by_cases h:c∈G k
  ·exact⟨λ_=>.inr h,λ_=>(hB.mem c).2 (.inr (.inr ⟨k,h⟩))⟩
  ·exact⟨λh2=>.inl ⟨h2,h⟩,λh2=>h2.elim (·.1) (λh3=>absurd h3 h)⟩) (λc hc=>((hF1 c).1 hc).2) (λη' I' O'=>⟨b,_,hB.take hb hF1⟩) (λη' I' O'=>hA)
 have hM2:Models C B S w0 n fr ((j,(A y).own)::AX id i (KC M A m (bs.set k .pin)).own σ) (CE η j u) (CE (CE φ i F1) j (G k)) a w:=
  ⟨hm',hM.fr.later hl (λc hc=>⟨by
   have:=AY id i (KC M A m (bs.set k .pin)).own σ
   unfold BB at this hc⊢
   rw[Ap,this];exact AA _ hc,BV _ _ _ (λe=>hj' (e▸hc))⟩),hM.defers,hM.size⟩
 have hgn:g∉BB ((j,(A y).own)::AX id i (KC M A m (bs.set k .pin)).own σ):=λh=>by
  have:=AY id i (KC M A m (bs.set k .pin)).own σ
  unfold BB at this h hgj'
  rw[Ap,this]at h
  rcases Ai.1 h with h|h
  ·exact hne h
  ·exact hgj' h
 obtain⟨hm3,hl3⟩:=hm'.add (Tch.refl [] w) hgn (v:=.nilFunc) (F:=[]) (o:=.ghost [u] [.own j]) (by simp) ⟨rfl,rfl,[[u]],by
  simp only[AG,AJ]
  refine⟨_,_,rfl,⟨?_,?_⟩,rfl⟩
  ·unfold BB;simp
  ·rw[BV _ _ _ (λe=>hne e.symm),Cj],rfl⟩
 have hM3:Models C B S w0 n fr ((g,.ghost [u] [.own j])::(j,(A y).own)::AX id i (KC M A m (bs.set k .pin)).own σ) (CE (CE η j u) g .nilFunc) (CE (CE (CE φ i F1) j (G k)) g []) a w:=
  ⟨hm3,hM2.fr.later hl3 (λc hc=>⟨AA _ hc,BV _ _ _ (λe=>hgn (e▸hc))⟩),hM.defers,hM.size⟩
 have hM4:=hM3.perm (((CA g (.ghost [u] [.own j]) (Fi j (A y).own (AX id i (KC M A m (bs.set k .pin)).own σ))).trans ((CA j (A y).own (AX id i (KC M A m (bs.set k .pin)).own σ)).cons _)))
 refine⟨u,w,?_,_,_,_,_,hM4.put hd (d:=.own j) ⟨[u],by
  simp only[AJ]
  refine⟨?_,?_⟩
  ·unfold BB
   rw[((CA g _ _).map _).mem_iff,Ap]
   refine AA _ ?_
   rw[((CA j _ _).map _).mem_iff];simp
  ·rw[BV _ _ _ (λe=>hne e.symm),Cj],rfl⟩,hk⟩
 simp only[execOp,ho]
 rw[e1,e2,hB.val]
 rw[hget]at hr
 simp only[Cv,Fh,hV]at hr
 exact CZ hr
theorem QE.bagBack(i j g k:Nat) {q:κ} {u:Value} {y:ν}(hij:i≠j)(hg:BJ i σ=some (AA4 M A p m bs).own)(hb:bs[k]? =some .pin)(hmk:m[k]? =some (q,u))(hj:BJ j σ=some (A y).own)(hgh:BJ g σ=some (.ghost [u] [.own j])):
  QE C fr σ (Fe j .undef fr) (Db (BL j .undef) j (AX id i (AA4 M A p m (bs.set k (.here y))).own σ)):=by
 intro B S w0 w n η φ a hM
 obtain⟨b,G,hB⟩:=XY hM.mem hg
 have hA:(A y).R w (η j) (φ j):=hM.mem.own _ (AT hj)
 have hu:η j=u:=by
  obtain⟨_,_,css,h1,h2⟩:=hM.mem.own _ (AT hgh)
  simp only[AG,AJ]at h1
  obtain⟨c1,c2,rfl,⟨_,rfl⟩,rfl⟩:=h1
  simpa[Cf]using h2.symm
 rw[hu]at hA
 have hi:=AW (AT hg)
 have hj':=AW (AT hj)
 obtain⟨hm',hl⟩:=hM.mem.merge hi hj' hij (F:=φ i++φ j) (λc=>Ag) (r:=AA4 M A p m (bs.set k (.here y))) ⟨b,_,hB.back hb hmk hA (λc hc hc2=>hM.mem.disj j hj' i hi (λe=>hij e.symm) c hc hc2) (λc=>Ag)⟩
 refine⟨_,_,hm',hM.fr.kill rfl hl (λc hc hcj=>⟨?_,rfl⟩) (RepC.undef_ex _ _ _),hM.defers,hM.size⟩
 rw[DI,AY,A0]
 exact⟨hc,by simpa using hcj⟩
theorem BagR.more {v:Value} {F:List Nat} {b:Nat} {G:Nat->List Nat} {w':World}(h:BagR M A .off m bs w v F b G)(t:Tch [b] w w') {q:κ} {u:Value}(hm:CK M.encK M.encV w' b (m++[(q,u)])):BagR M A .off (m++[(q,u)]) (bs++[.pin]) w' v F b G:=by
 refine⟨h.val,by rw[Ah,Ah,h.len];rfl,hm,λi z hi=>?_,λi hi=>?_,h.nb,h.nr,h.disj,h.mem⟩
 ·have hil:i<bs.length:=by
   apply ER
   intro hn
   rw[Bu (by omega)]at hi
   rcases Nat.eq_zero_or_pos (i-bs.length)with e|e
   ·rw[e]at hi;cases hi
   ·rw[AI (by simp;omega)]at hi;cases hi
  rw[Bo hil]at hi
  obtain⟨q',u',h1,h2⟩:=h.here i z hi
  exact⟨q',u',by rw[Bo (by rw[<-h.len];exact hil)];exact h1,(A z).keep _ _ _ _ _ h2 t (λx hx hb=>h.nb i (by rw[<-As.1 hb];exact hx))⟩
 ·refine h.none i λz hz=>hi z ?_
  rw[Bo (Ae.1 hz).1];exact hz
theorem AE1(i j:Nat)(q:κ) {y:ν} {x ix vx:Operand}(ho:o.op=.mapUpdate M.t x ix vx)(hV:∀v,M.encV v=v)(hx:ev C.Γ fr x=.own i)(hg:BJ i σ=some (KC M A m bs).own)(hix:ev C.Γ fr ix=.d (M.dK q))(hv:ev C.Γ fr vx=.own j)(hget:∀u,Reg.put m q u=m++[(q,u)])(hj:BJ j σ=some (A y).own)(hij:i≠j)(hkd:kd=3)(hd:Dh o.dst n=true)
  (hK:∀u,Ge (Fe j .undef fr) λfr=>Ch (Db (BL j .undef) j (AX id i (KC M A (m++[(q,u)]) (bs++[.here y])).own σ)) λσ=>K (CG o.dst (.d .undef) fr) σ):Bm C n kd o K fr σ:=by
 subst hkd
 refine CD (by decide) (by decide) λB S w0 η φ a w hM=>⟨λe=>(by cases e),.inr ?_⟩
 have e1:=FL (Bb hM x) hx
 have e2:=M.repK _ _ _ _ (Ee (Bb hM ix) hix)
 have e3:=FL (Bb hM vx) hv
 obtain⟨b,G,h⟩:=XY hM.mem hg
 have hA:(A y).R w (η j) (φ j):=hM.mem.own _ (AT hj)
 have hk:=hK (η j)
 rw[Eg,Bw]at hk
 obtain⟨w',hr,hm',ht⟩:=h.map.update M.hk M.ht q (η j)
 rw[hget]at hm'
 have hi:=AW (AT hg)
 have hj':=AW (AT hj)
 have hX:∀c∈[b],c∈φ i:=λc hc=>by rw[As.1 hc];exact(h.mem b).2 (.inl rfl)
 have hF:∀c∈φ i,c∈φ i\/w.heap.size<=c:=λc hc=>.inl hc
 have hB1:=h.more ht hm'
 have hl1:=Later.turn (σ:=σ) B ht hX hi hF id (KC M A (m++[(q,η j)]) (bs++[.pin])).own
 have hm1:=hM.mem.turnSame (o:=(KC M A (m++[(q,η j)]) (bs++[.pin])).own) ht hX hi hF ⟨b,G,hB1⟩
 have hids1:=AY id i (KC M A (m++[(q,η j)]) (bs++[.pin])).own σ
 have hbj:b∉φ j:=hM.mem.disj i hi j hj' hij b (hX b (by simp))
 have hA':(A y).R w' (η j) (φ j):=(A y).keep _ _ _ _ _ hA ht (λc hc hb=>hbj (by rw[<-As.1 hb];exact hc))
 have hji:CE φ i (φ i) j=φ j:=BV _ _ _ (Ne.symm hij)
 have hB2:=hB1.back (k:=bs.length) (q:=q) (u:=η j) (y:=y) (by rw[Bu (Ay _),Dy];rfl) (by rw[h.len,Bu (Ay _),Dy];rfl) hA' (λc hc hc2=>hM.mem.disj j hj' i hi (λe=>hij e.symm) c hc hc2) (F1:=φ i++φ j) (λc=>Ag)
 have ebs:(bs++[Bg.pin]).set bs.length (.here y)=bs++[Bg.here y]:=by rw[Ju _ _ (Ay _),Dy];rfl
 rw[ebs]at hB2
 obtain⟨hm2,hl2⟩:=hm1.merge (i:=i) (j:=j) (by rw[hids1];exact hi) (by rw[hids1];exact hj') hij (F:=φ i++φ j) (λc=>by rw[Cj,hji,Ag]) (r:=KC M A (m++[(q,η j)]) (bs++[.here y])) ⟨b,_,hB2⟩
 have hst:=LP i (KC M A (m++[(q,η j)]) (bs++[.pin])).own (KC M A (m++[(q,η j)]) (bs++[.here y])).own σ
 rw[hst]at hm2 hl2
 refine⟨w',?_,_,_,_,_,Models.put ⟨hm2,?_,hM.defers,hM.size⟩ hd ⟨[Go.undef],by simp[AJ,RepC],rfl⟩,hk⟩
 ·simp only[execOp,ho]
  rw[e1,e2,e3,h.val]
  rw[hV]at hr
  exact Wk hr
 ·have hf1:HD η (BB (AX id i (KC M A (m++[(q,η j)]) (bs++[.pin])).own σ)) (B++Ao (CE φ i (φ i)) (AX id i (KC M A (m++[(q,η j)]) (bs++[.pin])).own σ)) w' fr a:=hM.fr.later hl1 (λk hk=>⟨by rw[hids1];exact hk,rfl⟩)
  refine hf1.kill rfl hl2 (λk hk hkj=>⟨?_,rfl⟩) (RepC.undef_ex _ _ _)
  rw[DI,AY,A0]
  rw[hids1]at hk
  exact⟨hk,by simpa using hkj⟩
theorem qY {t ty:TypeId} {x:Operand} {a0:Addr} {e0:TyI}(hC:C.Ok T)(he:GL t T=some e0)(hk1:e0.kd=1)(ho:o.op=.binOp .eql t x (.const (.pointer none)) ty)(hx:ev C.Γ fr x=.d (.raw (.pointer (some a0))))(hkd:kd=3)(hd:Dh o.dst n=true)
  (hK:K (CG o.dst (.d (.bool false)) fr) σ):Bm C n kd o K fr σ:=by
 subst hkd
 refine BR (by decide) (by decide) hd λB S w0 η φ a w hM=>?_
 obtain⟨cs,r,e⟩:=Ee (Bb hM x) hx
 simp only[RepC]at r
 subst r
 have e:a.eval x=.pointer (some a0):=e
 refine .inr ⟨_,.bool false,hK,?_,⟨[.bool false],by simp[AJ,RepC],rfl⟩,λh=>by cases h⟩
 simp only[execOp,ho]
 rw[e]
 refine CZ ?_
 have h2:=R7 (hC.ty he) (b:=false) (vx:=.pointer (some a0)) (vy:=.pointer none) (w:=w) (.inr ⟨rfl,by rw[hk1];exact⟨_,rfl⟩⟩) (by rw[hk1];rfl)
 simp[eqGuard,binOp,Act.eval,h2]
end
end Go.Sx
end
section
namespace Go.Sx
open Go Go.RowKit Go.Reg
section
variable {C:Cx} {σ:Sg} {B S:List Nat} {w0 w:World} {η:Nat->Value} {φ:Nat->List Nat}
theorem Mem.splitD(h:Mem C B S w0 σ η φ w) {i j:Nat}(hi:i∈BB σ)(hj:j∉BB σ) {F1 F2:List Nat}(hF:∀b,b∈φ i↔b∈F1\/b∈F2)(hd:∀b∈F1,b∉F2) {v:Value} {o1 o2:Own}
  (h1:∀η' I' O',Later (B++Ao φ σ) w O' w->(∀k∈BB σ,k∈I'/\η' k=η k)->(j∈I'/\η' j=v)->o1.holds η' I' O' w (η i) F1) (h2:∀η' I' O',Later (B++Ao φ σ) w O' w->(∀k∈BB σ,k∈I'/\η' k=η k)->(j∈I'/\η' j=v)->o2.holds η' I' O' w v F2):
  Mem C B S w0 ((j,o2)::AX id i o1 σ) (CE η j v) (CE (CE φ i F1) j F2) w/\Later (B++Ao φ σ) w (B++Ao (CE (CE φ i F1) j F2) ((j,o2)::AX id i o1 σ)) w:=by
 have hij:i≠j:=λe=>hj (e▸hi)
 have e1:CE (CE φ i F1) j F2 i=F1:=by rw[BV _ _ _ hij,Cj]
 have e2:CE (CE φ i F1) j F2 j=F2:=Cj _ _ _
 have e3:∀k,k≠i->k≠j->CE (CE φ i F1) j F2 k=φ k:=λk a b=>by rw[BV _ _ _ b,BV _ _ _ a]
 have hids:BB ((j,o2)::AX id i o1 σ)=j::BB σ:=by
  have:=AY id i o1 σ
  unfold BB at this⊢
  rw[Ap,this]
 have hne:∀k∈BB σ,k≠j:=λk hk e=>hj (e▸hk)
 have hsub:∀k∈BB σ,∀b∈CE (CE φ i F1) j F2 k,b∈φ k:=λk hk b hb=>by
  by_cases e:k=i
  ·subst e;rw[e1]at hb;exact(hF b).2 (.inl hb)
  ·rw[e3 k e (hne k hk)]at hb;exact hb
 have hO:∀b,b∈B++Ao (CE (CE φ i F1) j F2) ((j,o2)::AX id i o1 σ)↔b∈B++Ao φ σ:=λb=>by
  simp only[Ag,Ta,hids,Ai]
  refine or_congr SD ⟨?_,?_⟩
  ·rintro⟨k,rfl|hk,hb⟩
   ·rw[e2]at hb;exact⟨i,hi,(hF b).2 (.inr hb)⟩
   ·exact⟨k,hk,hsub k hk b hb⟩
  ·rintro⟨k,hk,hb⟩
   by_cases e:k=i
   ·subst e
    rcases(hF b).1 hb with hb|hb
    ·exact⟨k,.inr hk,by rw[e1];exact hb⟩
    ·exact⟨j,.inl rfl,by rw[e2];exact hb⟩
   ·exact⟨k,.inr hk,by rw[e3 k e (hne k hk)];exact hb⟩
 have hl:Later (B++Ao φ σ) w (B++Ao (CE (CE φ i F1) j F2) ((j,o2)::AX id i o1 σ)) w:=⟨Ay _,λ_ _ _=>rfl,λb hn _ hm=>hn ((hO b).1 hm)⟩
 have hI:∀k∈BB σ,k∈BB ((j,o2)::AX id i o1 σ)/\CE η j v k=η k:=λk hk=>⟨by rw[hids];exact AA _ hk,BV _ _ _ (hne k hk)⟩
 have hJ:j∈BB ((j,o2)::AX id i o1 σ)/\CE η j v j=v:=⟨by rw[hids];simp,Cj _ _ _⟩
 refine⟨⟨h.tch,?_,?_,?_,?_,h.out,λg hg=>(h.glob g hg).later hl⟩,hl⟩
 ·intro p hp
  rcases Ai.1 hp with rfl|hp
  ·simp only[Cj];exact h2 _ _ _ hl hI hJ
  ·rcases Gt hp with rfl|⟨q,hq,hqi,rfl⟩
   ·simp only[e1,BV _ _ _ hij];exact h1 _ _ _ hl hI hJ
   ·have hqj:=hne q.1 (AW hq)
    simp only[e3 q.1 hqi hqj,BV _ _ _ hqj]
    exact(h.own q hq).later hl (λk hk=>⟨by rw[hids];exact AA _ hk,BV _ _ _ (hne k hk)⟩) (Tch.refl [] w) (λ_ _=>by simp)
 ·rw[hids];exact Cp.2 ⟨hj,h.nodup⟩
 ·intro k hk m hm hkm b hb1 hb2
  rw[hids]at hk hm
  rcases Ai.1 hk with ek|hk<;>rcases Ai.1 hm with em|hm
  ·exact hkm (ek.trans em.symm)
  ·rw[ek,e2]at hb1
   by_cases e:m=i
   ·rw[e,e1]at hb2;exact hd b hb2 hb1
   ·exact h.disj m hm i hi e b (hsub m hm b hb2) ((hF b).2 (.inr hb1))
  ·rw[em,e2]at hb2
   by_cases e:k=i
   ·rw[e,e1]at hb1;exact hd b hb1 hb2
   ·exact h.disj k hk i hi e b (hsub k hk b hb1) ((hF b).2 (.inr hb2))
  ·exact h.disj k hk m hm hkm b (hsub k hk b hb1) (hsub m hm b hb2)
 ·intro k hk b hb
  rw[hids]at hk
  rcases Ai.1 hk with ek|hk
  ·rw[ek,e2]at hb;exact h.new i hi b ((hF b).2 (.inr hb))
  ·exact h.new k hk b (hsub k hk b hb)
theorem Mem.mergeD(h:Mem C B S w0 σ η φ w) {i j:Nat}(hi:i∈BB σ)(hj:j∈BB σ)(hij:i≠j) {F:List Nat}(hF:∀b,b∈F↔b∈φ i\/b∈φ j) {r:Own}(hr:BL j .undef r=r)(h1:∀I' O',Later (B++Ao φ σ) w O' w->(∀k∈BB σ,k≠j->k∈I')->r.holds η I' O' w (η i) F):
  Mem C B S w0 (Db (BL j .undef) j (AX id i r σ)) η (CE φ i F) w/\Later (B++Ao φ σ) w (B++Ao (CE φ i F) (Db (BL j .undef) j (AX id i r σ))) w:=by
 have hids:BB (Db (BL j .undef) j (AX id i r σ))=(BB σ).filter (· !=j):=by rw[DI,AY]
 have hin:∀k,k∈BB (Db (BL j .undef) j (AX id i r σ))↔k∈BB σ/\k≠j:=λk=>by rw[hids,A0];simp
 have e3:∀k,k≠i->CE φ i F k=φ k:=λk a=>BV _ _ _ a
 have hO:∀b,b∈B++Ao (CE φ i F) (Db (BL j .undef) j (AX id i r σ))↔b∈B++Ao φ σ:=λb=>by
  simp only[Ag,Ta,hin]
  refine or_congr SD ⟨?_,?_⟩
  ·rintro⟨k,⟨hk,hkj⟩,hb⟩
   by_cases e:k=i
   ·subst e;rw[Cj]at hb
    rcases(hF b).1 hb with hb|hb
    ·exact⟨k,hk,hb⟩
    ·exact⟨j,hj,hb⟩
   ·rw[e3 k e]at hb;exact⟨k,hk,hb⟩
  ·rintro⟨k,hk,hb⟩
   by_cases e:k=i
   ·subst e;exact⟨k,⟨hk,hij⟩,by rw[Cj];exact(hF b).2 (.inl hb)⟩
   ·by_cases e2:k=j
    ·subst e2;exact⟨i,⟨hi,hij⟩,by rw[Cj];exact(hF b).2 (.inr hb)⟩
    ·exact⟨k,⟨hk,e2⟩,by rw[e3 k e];exact hb⟩
 have hl:Later (B++Ao φ σ) w (B++Ao (CE φ i F) (Db (BL j .undef) j (AX id i r σ))) w:=⟨Ay _,λ_ _ _=>rfl,λb hn _ hm=>hn ((hO b).1 hm)⟩
 have hcov:∀k,k∈BB σ->k≠j->∀b∈CE φ i F k,b∈φ k\/(k=i/\b∈φ j):=λk hk _ b hb=>by
  by_cases e:k=i
  ·subst e;rw[Cj]at hb
   rcases(hF b).1 hb with hb|hb
   ·exact .inl hb
   ·exact .inr ⟨rfl,hb⟩
  ·rw[e3 k e]at hb;exact .inl hb
 refine⟨⟨h.tch,?_,?_,?_,?_,h.out,λg hg=>(h.glob g hg).later hl⟩,hl⟩
 ·intro p hp
  obtain⟨q,hq,hqj,rfl⟩:=Fc hp
  rcases Gt hq with rfl|⟨q',hq',hqi,rfl⟩
  ·simp only[Cj]
   show(BL j .undef r).holds η _ _ w (η i) F
   rw[hr];exact h1 _ _ hl (λk hk hkj=>(hin k).2 ⟨hk,hkj⟩)
  ·simp only[e3 q'.1 hqi]
   exact(h.own q' hq').kill rfl hl (λk hk hkj=>⟨(hin k).2 ⟨hk,hkj⟩,rfl⟩) (RepC.undef_ex _ _ _) (Tch.refl [] w) (λ_ _=>by simp)
 ·rw[hids];exact h.nodup.filter _
 ·intro k hk m hm hkm b hb1 hb2
  obtain⟨hk,hkj⟩:=(hin k).1 hk
  obtain⟨hm,hmj⟩:=(hin m).1 hm
  rcases hcov k hk hkj b hb1 with g1|⟨e1,g1⟩<;>rcases hcov m hm hmj b hb2 with g2|⟨e2,g2⟩
  ·exact h.disj k hk m hm hkm b g1 g2
  ·exact h.disj k hk j hj hkj b g1 g2
  ·exact h.disj m hm j hj hmj b g2 g1
  ·exact hkm (e1.trans e2.symm)
 ·intro k hk b hb
  obtain⟨hk,hkj⟩:=(hin k).1 hk
  rcases hcov k hk hkj b hb with g1|⟨_,g1⟩
  ·exact h.new k hk b g1
  ·exact h.new j hj b g1
end
end Go.Sx
end
