/- Merged: Lvq Pgo Pgq Lve Lmd Rft Rfu Rfl Lgg Tbl Ltb Afa Imc Ime Mna Imd Mra Nst Bag Spd Bad. -/
import Derived.Test.YtjpmmkodoeipmaaGreatDoorrkaw
import Derived.Test.YtjpmmkodoeipmaaGreatDoorrkat
import Derived.Test.YtjpmmkodoeipmaaGreatDoorrkav
import Derived.Test.YtjpmmkodoeipmaaGreatDoorrkau
import Derived.Test.YtjpmmkodoeipmaaGreatDoorrkar
section
namespace Go.Proofs.YtjpmmkodoeipmaaGreatDoor
open Go.Sx Go.RowKit Go.Reg Go.Gr
set_option maxRecDepth 100000
def zA:ByteArray:=⟨#[108,105,115,116,115]⟩
def lN(w:Gr)(ps:List Int->Bool)(D:Nat)(most:Int):Da:=if(JO w ps D:Int)<=max most 0 then .tuple [.list 1 ((Ed w ps D).map QG),.nili]else .tuple [.nils,dF 13 0 zA]
section
variable {G:Gr} {e:Bool} {d:Int} {l:List Opp}
theorem pI {w:Gr} {ps:List Int->Bool} {k:Nat}(h:C8 w ps k=[]):∀{D:Nat},k<=D->JO w ps D=JO w ps k:=by
 intro D hD
 induction D with
 |zero=>rw[show k=0 by omega]
 |
  succ D ih=>
  rcases BL D k with hk|hk
  ·rw[show D+1=k by omega]
  ·rw[Kg,ih hk,Oy h D hk];rfl
def lV:List FuncId:=[18,19,21]
theorem eW(h:JobOk G e d l)(most:Int):Pure C1 7 [dJ G e d l,.int .i64 most] (λz=>z=lN (CD G e) (Jz G e l) d.toNat most):=by
 have hs:=gE h
 have hw:=On h
 have hgr:∀X:List Int,X.length<=900->Pure C1 21 [dJ G e d l,dG (CD G e),Bn X] (λz=>z=QG (Ha (CD G e) (Jz G e l) X)):=λX hX=>jK h X hX
 have hok:=IW h.ok (by have:=h.n;omega) h.m e
 have hsm:=Nf h
 have hd:=h.d
 clear h
 obtain⟨D,rfl⟩:=A6 (show 0<=d by omega)
 rw[AY]
 generalize CD G e=w at hs hw hgr hok hsm⊢
 generalize Jz G e l=ps at hs hgr⊢
 have hrl:∀k,(C8 w ps k).length<=256:=λk=>BH (Uf hok ps k) (BH (JZ (by decide) hsm) (by decide))
 have hfew:∀m,m<=8->JO w ps m<=2048:=λm hm=>Ze hok ps hsm hm
 refine AW Tryz.func7 Tryz.ntmps7 lV [] ?_
 (conv=>whnf)
 (repeat' ((first|refine Aj ?_ ?_|refine Af rfl hs ?_|refine Af rfl hw ?_|refine nx ?_|refine AD (λ_=>?_) (λ_=>?_)|exact AG)<;>conv=>whnf))
 refine AR (ι:=Nat) (λk=>k<D/\(∀j,j<k->C8 w ps j≠[])/\(JO w ps k:Int)<=max most 0) (λk=>[(11,.d (.int .i64 (JO w ps k:Nat))),(10,.own 300),(8,.d (dG w)),(6,.d (QG (C8 w ps k))),(2,.own 2),(1,.d (.int .i64 most))]) (λk=>[(2,.cells 43 [.d (dG G),.d (.bool e),.d (.int .i64 (D:Int)),.d (Ka l)]),(300,.slice 46 1 (((List.range k).map (C8 w ps)).map QG))]) (λk=>D-k) 0 (λ_=>rfl) ⟨by omega,λj hj=>absurd hj (Nat.not_lt_zero _),by rw[show JO w ps 0=0 from rfl];omega⟩
  (.own 10 300 46 1 rfl rfl (.refl _ _)) ⟨rfl,rfl,rfl,rfl,rfl,rfl,trivial⟩ ⟨rfl,rfl,trivial⟩ ?_
 rintro k ⟨hkD,hne,hsum⟩
 refine Cd lV [] ?_
 have hRl:=hrl k
 have hdl:((C8 w ps k).map Bn).length=(C8 w ps k).length:=Ac _
 have hk8:=hfew (k+1) (by omega)
 have hst:=Kg w ps k
 have hOl:(((List.range k).map (C8 w ps)).map QG).length=k:=by rw[Ac,Ac,D9]
 have hrg:(List.range k).length=k:=D9
 have hO1:((List.range (k+1)).map (C8 w ps)).map QG=((List.range k).map (C8 w ps)).map QG++[QG (C8 w ps k)]:=by rw[D1,A7,A7];rfl
 have hO2:(((List.range k).map (C8 w ps)).map QG++[QG (C8 w ps k)]).length=k+1:=by rw[Ah,hOl];rfl
 by_cases hR:C8 w ps k=[]
 ·have eS:=pI hR (Nat.le_of_lt hkD)
  have eR:Ed w ps D=(List.range k).map (C8 w ps):=by rw[Ud hR (Nat.le_of_lt hkD),GS hne]
  unfold lN
  rw[eS,if_pos hsum,eR]
  rw[hR]
  have hd0:(List.map Bn ([]:List (List Int))).length=0:=rfl
  ((conv=>whnf);repeat' ((first|refine odw ?_|refine nx ?_|refine AD (λ_=>?_) (λ_=>?_))<;>conv=>whnf))
  exact rfl
 have hR0:(C8 w ps k).length≠0:=λe=>hR (AJ e)
 by_cases hm:(JO w ps (k+1):Int)<=max most 0
 ·by_cases hl:k+1=D
  ·have eR:Ed w ps D=(List.range (k+1)).map (C8 w ps):=by
    rw[<-hl]
    exact GS λj hj=>by
     rcases BL j k with g|g
     ·exact hne j g
     ·rw[show j=k by omega];exact hR
   unfold lN
   rw[if_pos (by rw[<-hl];exact hm),eR,hO1]
   ((conv=>whnf);repeat' ((first|refine odw ?_|refine nx ?_|refine AD (λ_=>?_) (λ_=>?_))<;>conv=>whnf))
   exact rfl
  ·have hst2:(JO w ps k:Int)+(((C8 w ps k).map Bn).length:Int)=(JO w ps (k+1):Nat):=by rw[hdl,hst];omega
   have hpre:∀n,(((C8 w ps k).take n).flatMap (Ha w ps)).length<=256:=λn=>by
    have:=hrl (k+1)
    unfold C8 at this
    rw[<-Cf n (C8 w ps k),CO,Ah]at this
    omega
   have hxl:∀x∈C8 w ps k,x.length<=900:=λx hx=>by
    have:=((Fi hok k).1 hx).2.1
    omega
   ((conv=>whnf);repeat' ((first|refine odw ?_|refine nx ?_|refine AD (λ_=>?_) (λ_=>?_))<;>conv=>whnf))
   refine AR (ι:=Nat) (λi=>i<=(C8 w ps k).length) (λi=>[(51,.d (.int .i64 i)),(50,.d (.int .i64 ((C8 w ps k).map Bn).length)),(49,.d (QG (C8 w ps k))),(12,.own 301),(11,.d (.int .i64 ((JO w ps k:Int)+(((C8 w ps k).map Bn).length:Int)))),(10,.own 300),(8,.d (dG w)),(2,.own 2),(1,.d (.int .i64 most))]) (λi=>[(2,.cells 43 [.d (dG G),.d (.bool e),.d (.int .i64 (D:Int)),.d (Ka l)]),(300,.slice 46 1 (((List.range k).map (C8 w ps)).map QG++[QG (C8 w ps k)])),(301,.slice 22 1 ((((C8 w ps k).take i).flatMap (Ha w ps)).map Bn))]) (λi=>(C8 w ps k).length-i) 0 (λ_=>rfl) (Am _)
    (.own 12 301 22 1 rfl rfl (.refl _ _)) ⟨rfl,rfl,rfl,rfl,rfl,rfl,rfl,rfl,rfl,trivial⟩ ⟨rfl,rfl,rfl,trivial⟩ ?_
   intro i hi
   refine Cd lV [] ?_
   by_cases hil:i<(C8 w ps k).length
   ·have hx:=Ab hil
    have hg:=hgr _ (hxl _ (Bc hil))
    generalize (C8 w ps k)[i]=x at hx hg
    have hxd:((C8 w ps k).map Bn)[i]? =some (Bn x):=by rw[Ad,hx];rfl
    have hstp:((C8 w ps k).take (i+1)).flatMap (Ha w ps)=((C8 w ps k).take i).flatMap (Ha w ps)++Ha w ps x:=by rw[Ay,hx,AU,CO];simp
    have h1:=hpre i
    have h2:=hpre (i+1)
    rw[hstp,Ah]at h2
    have hfin:(((C8 w ps k).take i).flatMap (Ha w ps)).map Bn++(Ha w ps x).map Bn=(((C8 w ps k).take (i+1)).flatMap (Ha w ps)).map Bn:=by rw[hstp,A7]
    have hml:((((C8 w ps k).take i).flatMap (Ha w ps)).map Bn).length+((Ha w ps x).map Bn).length<=4294967296:=by rw[Ac,Ac];omega
    (conv=>whnf)
    (repeat' ((first|refine Aj ?_ ?_|refine AP hxd rfl ?_|refine Af rfl hg ?_|refine JE hml ?_|refine nx ?_|refine AD (λ_=>?_) (λ_=>?_)|exact AG)<;>conv=>whnf))
    exact⟨i+1,_,_,hil,.refl _ _,⟨rfl,rfl,rfl,rfl,rfl,rfl,rfl,rfl,rfl,trivial⟩,⟨rfl,rfl,Bk hfin,trivial⟩,by omega⟩
   ·have hii:(C8 w ps k).take i=C8 w ps k:=Al (by omega)
    rw[hii]
    ((conv=>whnf);repeat' ((first|refine odw ?_|refine nx ?_|refine AD (λ_=>?_) (λ_=>?_))<;>conv=>whnf))
    refine⟨k+1,_,_,⟨by omega,λj hj=>?_,hm⟩,.frz 301 rfl (.refl _ _),⟨congrArg (λz=>Dat.d (.int .i64 z)) hst2,rfl,rfl,rfl,rfl,rfl,trivial⟩,⟨rfl,Bk hO1.symm,trivial⟩,by omega⟩
    rcases BL j k with g|g
    ·exact hne j g
    ·rw[show j=k by omega];exact hR
 ·have hbig:=pJ w ps (show k+1<=D from hkD)
  unfold lN
  rw[if_neg (by omega)]
  (conv=>whnf)
  (repeat' ((first|refine Aj ?_ ?_|refine Af rfl (CG 13 0 zA) ?_|refine nx ?_|refine AD (λ_=>?_) (λ_=>?_)|exact AG)<;>conv=>whnf))
  exact rfl
end
end Go.Proofs.YtjpmmkodoeipmaaGreatDoor
end
section
namespace Go.Proofs.YtjpmmkodoeipmaaGreatDoor
open Go.Sx Go.RowKit Go.Reg Go.Gr
set_option maxRecDepth 100000
theorem Zz(k:Int):Pure C1 139 [.int .i64 k] (λy=>y=.bool (HJ k)):=by
 refine AW Tryz.func139 Tryz.ntmps139 [] [] ?_
 by_cases h1:k=1
 ·subst h1;((conv=>whnf);repeat' ((first|refine odw ?_|refine nx ?_|refine AD (λ_=>?_) (λ_=>?_))<;>conv=>whnf));exact rfl
 by_cases h6:k=6
 ·subst h6;((conv=>whnf);repeat' ((first|refine odw ?_|refine nx ?_|refine AD (λ_=>?_) (λ_=>?_))<;>conv=>whnf));exact rfl
 by_cases h8:k=8
 ·subst h8;((conv=>whnf);repeat' ((first|refine odw ?_|refine nx ?_|refine AD (λ_=>?_) (λ_=>?_))<;>conv=>whnf));exact rfl
 have e:HJ k=true:=by unfold HJ;simp[h1,h6,h8]
 rw[e]
 ((conv=>whnf);repeat' ((first|refine odw ?_|refine nx ?_|refine AD (λ_=>?_) (λ_=>?_))<;>conv=>whnf))
 all_goals exact congrArg Da.bool (decide_eq_true h8)
def AFb:List FuncId:=[139]
theorem ZC(o:Opp):Pure C1 94 [dO o] (λy=>y=.int .i64 (Fl o)):=by
 have ht:=Zz o.kind
 refine AW Tryz.func94 Tryz.ntmps94 AFb [] ?_
 by_cases hk:o.kind<1\/8<o.kind
 ·have e:Fl o=1:=by unfold Fl;rw[if_pos hk]
  rw[e]
  (conv=>whnf)
  (repeat' ((first|refine Aj ?_ ?_|refine Af rfl ht ?_|refine nx ?_|refine AD (λ_=>?_) (λ_=>?_)|exact AG)<;>conv=>whnf))
  all_goals first|exact rfl|(exfalso;omega)
 ·by_cases hr:o.n<0\/255<o.n\/0<o.n/\HJ o.kind=false
  ·have e:Fl o=3:=by unfold Fl;rw[if_neg hk,if_pos hr]
   rw[e]
   cases htk:HJ o.kind<;>rw[htk]at ht hr<;>
   ·(conv=>whnf)
    (repeat' ((first|refine Aj ?_ ?_|refine Af rfl ht ?_|refine nx ?_|refine AD (λ_=>?_) (λ_=>?_)|exact AG)<;>conv=>whnf))
    all_goals first|exact rfl|(exfalso;simp at hr;omega)|(exfalso;omega)
  ·have e:Fl o=0:=by unfold Fl;rw[if_neg hk,if_neg hr]
   rw[e]
   cases htk:HJ o.kind<;>rw[htk]at ht hr<;>
   ·(conv=>whnf)
    (repeat' ((first|refine Aj ?_ ?_|refine Af rfl ht ?_|refine nx ?_|refine AD (λ_=>?_) (λ_=>?_)|exact AG)<;>conv=>whnf))
    all_goals first|exact rfl|(exfalso;simp at hr;omega)|(exfalso;omega)
def ADf:List FuncId:=[94]
theorem VI(l:List Opp)(hm:l.length<=9223372036854775807):Pure C1 49 [Ka l] (λy=>(y=.tuple [.int .i64 0,.int .i64 0]/\l.length<=16/\∀o∈l,Fl o=0)\/∃c i:Int,c≠0/\y=.tuple [.int .i64 c,.int .i64 i]):=by
 have hl:(l.map dO).length=l.length:=Ac _
 refine AW Tryz.func49 Tryz.ntmps49 ADf [] ?_
 by_cases h16:16<l.length
 ·((conv=>whnf);repeat' ((first|refine odw ?_|refine nx ?_|refine AD (λ_=>?_) (λ_=>?_))<;>conv=>whnf))
  exact .inr ⟨6,0,by decide,rfl⟩
 ((conv=>whnf);repeat' ((first|refine odw ?_|refine nx ?_|refine AD (λ_=>?_) (λ_=>?_))<;>conv=>whnf))
 refine AR (ι:=Nat) (λi=>i<=l.length/\∀y∈l.take i,Fl y=0) (λi=>[(4,.d (.int .i64 i)),(0,.d (Ka l))]) (λ_=>[]) (λi=>l.length-i) 0 (λ_=>rfl) ⟨Am _,by simp⟩ (.refl _ _) ⟨rfl,rfl,trivial⟩ trivial ?_
 rintro i ⟨hi,hne⟩
 refine Cd ADf [] ?_
 by_cases hlt:i<l.length
 ·have hx:=Ab hlt
  generalize l[i]=y at hx
  have hxd:(l.map dO)[i]? =some (.agg [.int .i64 y.kind,.int .i64 y.n]):=by rw[Ad,hx];rfl
  have hf:=ZC y
  by_cases hy:Fl y=0
  ·rw[hy]at hf
   (conv=>whnf)
   (repeat' ((first|refine Aj ?_ ?_|refine AP hxd rfl ?_|refine Af rfl hf ?_|refine nx ?_|refine AD (λ_=>?_) (λ_=>?_)|exact AG)<;>conv=>whnf))
   refine⟨i+1,_,_,⟨hlt,?_⟩,.refl _ _,⟨rfl,rfl,trivial⟩,trivial,by omega⟩
   intro z hz
   rw[Ay,hx]at hz
   rcases Ag.1 hz with hz|hz
   ·exact hne z hz
   ·simp at hz;subst hz;exact hy
  ·(conv=>whnf)
   (repeat' ((first|refine Aj ?_ ?_|refine AP hxd rfl ?_|refine Af rfl hf ?_|refine nx ?_|refine AD (λ_=>?_) (λ_=>?_)|exact AG)<;>conv=>whnf))
   exact .inr ⟨_,_,hy,rfl⟩
 ·have hii:l.take i=l:=Al (by omega)
  rw[hii]at hne
  ((conv=>whnf);repeat' ((first|refine odw ?_|refine nx ?_|refine AD (λ_=>?_) (λ_=>?_))<;>conv=>whnf))
  exact .inl ⟨rfl,by omega,hne⟩
end Go.Proofs.YtjpmmkodoeipmaaGreatDoor
end
section
namespace Go.Proofs.YtjpmmkodoeipmaaGreatDoor
open Go.Sx Go.RowKit Go.Reg Go.Gr
set_option maxRecDepth 100000
theorem Yn(l:List Opp)(hm:l.length<=8796093022207):Pure C1 51 [Ka l] (λy=>y=Ka l):=by
 have hel:(l.map dO).length=l.length:=Ac _
 refine AW Tryz.func51 Tryz.ntmps51 [] [] ?_
 ((conv=>whnf);repeat' ((first|refine odw ?_|refine nx ?_|refine AD (λ_=>?_) (λ_=>?_))<;>conv=>whnf))
 refine AR (ι:=Nat) (λi=>i<=l.length) (λi=>[(4,.d (.int .i64 i)),(3,.own 300),(0,.d (Ka l))]) (λi=>[(300,.slice 126 2 ((l.take i).map dO))]) (λi=>l.length-i) 0 (λ_=>rfl) (Am _)
  (.own 3 300 126 2 rfl rfl (.refl _ _)) ⟨rfl,rfl,rfl,trivial⟩ ⟨rfl,trivial⟩ ?_
 intro i hi
 refine Cd [] [] ?_
 by_cases hlt:i<l.length
 ·have hx:=Ab hlt
  generalize l[i]=e at hx
  have hxd:(l.map dO)[i]? =some (dO e):=by rw[Ad,hx];rfl
  have htl:((l.take i).map dO).length=i:=by rw[Ac,AA];omega
  have hfin:(l.take i).map dO++[dO e]=(l.take (i+1)).map dO:=by rw[Ay,hx,AU,A7];rfl
  generalize (l.take i).map dO=Z at htl hfin⊢
  (conv=>whnf)
  (repeat' ((first|refine Aj ?_ ?_|refine AP hxd rfl ?_|refine yM (by simp only[Aw,Bt];omega) ?_|refine nx ?_|refine AD (λ_=>?_) (λ_=>?_)|exact AG)<;>conv=>whnf))
  exact⟨i+1,_,_,hlt,.refl _ _,⟨rfl,rfl,rfl,trivial⟩,⟨Bk hfin,trivial⟩,by omega⟩
 ·have hii:l.take i=l:=Al (by omega)
  rw[hii]
  ((conv=>whnf);repeat' ((first|refine odw ?_|refine nx ?_|refine AD (λ_=>?_) (λ_=>?_))<;>conv=>whnf))
  exact rfl
end Go.Proofs.YtjpmmkodoeipmaaGreatDoor
end
section
namespace Go.Proofs.YtjpmmkodoeipmaaGreatDoor
open Go.Gr
theorem sL {G:Gr}(hG:G.Ok)(l:List Int):K9 G l=if Ev G l=true then(Ug G l G.labels.length).filter (FH G l)else[]:=by
 unfold K9
 rw[wA hG]
end Go.Proofs.YtjpmmkodoeipmaaGreatDoor
end
section
namespace Go.Proofs.YtjpmmkodoeipmaaGreatDoor
open Go.Sx Go.RowKit Go.Reg Go.Gr
set_option maxRecDepth 100000
theorem AB9 {O:List Nat} {w:World} {l:List Opp} {v:Value}(h:Rep O w (Ka l) v):l.length<=9223372036854775807:=by
 have:=mO h
 rw[Ac]at this
 unfold maxLen at this
 omega
end Go.Proofs.YtjpmmkodoeipmaaGreatDoor
end
section
namespace Go.Proofs.YtjpmmkodoeipmaaGreatDoor
open Go.Sx Go.RowKit Go.Reg Go.Gr
set_option maxRecDepth 100000
def Je(G:Gr)(e:Bool)(X:List Int):Pt:=if e=true then Vl G X else NW G X
def VD(G:Gr)(e:Bool)(X:List Int):List Int:=if e=true then C5 (Cw G.edges X)else X
section
variable {G:Gr} {e:Bool} {d:Int} {l:List Opp}
theorem jH(_h:JobOk G true d l) {X:List Int}(hl:C6 (IF G) X=true):∀x∈X,0<=x/\x<(G.edges.length:Int):=λx hx=>by
 have:=OF hl x hx
 have e:(IF G).labels.length=G.edges.length:=B8
 omega
theorem ZP(h:JobOk G e d l) {X:List Int}(hl:C6 (CD G e) X=true)(h8:(VD G e X).length<=8):Dp (Je G e X)=none:=by
 cases e with
 |true=>exact WU h.ok h8
 |false=>exact Rz h.ok h8 hl
theorem AD8(h:JobOk G e d l) {X:List Int}(hl:C6 (CD G e) X=true):Jz G e l X=(decide ((VD G e X).length<=8)&&l.all λo=>Ul o (Je G e X)):=by
 by_cases h8:(VD G e X).length<=8
 ·have hp:=ZP h hl h8
  have hk:=sB (l:=l) (p:=Je G e X) ⟨rfl,(BJ hp).2.1,(BJ hp).2.2⟩ h.lok
  rw[hk]
  unfold Jz Lt
  rw[hl]
  cases e with
  |
   true=>
   rw[if_pos rfl]
   rw[show Je G true X=Vl G X from rfl]at hp⊢
   rw[hp];rfl
  |
   false=>
   rw[if_neg (by decide)]
   rw[show Je G false X=NW G X from rfl]at hp⊢
   rw[hp];rfl
 ·rw[decide_eq_false h8,Bool.false_and]
  unfold Jz
  rw[hl]
  cases e with
  |
   true=>
   rw[if_pos rfl]
   rw[show VD G true X=C5 (Cw G.edges X)from rfl]at h8
   rw[decide_eq_false h8];rfl
  |
   false=>
   rw[if_neg (by decide)]
   rw[show VD G false X=X from rfl]at h8
   rw[decide_eq_false h8];rfl
end
end Go.Proofs.YtjpmmkodoeipmaaGreatDoor
end
section
namespace Go.Proofs.YtjpmmkodoeipmaaGreatDoor
open Go.Sx Go.RowKit Go.Reg Go.Gr
set_option maxRecDepth 100000
theorem Pure.laxR {C:Cx} {f:FuncId} {xs:List Da} {Q:Da->Prop} {z:Da}(hq:∀y,Q y->LaxA y z)(h:Sx.Pure C f xs Q):Sx.Pure C f xs (λy=>y=z):=by
 intro O w us hO hg hr
 obtain⟨g1,g2⟩:=h O w us hO hg hr
 refine⟨g1,g2.mono ?_⟩
 rintro e w' ⟨u,y,he,hy,⟨cs,hr1,hr2⟩,ht⟩
 exact⟨u,z,he,rfl,⟨cs,RepC.lax (hq y hy) hr1,by rw[hr2];exact UG (hq y hy) cs⟩,ht⟩
section
variable {G:Gr} {e:Bool} {d:Int} {l:List Opp}
theorem xN(h:JobOk G e d l) {X:List Int}(hl:C6 (CD G e) X=true)(h8:(VD G e X).length<=8):iJ G e X=.tuple [FE (Je G e X),Bn (VD G e X),.nili]:=by
 unfold iJ
 cases e with
 |
  true=>
  rw[if_pos rfl]
  unfold Xk
  rw[if_neg (by rw[show C6 (IF G) X=true from hl];decide),if_neg (by have:(C5 (Cw G.edges X)).length<=8:=h8;omega)];rfl
 |
  false=>
  rw[if_neg (by decide),if_neg (by have:X.length<=8:=h8;omega),if_neg (by rw[show C6 G X=true from hl];decide)];rfl
end
end Go.Proofs.YtjpmmkodoeipmaaGreatDoor
end
section
namespace Go.Gr
section
variable {α:Type} {f:α->α->Int}
theorem oK {l:List (α×Int)} {p:α} {n:Int}(hn:0<=n)(hl:∀x∈l,0<=x.2):∀x∈Dq f l p n,0<=x.2:=by
 induction l with
 |nil=>intro x hx;simp only[Dq,As]at hx;subst hx;exact hn
 |
  cons y l ih=>
  obtain⟨q,m⟩:=y
  have h0:=hl (q,m) (.head _)
  have ih:=ih (λx hx=>hl x (.tail _ hx))
  intro x hx
  simp only[Dq]at hx
  split at hx
  ·rcases Ai.1 hx with rfl|hx
   ·exact h0
   ·exact ih x hx
  ·split at hx
   ·rcases Ai.1 hx with rfl|hx
    ·simp only at h0⊢;omega
    ·exact hl x (.tail _ hx)
   ·rcases Ai.1 hx with rfl|hx
    ·exact hn
    ·exact hl x hx
theorem fB {l:List (α×Int)} {p:α} {n:Int}:(Dq f l p n).length<=l.length+1:=by
 induction l with
 |nil=>simp[Dq]
 |
  cons y l ih=>
  obtain⟨q,m⟩:=y
  simp only[Dq]
  split
  ·simp only[Aw];omega
  ·split<;>simp only[Aw]<;>omega
theorem TD {l:List (α×Int)}(hl:∀x∈l,0<=x.2):(0<=GF l)/\∀x∈l,x.2<=GF l:=by
 unfold GF
 induction l with
 |nil=>exact⟨Int.le_refl _,λx hx=>by cases hx⟩
 |
  cons y l ih=>
  obtain⟨h1,h2⟩:=ih (λx hx=>hl x (.tail _ hx))
  have h0:=hl y (.head _)
  simp only[Ar,List.foldr_cons]
  refine⟨by omega,λx hx=>?_⟩
  rcases Ai.1 hx with rfl|hx
  ·omega
  ·have:=h2 x hx;omega
def Ee(ps:List Pt):List (Pt×Int):=ps.foldl (λl p=>Dq Dw l p 1) []
theorem IL(ps:List Pt)(p:Pt):Ee (ps++[p])=Dq Dw (Ee ps) p 1:=by unfold Ee;rw[EF];rfl
theorem EG(ps:List Pt):GF (Ee ps)=ps.length/\(∀x∈Ee ps,0<=x.2)/\(Ee ps).length<=ps.length/\(∀x∈Ee ps,x.1∈ps)/\GA Dw (Ee ps):=by
 suffices h:∀qs:List Pt,GF (Ee qs.reverse)=qs.length/\(∀x∈Ee qs.reverse,0<=x.2)/\(Ee qs.reverse).length<=qs.length/\(∀x∈Ee qs.reverse,x.1∈qs)/\GA Dw (Ee qs.reverse)by
  have:=h ps.reverse
  rw[E0,List.length_reverse]at this
  exact⟨this.1,this.2.1,this.2.2.1,λx hx=>List.mem_reverse.1 (this.2.2.2.1 x hx),this.2.2.2.2⟩
 intro qs
 induction qs with
 |nil=>exact⟨rfl,λx hx=>(by cases hx),Ax _,λx hx=>(by cases hx),.nil⟩
 |
  cons q qs ih=>
  obtain⟨h1,h2,h3,h4,h5⟩:=ih
  rw[FK,IL]
  refine⟨by rw[Zd,h1];simp,oK (by omega) h2,BH fB (by simpa using h3),λx hx=>?_,N1 Hl h5⟩
  rcases QB x hx with e|hx
  ·rw[e];exact .head _
  ·exact .tail _ (h4 x hx)
end
end Go.Gr
namespace Go.Proofs.YtjpmmkodoeipmaaGreatDoor
open Go.Sx Go.RowKit Go.Reg Go.Gr
set_option maxRecDepth 100000
theorem Na {p:Pt}(h:Dp p=none):TextOk p/\ACB p:=by
 obtain⟨h1,h2,h3⟩:=BJ h
 obtain⟨g1,g2⟩:=CS h1
 obtain⟨s1,s2⟩:=Mm h
 refine⟨⟨Fq h,by omega,λx hx=>?_,by omega,λe he=>?_⟩,λx hx=>(g2 x hx).1,λe he=>?_⟩
 ·have:=g2 x hx;omega
 ·have:=h2 e he;omega
 ·have:=h2 e he;omega
theorem DZ.mono {C:Cx} {f:FuncId} {args:List Dat} {σ0:Sg} {ks:List Nat} {Q R:Dat->Sg->Prop}(h:DZ C f args σ0 ks Q)(hq:∀d σ,Q d σ->R d σ):DZ C f args σ0 ks R:=by
 intro B S w η φ css hm hr
 obtain⟨h1,h2⟩:=h B S w η φ css hm hr
 refine⟨h1,h2.mono ?_⟩
 rintro e w' ⟨v,d,σ1,η1,φ1,e1,hQ,r⟩
 exact⟨v,d,σ1,η1,φ1,e1,hq _ _ hQ,r⟩
theorem mD {m:List (ByteArray×RowV)}(X:List (Value×Da)) {l:List (Pt×Int)} {p:Pt} {n:Int}(ht:MT l m)(hp:Dp p=none)(hn:0<=n)(hl:∀x∈l,0<=x.2)(hs:GF l+n<=9223372036854775807):
  DZ C3 67 [.own 900,.d (FE p),.d (.int .i64 n)] (sT m X) [900] (λd σ=>∃z:List (ByteArray×RowV)×List (Value×Da),d=.d .nili/\σ=sT z.1 z.2/\MT (Dq Dw l p n) z.1):=by
 obtain⟨hx,hnp⟩:=Na hp
 obtain⟨s0,s1⟩:=TD hl
 cases hg:Reg.get m (bs (DW p))with
 |
  none=>
  refine DZ.mono (uR m X p n hx ⟨hn,by omega⟩ hg) ?_
  rintro d σ ⟨r,⟨r1,r2⟩,rfl,rfl⟩
  exact⟨(_,_),rfl,rfl,by rw[<-r1];exact uU ht hnp r2 hg⟩
 |
  some r=>
  obtain⟨e,hT⟩:=uT ht hnp n hg
  have hm:(bs (DW p),r)∈m:=by
   unfold Reg.get at hg
   obtain⟨q,hq,e⟩:=Cl.1 hg
   have h1:=List.mem_of_find?_eq_some hq
   have h2:=List.find?_some hq
   have h3:q.1=bs (DW p):=by simpa using h2
   have:q=(bs (DW p),r):=by rw[<-h3,<-e]
   rw[<-this];exact h1
  have hin:=Za ht hm
  have h0:=hl _ hin
  have h1:=s1 _ hin
  simp only at h0 h1
  refine DZ.mono (uQ m X p n r hx hn hg h0 (by omega)) ?_
  rintro d σ ⟨rfl,rfl⟩
  exact⟨(_,_),rfl,rfl,hT⟩
end Go.Proofs.YtjpmmkodoeipmaaGreatDoor
end
section
namespace Go.Gr
section
variable {α:Type} {f:α->α->Int}
theorem DK {y:α×Int} {l:List (α×Int)} {p:α} {n:Int}(h:f y.1 p<0):Dq f (y::l) p n=y::Dq f l p n:=by
 obtain⟨q,m⟩:=y
 simp only[Dq];rw[if_pos h]
theorem DY {y:α×Int} {l:List (α×Int)} {p:α} {n:Int}(h:f y.1 p=0):Dq f (y::l) p n=(p,y.2+n)::l:=by
 obtain⟨q,m⟩:=y
 simp only[Dq];rw[if_neg (by simp only at h;omega),if_pos h]
theorem EP {y:α×Int} {l:List (α×Int)} {p:α} {n:Int}(h:0<f y.1 p):Dq f (y::l) p n=(p,n)::y::l:=by
 obtain⟨q,m⟩:=y
 simp only[Dq];rw[if_neg (by simp only at h;omega),if_neg (by simp only at h;omega)]
theorem Xw(h:TOrd f)(p q:α)(m n:Int):∀l:List (α×Int),Dq f (Dq f l p m) q n=Dq f (Dq f l q n) p m:=by
 have two:∀l:List (α×Int),(∀y l',l=y::l'->0<f y.1 p/\0<f y.1 q)->Dq f (Dq f l p m) q n=Dq f (Dq f l q n) p m:=by
  intro l hl
  have hp:Dq f l p m=(p,m)::l:=by
   cases l with
   |nil=>rfl
   |cons y l=>exact EP (hl y l rfl).1
  have hq:Dq f l q n=(q,n)::l:=by
   cases l with
   |nil=>rfl
   |cons y l=>exact EP (hl y l rfl).2
  rw[hp,hq]
  rcases FM (f p q) 0 with h1|h1|h1
  ·rw[DK (y:=(p,m)) h1,EP (y:=(q,n)) ((h.anti q p).1 h1),hq]
  ·have e:=(h.eq0 p q).1 h1
   subst e
   rw[DY (y:=(p,m)) h1,DY (y:=(p,n)) h1,Int.add_comm]
  ·rw[EP (y:=(p,m)) h1,DK (y:=(q,n)) ((h.anti p q).2 h1),hp]
 intro l
 induction l with
 |nil=>exact two [] (λy l e=>by cases e)
 |
  cons y l ih=>
  rcases FM (f y.1 p) 0 with h1|h1|h1
  ·rcases FM (f y.1 q) 0 with h2|h2|h2
   ·rw[DK h1,DK h2,DK h2,DK h1,ih]
   ·have e:=(h.eq0 _ _).1 h2
    rw[DK h1,DY h2,DY h2,DK (y:=(q,y.2+n)) (by rw[<-e];exact h1)]
   ·rw[DK h1,EP h2,EP h2,DK (y:=(q,n)) (h.trans _ _ _ ((h.anti _ _).2 h2) h1),DK h1]
  ·have e:=(h.eq0 _ _).1 h1
   rcases FM (f y.1 q) 0 with h2|h2|h2
   ·rw[DY h1,DK (y:=(p,y.2+m)) (by rw[<-e];exact h2),DK h2,DY h1]
   ·have e2:=(h.eq0 _ _).1 h2
    rw[DY h1,DY h2,DY (y:=(p,y.2+m)) (by rw[<-e];exact h2),DY (y:=(q,y.2+n)) (by rw[<-e2];exact h1),<-e,<-e2,Int.add_right_comm]
   ·rw[DY h1,EP (y:=(p,y.2+m)) (by rw[<-e];exact h2),EP h2,DK (y:=(q,n)) (by rw[<-e];exact(h.anti _ _).2 h2),DY h1]
  ·rcases FM (f y.1 q) 0 with h2|h2|h2
   ·rw[EP h1,DK (y:=(p,m)) (h.trans _ _ _ ((h.anti _ _).2 h1) h2),DK h2,EP h1]
   ·have e2:=(h.eq0 _ _).1 h2
    rw[EP h1,DK (y:=(p,m)) (by rw[<-e2];exact(h.anti _ _).2 h1),DY h2,EP (y:=(q,y.2+n)) (by rw[<-e2];exact h1)]
   ·exact two _ (λz l' e=>by cases e;exact⟨h1,h2⟩)
end
end Go.Gr
namespace Go.Proofs.YtjpmmkodoeipmaaGreatDoor
open Go.Sx Go.RowKit Go.Reg Go.Gr
theorem Zc(a b:List (Pt×Int)):GF (a++b)=GF a+GF b:=by
 unfold GF
 induction a with
 |nil=>simp
 |cons x a ih=>simp only[AT,Ar,List.foldr_cons,ih];omega
theorem pH {l:List (Pt×Int)}(hl:∀x∈l,0<=x.2) {i:Nat} {x:Pt×Int}(hx:l[i]? =some x):GF (l.take (i+1))=GF (l.take i)+x.2/\0<=GF (l.take i)/\GF (l.take (i+1))<=GF l:=by
 have h1:GF (l.take (i+1))=GF (l.take i)+x.2:=by
  rw[Ay,hx,AU,Zc];simp[GF]
 have h2:=Zc (l.take (i+1)) (l.drop (i+1))
 rw[Cf]at h2
 exact⟨h1,(TD λy hy=>hl y (DP hy)).1,by have:=(TD (l:=l.drop (i+1)) λy hy=>hl y (SL hy)).1;omega⟩
end Go.Proofs.YtjpmmkodoeipmaaGreatDoor
end
section
namespace Go.Gr
section
variable {α:Type} {f:α->α->Int}
def HV(f:α->α->Int)(u:α->α)(s l:List (α×Int)):List (α×Int):=l.foldl (λs x=>Dq f s (u x.1) x.2) s
theorem lR(h:TOrd f)(p:α)(m n:Int):∀l:List (α×Int),Dq f (Dq f l p m) p n=Dq f l p (m+n):=by
 have h0:f p p=0:=(h.eq0 p p).2 rfl
 intro l
 induction l with
 |nil=>exact DY (y:=(p,m)) h0
 |
  cons y l ih=>
  rcases FM (f y.1 p) 0 with h1|h1|h1
  ·rw[DK h1,DK h1,DK h1,ih]
  ·rw[DY h1,DY h1,DY (y:=(p,y.2+m)) h0,Int.add_assoc]
  ·rw[EP h1,EP h1,DY (y:=(p,m)) h0]
theorem N0(h:TOrd f)(u:α->α)(p:α)(n:Int):∀(l s:List (α×Int)),HV f u (Dq f s p n) l=Dq f (HV f u s l) p n
 |[],s=>rfl
 |
  x::l,s=>by
  show HV f u (Dq f (Dq f s p n) (u x.1) x.2) l=_
  rw[Xw h,N0 h u p n l];rfl
theorem Xv(h:TOrd f)(u:α->α)(p:α)(n:Int):∀(l s:List (α×Int)),HV f u s (Dq f l p n)=Dq f (HV f u s l) (u p) n
 |[],s=>rfl
 |
  y::l,s=>by
  rcases FM (f y.1 p) 0 with h1|h1|h1
  ·rw[DK h1];exact Xv h u p n l _
  ·have e:=(h.eq0 _ _).1 h1
   rw[DY h1]
   show HV f u (Dq f s (u p) (y.2+n)) l=Dq f (HV f u (Dq f s (u y.1) y.2) l) (u p) n
   rw[N0 h,N0 h,e,lR h]
  ·rw[EP h1]
   show HV f u (Dq f (Dq f s (u p) n) (u y.1) y.2) l=Dq f (HV f u (Dq f s (u y.1) y.2) l) (u p) n
   rw[Xw h,N0 h]
theorem AA2(u:α->α)(s a b:List (α×Int)):HV f u s (a++b)=HV f u (HV f u s a) b:=EF
theorem uC(u:α->α)(s a:List (α×Int))(x:α×Int):HV f u s (a++[x])=Dq f (HV f u s a) (u x.1) x.2:=by rw[AA2];rfl
theorem uB(h:TOrd f)(u:α->α) {l:List (α×Int)}(hl:∀x∈l,0<=x.2):∀{s:List (α×Int)},(∀x∈s,0<=x.2)->GA f s->GF (HV f u s l)=GF s+GF l/\(∀x∈HV f u s l,0<=x.2)/\(HV f u s l).length<=s.length+l.length/\(∀x∈HV f u s l,x∈s\/(∃y∈l,x.1=u y.1)\/∃y∈s,x.1=y.1)/\GA f (HV f u s l):=by
 induction l with
 |nil=>intro s hs ho;exact⟨by simp[HV,GF],hs,Ax _,λx hx=>.inl hx,ho⟩
 |
  cons x l ih=>
  intro s hs ho
  have h0:=hl x (.head _)
  obtain⟨h1,h2,h3,h4,h5⟩:=ih (λy hy=>hl y (.tail _ hy)) (s:=Dq f s (u x.1) x.2) (oK h0 hs) (N1 h ho)
  refine⟨?_,h2,?_,λy hy=>?_,h5⟩
  ·show GF (HV f u (Dq f s (u x.1) x.2) l)=_
   rw[h1,Zd]
   have:GF (x::l)=x.2+GF l:=rfl
   omega
  ·have:=fB (f:=f) (l:=s) (p:=u x.1) (n:=x.2)
   simp only[Aw]
   show(HV f u (Dq f s (u x.1) x.2) l).length<=_
   omega
  ·rcases h4 y hy with hy|⟨z,hz,e⟩|⟨z,hz,e⟩
   ·rcases QB y hy with e|hy
    ·exact .inr (.inl ⟨x,.head _,e⟩)
    ·exact .inl hy
   ·exact .inr (.inl ⟨z,.tail _ hz,e⟩)
   ·rcases QB z hz with e2|hz
    ·exact .inr (.inl ⟨x,.head _,e.trans e2⟩)
    ·exact .inr (.inr ⟨z,hz,e⟩)
end
end Go.Gr
end
section
namespace Go.Gr
open Go.Proofs.YtjpmmkodoeipmaaGreatDoor
theorem mG {α:Type} [DecidableEq α]:∀{l m:List α},l.Nodup->(∀x∈l,x∈m)->l.length<=m.length
 |[],_,_,_=>Am _
 |
  x::l,m,hn,hs=>by
  have hx:x∈m:=hs x (by simp)
  rw[Cs]at hn
  have h:=mG (m:=m.erase x) hn.2 λy hy=>by
   have hne:y≠x:=λe=>hn.1 (e▸hy)
   exact(List.mem_erase_of_ne hne).2 (hs y (by simp[hy]))
  rw[List.length_erase_of_mem hx]at h
  have:=List.length_pos_of_mem hx
  rw[Aw];omega
theorem U0 {α:Type} [DecidableEq α] {l m:List α}(hn:l.Nodup)(hs:∀x∈l,x∈m):l.length<=m.length:=mG hn hs
structure IsImg(G:Gr)(p:Pt)(whole:Bool)(L:List Int):Prop where
 len:L.length=p.labels.length
 nodup:L.Nodup
 lt:∀x∈L,0<=x/\x<(G.labels.length:Int)
 label:∀i x,L[i]? =some x->ES G x=AFD p i
 has:∀i j x y,i≠j->L[i]? =some x->L[j]? =some y->AE6 p i j=true->AEF G x y=true
 only:whole=true->∀i j x y,i≠j->L[i]? =some x->L[j]? =some y->AEF G x y=true->AE6 p i j=true
end Go.Gr
end
section
namespace Go.Gr
open Go.Proofs.YtjpmmkodoeipmaaGreatDoor
def V4(s:List Int)(n:Int):List Int:=DF (n::s)
theorem Qb {s:List Int} {n x:Int}:x∈V4 s n↔x=n\/x∈s:=by unfold V4;rw[(BK _).2,Ai]
def JY(X:List (List Int))(i:Nat):List Int:=DF (X.map λL=>(L[i]?).getD 0)
theorem Xm(X:List (List Int))(i:Nat):(JY X i).Pairwise (· < ·):=(BK _).1
theorem aR {X:List (List Int)} {i:Nat} {x:Int}:x∈JY X i↔∃L∈X,(L[i]?).getD 0=x:=by unfold JY;rw[(BK _).2,An]
theorem Oz {l:List Int}(h:l.Pairwise (· < ·)):l.Nodup:=h.imp λh=>Int.ne_of_lt h
theorem TL {l:List Int}(h:l.Pairwise (· < ·)):DF l=l:=IC (BK l).1 h (BK l).2
theorem pR:DF []=[]:=TL List.Pairwise.nil
theorem AAn(i:Nat):JY [] i=[]:=pR
theorem HK(l:List Int):(DF l).length<=l.length:=U0 (Oz (BK l).1) λx hx=>((BK l).2 x).1 hx
theorem dP(X:List (List Int))(i:Nat):(JY X i).length<=X.length:=by
 have:=HK (X.map λL=>(L[i]?).getD 0)
 rwa [Ac]at this
theorem tG {X:List (List Int)} {k:Nat} {L:List Int} {i:Nat} {v:Int}(hL:X[k]? =some L)(hv:L[i]? =some v):JY (X.take (k+1)) i=V4 (JY (X.take k) i) v:=by
 refine IC (Xm _ _) (BK _).1 λx=>?_
 rw[Qb,aR,aR,Ay,hL]
 constructor
 ·rintro⟨M,hM,e⟩
  rcases Ag.1 hM with h|h
  ·exact .inr ⟨M,h,e⟩
  ·rw[AU,As]at h
   subst h
   rw[hv]at e;exact .inl e.symm
 ·rintro(rfl|⟨M,hM,e⟩)
  ·exact⟨L,by simp,by rw[hv];rfl⟩
  ·exact⟨M,Au _ hM,e⟩
def OJ(l:List (List Int)):Nat:=((l.map List.length).min?).getD 0
theorem rX {l:List (List Int)} {s:List Int}(hs:s∈l)(h:∀t∈l,s.length<=t.length):OJ l=s.length:=by
 unfold OJ
 rw[(List.min?_eq_some_iff (a:=s.length)).2 ⟨An.2 ⟨s,hs,rfl⟩,λb hb=>by obtain⟨t,ht,rfl⟩:=An.1 hb;exact h t ht⟩]
 rfl
def E9(k:Nat)(X:List (List Int)):List (List Int):=(List.range k).map (JY X)
theorem Nw(k:Nat)(X:List (List Int)):(E9 k X).length=k:=by unfold E9;simp
theorem AAm {k:Nat} {X:List (List Int)} {i:Nat}(h:i<k):(E9 k X)[i]? =some (JY X i):=by
 unfold E9;rw[Ad,CN h];rfl
theorem rQ {k:Nat} {X:List (List Int)} {s:List Int}:s∈E9 k X↔∃i,i<k/\JY X i=s:=by
 unfold E9;simp
def bF(G:Gr)(x:Int):List Int:=((List.range G.labels.length).filter λv:Nat=>decide (ES G v=x)).map λv:Nat=>(v:Int)
def PZ(k:Nat)(Y:List (List Int))(M:List Int)(done:Nat->Bool):List (List Int):=(List.range k).map λv=>if done v then JY (Y++[M]) v else JY Y v
theorem PY(k:Nat)(Y:List (List Int))(M:List Int)(done:Nat->Bool):(PZ k Y M done).length=k:=by unfold PZ;simp
theorem Yj {k:Nat} {Y:List (List Int)} {M:List Int} {done:Nat->Bool} {v:Nat}(hv:v<k):(PZ k Y M done)[v]? =some (if done v then JY (Y++[M]) v else JY Y v):=by
 unfold PZ;rw[Ad,CN hv];rfl
theorem iZ(k:Nat)(Y:List (List Int))(M:List Int) {done:Nat->Bool}(h:∀v,v<k->done v=false):PZ k Y M done=E9 k Y:=by
 unfold PZ E9
 exact FY λv hv=>by rw[h v (AM.1 hv)];rfl
theorem yP(k:Nat)(Y:List (List Int))(M:List Int) {done:Nat->Bool}(h:∀v,v<k->done v=true):PZ k Y M done=E9 k (Y++[M]):=by
 unfold PZ E9
 exact FY λv hv=>by rw[h v (AM.1 hv)];rfl
theorem tH {Y:List (List Int)} {M:List Int} {v:Nat} {x:Int}(h:M[v]? =some x):JY (Y++[M]) v=V4 (JY Y v) x:=by
 have:=tG (X:=Y++[M]) (k:=Y.length) (L:=M) (i:=v) (v:=x) (by simp) h
 rwa [Al (by simp),List.take_left' rfl]at this
theorem rO {k:Nat} {Y:List (List Int)} {M:List Int} {done done':Nat->Bool} {w:Nat} {x:Int}(hx:M[w]? =some x)(h:∀v,v<k->done' v=(done v||decide (v=w))):(PZ k Y M done).set w (V4 (JY Y w) x)=PZ k Y M done':=by
 refine Cb λv=>?_
 rw[Bf,PY]
 by_cases hv:v<k
 ·rw[Yj hv,Yj hv,h v hv]
  by_cases e:w=v
  ·subst e
   rw[if_pos rfl,if_pos hv,decide_eq_true rfl,Bool.or_true,if_pos rfl,tH hx]
  ·rw[if_neg e,decide_eq_false (λh=>e h.symm),Bool.or_false]
 ·rw[AI (by rw[PY];omega),AI (by rw[PY];omega)]
  by_cases e:w=v
  ·rw[if_pos e,if_neg (by omega)]
  ·rw[if_neg e]
end Go.Gr
end
section
namespace Go.Gr
open Go.Proofs.YtjpmmkodoeipmaaGreatDoor
section
variable {n:Nat} {p:Pt} {b:List Int}
def JS(b L:List Int):List Int:=Lf b L b.length
theorem nB(b L:List Int):(JS b L).length=L.length:=Kq _ _ _
theorem yL(hb:C2 n b) {L:List Int}(hL:L.length=n) {i:Nat}(hi:i<n):(JS b L)[pl b i]? =L[i]? :=SU hb hL hi
theorem aI(hb:C2 n b) {L:List Int}(hL:L.length=n) {k:Nat} {x:Int}(h:(JS b L)[k]? =some x):∃i,i<n/\pl b i=k/\L[i]? =some x:=by
 have hk:=(Ae.1 h).1
 rw[nB,hL]at hk
 obtain⟨i,hi,e⟩:=Lk hb hk
 refine⟨i,hi,e,?_⟩
 rw[<-yL hb hL hi,e];exact h
theorem aF {L:List Int}(h:∀(i j:Nat) (x:Int),L[i]? =some x->L[j]? =some x->i=j):L.Nodup:=by
 rw[List.Nodup,AO]
 intro i j hi hj hij e
 have:=h i j L[i] (Ab hi) (by rw[Ab hj,e])
 omega
end
end Go.Gr
end
section
namespace Go.Gr
open Go.Proofs.YtjpmmkodoeipmaaGreatDoor
theorem AAl {k:Nat}(hk:0<k)(X:List (List Int)):E9 k X≠[]:=λe=>by have:=Nw k X;rw[e]at this;simp at this;omega
section
variable {n:Nat} {p:Pt} {b:List Int}
def JR(p:Pt)(X:List (List Int)):List (List Int):=X.flatMap λL=>(Es p p).map λo=>JS o L
end
end Go.Gr
end
section
namespace Go.Sx
open Go Go.RowKit Go.Reg
def eS(s:ByteArray):List Value:=[.string s]
inductive Bx
 |junk
 |pin (u:Value)
 |box (l:List ByteArray)
structure BoxR(E1 E2:Nat)(bs:List Bx)(w:World)(v:Value)(F:List Nat)(css:List (List Value))(G:Nat->List Nat):Prop where
 sl:Sl E1 1 id w v css
 len:css.length=bs.length
 row:∀x∈css,ER 1 x
 pin:∀(i:Nat) u,bs[i]? =some (.pin u)->css[i]? =some [u]
 box:∀(i:Nat) l,bs[i]? =some (.box l)->∃u,css[i]? =some [u]/\Sl E2 1 id w u (l.map eS)/\G i=u.ownBlock.toList
 non:∀(i:Nat),(∀l,bs[i]? ≠some (.box l))->G i=[]
 dis:∀i j b,i≠j->b∈G i->b∉G j
 out:∀i b,b∈G i->v.ownBlock≠some b
 mem:∀b,b∈F↔v.ownBlock=some b\/∃i,b∈G i
def AFO(E1 E2:Nat)(bs:List Bx):Absn where
 R w v F:=∃css G,BoxR E1 E2 bs w v F css G
 keep:=by
  rintro S w w' v F ⟨css,G,h⟩ t hd
  refine⟨css,G,h.sl.keep t (λb hb=>hd b ((h.mem b).2 (.inl hb))),h.len,h.row,h.pin,λi l hi=>?_,h.non,h.dis,h.out,h.mem⟩
  obtain⟨u,h1,h2,h3⟩:=h.box i l hi
  exact⟨u,h1,h2.keep t (λb hb=>hd b ((h.mem b).2 (.inr ⟨i,by rw[h3,hb];simp⟩))),h3⟩
 lt:=by
  rintro w v F ⟨css,G,h⟩ x hx
  rcases(h.mem x).1 hx with hx|⟨i,hi⟩
  ·exact h.sl.lt hx
  ·by_cases hb:∃l,bs[i]? =some (.box l)
   ·obtain⟨l,hl⟩:=hb
    obtain⟨u,h1,h2,h3⟩:=h.box i l hl
    rw[h3]at hi
    exact h2.lt (by simpa using hi)
   ·rw[h.non i (λl hl=>hb ⟨l,hl⟩)]at hi;cases hi
 one:=by
  rintro w v F ⟨css,G,h⟩
  rcases h.sl.shape with⟨rfl,_⟩|⟨g,cap,rfl,_⟩<;>rfl
theorem Ta {φ:Nat->List Nat} {σ:Sg} {b:Nat}:b∈Ao φ σ↔∃k∈BA σ,b∈φ k:=
 ⟨λh=>by obtain⟨p,hp,hb⟩:=AL.1 h;exact⟨p.1,AV hp,hb⟩,λ⟨_,hk,hb⟩=>B5 hk hb⟩
section
variable {C:Cx} {T:Hh} {n kd:Nat} {fr:Fr} {σ:Sg} {o:Oper} {K:Fr->Sg->Prop} {B S:List Nat} {w0 w w':World} {η:Nat->Value} {φ:Nat->List Nat} {a:Act} {E1 E2:Nat}
theorem Mem.split(h:Mem C B S w0 σ η φ w) {i j:Nat}(hi:i∈BA σ)(hj:j∉BA σ) {F1 F2:List Nat}(hF:∀b,b∈φ i↔b∈F1\/b∈F2)(hd:∀b∈F1,b∉F2) {v:Value} {o1 o2:Own}
  (h1:∀η' I' O',o1.holds η' I' O' w (η i) F1) (h2:∀η' I' O',o2.holds η' I' O' w v F2):
  Mem C B S w0 ((j,o2)::AX id i o1 σ) (CE η j v) (CE (CE φ i F1) j F2) w/\Later (B++Ao φ σ) w (B++Ao (CE (CE φ i F1) j F2) ((j,o2)::AX id i o1 σ)) w:=by
 have hij:i≠j:=λe=>hj (e▸hi)
 have e1:CE (CE φ i F1) j F2 i=F1:=by rw[BU _ _ _ hij,Ck]
 have e2:CE (CE φ i F1) j F2 j=F2:=Ck _ _ _
 have e3:∀k,k≠i->k≠j->CE (CE φ i F1) j F2 k=φ k:=λk a b=>by rw[BU _ _ _ b,BU _ _ _ a]
 have hids:BA ((j,o2)::AX id i o1 σ)=j::BA σ:=by
  have:=AZ id i o1 σ
  unfold BA at this⊢
  rw[Ar,this]
 have hne:∀k∈BA σ,k≠j:=λk hk e=>hj (e▸hk)
 have hsub:∀k∈BA σ,∀b∈CE (CE φ i F1) j F2 k,b∈φ k:=λk hk b hb=>by
  by_cases e:k=i
  ·subst e;rw[e1]at hb;exact(hF b).2 (.inl hb)
  ·rw[e3 k e (hne k hk)]at hb;exact hb
 have hO:∀b,b∈B++Ao (CE (CE φ i F1) j F2) ((j,o2)::AX id i o1 σ)↔b∈B++Ao φ σ:=λb=>by
  simp only[Ag,Ta,hids,Ai]
  refine or_congr SD ⟨?_,?_⟩
  ·rintro⟨k,rfl|hk,hb⟩
   ·rw[e2]at hb;exact⟨i,hi,(hF b).2 (.inr hb)⟩
   ·exact⟨k,hk,hsub k hk b hb⟩
  ·rintro⟨k,hk,hb⟩
   by_cases e:k=i
   ·subst e
    rcases(hF b).1 hb with hb|hb
    ·exact⟨k,.inr hk,by rw[e1];exact hb⟩
    ·exact⟨j,.inl rfl,by rw[e2];exact hb⟩
   ·exact⟨k,.inr hk,by rw[e3 k e (hne k hk)];exact hb⟩
 have hl:Later (B++Ao φ σ) w (B++Ao (CE (CE φ i F1) j F2) ((j,o2)::AX id i o1 σ)) w:=⟨Ax _,λ_ _ _=>rfl,λb hn _ hm=>hn ((hO b).1 hm)⟩
 refine⟨⟨h.tch,?_,?_,?_,?_,h.out,λg hg=>(h.glob g hg).later hl⟩,hl⟩
 ·intro p hp
  rcases Ai.1 hp with rfl|hp
  ·simp only[Ck];exact h2 _ _ _
  ·rcases Gx hp with rfl|⟨q,hq,hqi,rfl⟩
   ·simp only[e1,BU _ _ _ hij];exact h1 _ _ _
   ·have hqj:=hne q.1 (AV hq)
    simp only[e3 q.1 hqi hqj,BU _ _ _ hqj]
    exact(h.own q hq).later hl (λk hk=>⟨by rw[hids];exact A9 _ hk,BU _ _ _ (hne k hk)⟩) (Tch.refl [] w) (λ_ _=>by simp)
 ·rw[hids];exact Cs.2 ⟨hj,h.nodup⟩
 ·intro k hk m hm hkm b hb1 hb2
  rw[hids]at hk hm
  rcases Ai.1 hk with ek|hk<;>rcases Ai.1 hm with em|hm
  ·exact hkm (ek.trans em.symm)
  ·rw[ek,e2]at hb1
   by_cases e:m=i
   ·rw[e,e1]at hb2;exact hd b hb2 hb1
   ·exact h.disj m hm i hi e b (hsub m hm b hb2) ((hF b).2 (.inr hb1))
  ·rw[em,e2]at hb2
   by_cases e:k=i
   ·rw[e,e1]at hb1;exact hd b hb1 hb2
   ·exact h.disj k hk i hi e b (hsub k hk b hb1) ((hF b).2 (.inr hb2))
  ·exact h.disj k hk m hm hkm b (hsub k hk b hb1) (hsub m hm b hb2)
 ·intro k hk b hb
  rw[hids]at hk
  rcases Ai.1 hk with ek|hk
  ·rw[ek,e2]at hb;exact h.new i hi b ((hF b).2 (.inr hb))
  ·exact h.new k hk b (hsub k hk b hb)
theorem Mem.merge(h:Mem C B S w0 σ η φ w) {i j:Nat}(hi:i∈BA σ)(hj:j∈BA σ)(hij:i≠j) {F:List Nat}(hF:∀b,b∈F↔b∈φ i\/b∈φ j) {r:Absn}(h1:r.R w (η i) F):
  Mem C B S w0 (Dc (BM j .undef) j (AX id i r.own σ)) η (CE φ i F) w/\Later (B++Ao φ σ) w (B++Ao (CE φ i F) (Dc (BM j .undef) j (AX id i r.own σ))) w:=by
 have hids:BA (Dc (BM j .undef) j (AX id i r.own σ))=(BA σ).filter (· !=j):=by rw[DI,AZ]
 have hin:∀k,k∈BA (Dc (BM j .undef) j (AX id i r.own σ))↔k∈BA σ/\k≠j:=λk=>by rw[hids,Az];simp
 have e3:∀k,k≠i->CE φ i F k=φ k:=λk a=>BU _ _ _ a
 have hO:∀b,b∈B++Ao (CE φ i F) (Dc (BM j .undef) j (AX id i r.own σ))↔b∈B++Ao φ σ:=λb=>by
  simp only[Ag,Ta,hin]
  refine or_congr SD ⟨?_,?_⟩
  ·rintro⟨k,⟨hk,hkj⟩,hb⟩
   by_cases e:k=i
   ·subst e;rw[Ck]at hb
    rcases(hF b).1 hb with hb|hb
    ·exact⟨k,hk,hb⟩
    ·exact⟨j,hj,hb⟩
   ·rw[e3 k e]at hb;exact⟨k,hk,hb⟩
  ·rintro⟨k,hk,hb⟩
   by_cases e:k=i
   ·subst e;exact⟨k,⟨hk,hij⟩,by rw[Ck];exact(hF b).2 (.inl hb)⟩
   ·by_cases e2:k=j
    ·subst e2;exact⟨i,⟨hi,hij⟩,by rw[Ck];exact(hF b).2 (.inr hb)⟩
    ·exact⟨k,⟨hk,e2⟩,by rw[e3 k e];exact hb⟩
 have hl:Later (B++Ao φ σ) w (B++Ao (CE φ i F) (Dc (BM j .undef) j (AX id i r.own σ))) w:=⟨Ax _,λ_ _ _=>rfl,λb hn _ hm=>hn ((hO b).1 hm)⟩
 have hcov:∀k,k∈BA σ->k≠j->∀b∈CE φ i F k,b∈φ k\/(k=i/\b∈φ j):=λk hk _ b hb=>by
  by_cases e:k=i
  ·subst e;rw[Ck]at hb
   rcases(hF b).1 hb with hb|hb
   ·exact .inl hb
   ·exact .inr ⟨rfl,hb⟩
  ·rw[e3 k e]at hb;exact .inl hb
 refine⟨⟨h.tch,?_,?_,?_,?_,h.out,λg hg=>(h.glob g hg).later hl⟩,hl⟩
 ·intro p hp
  obtain⟨q,hq,hqj,rfl⟩:=Fh hp
  rcases Gx hq with rfl|⟨q',hq',hqi,rfl⟩
  ·simp only[Ck];exact h1
  ·simp only[e3 q'.1 hqi]
   exact(h.own q' hq').kill rfl hl (λk hk hkj=>⟨(hin k).2 ⟨hk,hkj⟩,rfl⟩) (RepC.undef_ex _ _ _) (Tch.refl [] w) (λ_ _=>by simp)
 ·rw[hids];exact h.nodup.filter _
 ·intro k hk m hm hkm b hb1 hb2
  obtain⟨hk,hkj⟩:=(hin k).1 hk
  obtain⟨hm,hmj⟩:=(hin m).1 hm
  rcases hcov k hk hkj b hb1 with g1|⟨e1,g1⟩<;>rcases hcov m hm hmj b hb2 with g2|⟨e2,g2⟩
  ·exact h.disj k hk m hm hkm b g1 g2
  ·exact h.disj k hk j hj hkj b g1 g2
  ·exact h.disj m hm j hj hmj b g2 g1
  ·exact hkm (e1.trans e2.symm)
 ·intro k hk b hb
  obtain⟨hk,hkj⟩:=(hin k).1 hk
  rcases hcov k hk hkj b hb with g1|⟨_,g1⟩
  ·exact h.new k hk b g1
  ·exact h.new j hj b g1
theorem LY(i:Nat)(o1 o2:Own):∀(σ:Sg),AX id i o2 (AX id i o1 σ)=AX id i o2 σ
 |[]=>rfl
 |
  (k,q)::σ=>by
  have ih:=LY i o1 o2 σ
  simp only[AX]
  cases h:Nat.beq k i<;>simp only[AX,h,ih,id]
theorem BoxR.take {bs:List Bx} {v:Value} {F:List Nat} {css:List (List Value)} {G:Nat->List Nat}(hb:BoxR E1 E2 bs w v F css G) {m:Nat} {l:List ByteArray}(hm:bs[m]? =some (.box l)) {u:Value}(hu:css[m]? =some [u]) {F1:List Nat}(hF:∀b,b∈F1↔b∈F/\b∉u.ownBlock.toList):
  BoxR E1 E2 (bs.set m .junk) w v F1 css (λi=>if i=m then[]else G i):=by
 have hml:m<bs.length:=(Ae.1 hm).1
 obtain⟨u',h1,h2,h3⟩:=hb.box m l hm
 have eu:u'=u:=by rw[hu]at h1;simpa using h1.symm
 subst eu
 refine⟨hb.sl,by rw[Di];exact hb.len,hb.row,λi v hi=>?_,λi k hi=>?_,λi hi=>?_,λi j b hij hbi=>?_,λi b hbi=>?_,λb=>?_⟩
 ·rw[Bf]at hi
  by_cases e:m=i
  ·subst e;rw[if_pos rfl,if_pos hml]at hi;cases hi
  ·rw[if_neg e]at hi;exact hb.pin i v hi
 ·rw[Bf]at hi
  by_cases e:m=i
  ·subst e;rw[if_pos rfl,if_pos hml]at hi;cases hi
  ·rw[if_neg e]at hi
   obtain⟨u2,g1,g2,g3⟩:=hb.box i k hi
   exact⟨u2,g1,g2,(if_neg (λh=>e h.symm)).trans g3⟩
 ·by_cases e:i=m
  ·simp[e]
  ·simp only[if_neg e]
   refine hb.non i λk hk=>hi k ?_
   rw[Bf,if_neg (λh=>e h.symm)];exact hk
 ·by_cases e:i=m
  ·simp only[e,if_pos]at hbi;cases hbi
  ·simp only[if_neg e]at hbi
   by_cases e2:j=m
   ·simp[e2]
   ·simp only[if_neg e2];exact hb.dis i j b hij hbi
 ·by_cases e:i=m
  ·simp only[e,if_pos]at hbi;cases hbi
  ·simp only[if_neg e]at hbi;exact hb.out i b hbi
 ·rw[hF,hb.mem,<-h3]
  constructor
  ·rintro⟨h|⟨i,hi⟩,hn⟩
   ·exact .inl h
   ·refine .inr ⟨i,?_⟩
    have e:i≠m:=λe=>hn (e▸hi)
    simp only[if_neg e];exact hi
  ·rintro(h|⟨i,hi⟩)
   ·exact⟨.inl h,λhn=>hb.out m b hn h⟩
   ·by_cases e:i=m
    ·simp only[e,if_pos]at hi;cases hi
    ·simp only[if_neg e]at hi
     exact⟨.inr ⟨i,hi⟩,hb.dis i m b e hi⟩
theorem BoxR.put {bs:List Bx} {v:Value} {F:List Nat} {css:List (List Value)} {G:Nat->List Nat}(hb:BoxR E1 E2 bs w v F css G) {m:Nat} {u:Value}(hm:bs[m]? =some (.pin u)) {l:List ByteArray}(hs:Sl E2 1 id w u (l.map eS))(hn:∀b∈u.ownBlock.toList,b∉F) {F1:List Nat}(hF:∀b,b∈F1↔b∈F\/b∈u.ownBlock.toList):
  BoxR E1 E2 (bs.set m (.box l)) w v F1 css (λi=>if i=m then u.ownBlock.toList else G i):=by
 have hml:m<bs.length:=(Ae.1 hm).1
 have hG:G m=[]:=hb.non m λk hk=>by rw[hm]at hk;cases hk
 have hin:∀i b,b∈G i->b∉u.ownBlock.toList:=λi b hbi hbu=>hn b hbu ((hb.mem b).2 (.inr ⟨i,hbi⟩))
 refine⟨hb.sl,by rw[Di];exact hb.len,hb.row,λi v hi=>?_,λi k hi=>?_,λi hi=>?_,λi j b hij hbi=>?_,λi b hbi=>?_,λb=>?_⟩
 ·rw[Bf]at hi
  by_cases e:m=i
  ·subst e;rw[if_pos rfl,if_pos hml]at hi;cases hi
  ·rw[if_neg e]at hi;exact hb.pin i v hi
 ·rw[Bf]at hi
  by_cases e:m=i
  ·subst e;rw[if_pos rfl,if_pos hml]at hi;cases hi
   exact⟨u,hb.pin m u hm,hs,by simp only[if_pos]⟩
  ·rw[if_neg e]at hi
   obtain⟨u2,g1,g2,g3⟩:=hb.box i k hi
   exact⟨u2,g1,g2,(if_neg (λh=>e h.symm)).trans g3⟩
 ·by_cases e:i=m
  ·subst e
   exact absurd (by rw[Bf,if_pos rfl,if_pos hml]) (hi l)
  ·simp only[if_neg e]
   refine hb.non i λk hk=>hi k ?_
   rw[Bf,if_neg (λh=>e h.symm)];exact hk
 ·by_cases e:i=m
  ·simp only[e,if_pos]at hbi
   have e2:j≠m:=λe2=>hij (e.trans e2.symm)
   simp only[if_neg e2];exactλh=>hin j b h hbi
  ·simp only[if_neg e]at hbi
   by_cases e2:j=m
   ·simp only[e2,if_pos];exact hin i b hbi
   ·simp only[if_neg e2];exact hb.dis i j b hij hbi
 ·by_cases e:i=m
  ·simp only[e,if_pos]at hbi;exactλh=>hn b hbi ((hb.mem b).2 (.inl h))
  ·simp only[if_neg e]at hbi;exact hb.out i b hbi
 ·rw[hF,hb.mem]
  constructor
  ·rintro((h|⟨i,hi⟩)|h)
   ·exact .inl h
   ·refine .inr ⟨i,?_⟩
    have e:i≠m:=λe=>by rw[e,hG]at hi;cases hi
    simp only[if_neg e];exact hi
   ·exact .inr ⟨m,by simp only[if_pos];exact h⟩
  ·rintro(h|⟨i,hi⟩)
   ·exact .inl (.inl h)
   ·by_cases e:i=m
    ·simp only[e,if_pos]at hi;exact .inr hi
    ·simp only[if_neg e]at hi;exact .inl (.inr ⟨i,hi⟩)
theorem BoxR.over {bs:List Bx} {v:Value} {F:List Nat} {css:List (List Value)} {G:Nat->List Nat}(hb:BoxR E1 E2 bs w v F css G) {m:Nat}(hm:m<bs.length) {u:Value}(hu:u.oneCell'=true) {g l c:Nat}(hv:v=.slice (some ⟨g,0,none⟩) l c)(ht:Tch [g] w w')(hs:Sl E1 1 id w' v (css.set m [u])):
  ∃F1,(∀b∈F1,b∈F)/\BoxR E1 E2 (bs.set m (.pin u)) w' v F1 (css.set m [u]) (λi=>if i=m then[]else G i):=by
 have hl:=hb.len
 refine⟨F.filter (λb=>decide (b∉G m)),λb h=>(Az.1 h).1,hs,by rw[Di,Di];exact hl,λx hx=>?_,λi z hi=>?_,λi k hi=>?_,λi hi=>?_,λi j b hij hbi=>?_,λi b hbi=>?_,λb=>?_⟩
 ·rcases KP hx with hx|rfl
  ·exact hb.row x hx
  ·exact⟨rfl,by simpa using hu⟩
 ·rw[Bf]at hi⊢
  by_cases e:m=i
  ·subst e;rw[if_pos rfl,if_pos hm]at hi;cases hi
   rw[if_pos rfl,if_pos (by omega)]
  ·rw[if_neg e]at hi⊢;exact hb.pin i z hi
 ·rw[Bf]at hi
  by_cases e:m=i
  ·subst e;rw[if_pos rfl,if_pos hm]at hi;cases hi
  ·rw[if_neg e]at hi
   obtain⟨u2,g1,g2,g3⟩:=hb.box i k hi
   refine⟨u2,by rw[Bf,if_neg e];exact g1,g2.keep ht (λb hbb hm=>?_),(if_neg (λh=>e h.symm)).trans g3⟩
   have:b=g:=by simpa using hm
   subst this
   exact hb.out i b (by rw[g3,hbb];simp) (by rw[hv];rfl)
 ·by_cases e:i=m
  ·simp[e]
  ·simp only[if_neg e]
   refine hb.non i λk hk=>hi k ?_
   rw[Bf,if_neg (λh=>e h.symm)];exact hk
 ·by_cases e:i=m
  ·simp only[e,if_pos]at hbi;cases hbi
  ·simp only[if_neg e]at hbi
   by_cases e2:j=m
   ·simp[e2]
   ·simp only[if_neg e2];exact hb.dis i j b hij hbi
 ·by_cases e:i=m
  ·simp only[e,if_pos]at hbi;cases hbi
  ·simp only[if_neg e]at hbi;exact hb.out i b hbi
 ·rw[Az,hb.mem]
  simp only[decide_eq_true_eq]
  constructor
  ·rintro⟨h|⟨i,hi⟩,hn⟩
   ·exact .inl h
   ·refine .inr ⟨i,?_⟩
    have e:i≠m:=λe=>hn (e▸hi)
    simp only[if_neg e];exact hi
  ·rintro(h|⟨i,hi⟩)
   ·exact⟨.inl h,λhn=>hb.out m b hn h⟩
   ·by_cases e:i=m
    ·simp only[e,if_pos]at hi;cases hi
    ·simp only[if_neg e]at hi
     exact⟨.inr ⟨i,hi⟩,hb.dis i m b e hi⟩
end
end Go.Sx
end
section
namespace Go.Sx
open Go Go.RowKit Go.Reg
inductive Bg(ν:Type)
 |here (y:ν)
 |pin
inductive Bp(κ:Type)
 |off
 |it (r:Nat) (todo:List (κ×Value))
 |on (r:Nat) (todo:List (κ×Value)) (p:κ×Value)
def Bp.rb {κ:Type}:Bp κ->List Nat
 |.off=>[]
 |.it r _=>[r]
 |.on r _ _=>[r]
def Bp.At {P:Program} {κ:Type} [DecidableEq κ](M:MapE P κ Value)(w:World)(b:Nat)(m:List (κ×Value)):Bp κ->Prop
 |.off=>CK M.encK M.encV w b m
 |.it r todo=>Ew M.encK M.encV w r b m todo
 |.on r todo p=>LL M.encK M.encV w r b m todo p
section
variable {P:Program} {κ:Type} [DecidableEq κ] {M:MapE P κ Value} {w w':World} {S:List Nat} {b:Nat} {m:List (κ×Value)} {p:Bp κ}
theorem Bp.At.keep(h:p.At M w b m)(t:Tch S w w')(hr:∀x∈p.rb,x∉S)(hb:b∉S):p.At M w' b m:=by
 cases p with
 |off=>exact CK.keep h t hb
 |it r todo=>exact Ew.keep h t (hr r (As.2 rfl)) hb
 |on r todo q=>exact LL.keep h t (hr r (As.2 rfl)) hb
theorem Bp.At.mapAt(h:p.At M w b m):CK M.encK M.encV w b m:=by
 cases p with
 |off=>exact h
 |it r todo=>exact Ew.mapAt h
 |on r todo q=>exact Ew.mapAt (LL.iter h)
theorem Bp.At.rlt(h:p.At M w b m):∀x∈p.rb,x<w.heap.size:=by
 cases p with
 |off=>intro x hx;cases hx
 |it r todo=>intro x hx;rw[As.1 hx];exact Ew.lt h
 |on r todo q=>intro x hx;rw[As.1 hx];exact Ew.lt (LL.iter h)
end
structure BagR {P:Program} {κ ν:Type} [DecidableEq κ](M:MapE P κ Value)(A:ν->Absn)(p:Bp κ)(m:List (κ×Value))(bs:List (Bg ν))(w:World)(v:Value)(F:List Nat)(b:Nat)(G:Nat->List Nat):Prop where
 val:v=.map (some b)
 len:bs.length=m.length
 map:p.At M w b m
 here:∀i y,bs[i]? =some (.here y)->∃q u,m[i]? =some (q,u)/\(A y).R w u (G i)
 none:∀i,(∀y,bs[i]? ≠some (.here y))->G i=[]
 nb:∀i,b∉G i
 nr:∀x∈p.rb,∀i,x∉G i
 disj:∀i j x,i≠j->x∈G i->x∉G j
 mem:∀x,x∈F↔x=b\/x∈p.rb\/∃i,x∈G i
def AAz {P:Program} {κ ν:Type} [DecidableEq κ](M:MapE P κ Value)(A:ν->Absn)(p:Bp κ)(m:List (κ×Value))(bs:List (Bg ν)):Absn where
 R w v F:=∃b G,BagR M A p m bs w v F b G
 keep:=by
  rintro S w w' v F ⟨b,G,h⟩ t hd
  exact⟨b,G,h.val,h.len,h.map.keep t (λx hx=>hd x ((h.mem x).2 (.inr (.inl hx)))) (hd b ((h.mem b).2 (.inl rfl))),λi y hi=>by
   obtain⟨q,u,h1,h2⟩:=h.here i y hi
   exact⟨q,u,h1,(A y).keep S w w' u (G i) h2 t (λx hx=>hd x ((h.mem x).2 (.inr (.inr ⟨i,hx⟩))))⟩,h.none,h.nb,h.nr,h.disj,h.mem⟩
 lt:=by
  rintro w v F ⟨b,G,h⟩ x hx
  rcases(h.mem x).1 hx with rfl|hx|⟨i,hx⟩
  ·exact h.map.mapAt.lt
  ·exact h.map.rlt x hx
  ·cases hb:bs[i]? with
   |none=>rw[h.none i (λy e=>by rw[hb]at e;cases e)]at hx;cases hx
   |
    some z=>
    cases z with
    |pin=>rw[h.none i (λy e=>by rw[hb]at e;cases e)]at hx;cases hx
    |
     here y=>
     obtain⟨q,u,_,h2⟩:=h.here i y hb
     exact(A y).lt w u (G i) h2 x hx
 one:=by rintro w v F ⟨b,G,h⟩;rw[h.val];rfl
abbrev KK {P:Program} {κ ν:Type} [DecidableEq κ](M:MapE P κ Value)(A:ν->Absn)(m:List (κ×Value))(bs:List (Bg ν)):Absn:=AAz M A .off m bs
section
variable {C:Cx} {T:Hh} {n kd:Nat} {fr:Fr} {σ:Sg} {o:Oper} {K:Fr->Sg->Prop} {κ ν:Type} [DecidableEq κ] {M:MapE C.P κ Value} {A:ν->Absn} {p:Bp κ} {m:List (κ×Value)} {bs:List (Bg ν)} {w:World}
theorem XY {B S:List Nat} {w0:World} {η:Nat->Value} {φ:Nat->List Nat}(hm:Mem C B S w0 σ η φ w) {i:Nat}(hg:BI i σ=some (AAz M A p m bs).own):∃b G,BagR M A p m bs w (η i) (φ i) b G:=hm.own _ (AQ hg)
theorem BagR.take {v:Value} {F:List Nat} {b:Nat} {G:Nat->List Nat}(h:BagR M A p m bs w v F b G) {k:Nat} {y:ν}(hk:bs[k]? =some (.here y)) {F1:List Nat}(hF:∀x,x∈F1↔x∈F/\x∉G k):
  BagR M A p m (bs.set k .pin) w v F1 b (λi=>if i=k then[]else G i):=by
 have hkl:k<bs.length:=(Ae.1 hk).1
 refine⟨h.val,by rw[Di];exact h.len,h.map,λi z hi=>?_,λi hi=>?_,λi=>?_,λx hx i=>?_,λi j x hij hx=>?_,λx=>?_⟩
 ·rw[Bf]at hi
  by_cases e:k=i
  ·subst e;rw[if_pos rfl,if_pos hkl]at hi;cases hi
  ·rw[if_neg e]at hi
   obtain⟨q,u,h1,h2⟩:=h.here i z hi
   exact⟨q,u,h1,by rw[if_neg (λe2=>e e2.symm)];exact h2⟩
 ·by_cases e:i=k
  ·rw[if_pos e]
  ·rw[if_neg e]
   refine h.none i λz hz=>hi z ?_
   rw[Bf,if_neg (λe2=>e e2.symm)];exact hz
 ·by_cases e:i=k
  ·rw[if_pos e];exact CT
  ·rw[if_neg e];exact h.nb i
 ·by_cases e:i=k
  ·rw[if_pos e];exact CT
  ·rw[if_neg e];exact h.nr x hx i
 ·by_cases e:i=k
  ·rw[if_pos e]at hx;cases hx
  ·rw[if_neg e]at hx
   by_cases e2:j=k
   ·rw[if_pos e2];exact CT
   ·rw[if_neg e2];exact h.disj i j x hij hx
 ·rw[hF,h.mem]
  constructor
  ·rintro⟨rfl|hx|⟨i,hx⟩,hn⟩
   ·exact .inl rfl
   ·exact .inr (.inl hx)
   ·refine .inr (.inr ⟨i,?_⟩)
    rw[if_neg (λe:i=k=>hn (by rw[<-e];exact hx))];exact hx
  ·rintro(rfl|hx|⟨i,hx⟩)
   ·exact⟨.inl rfl,h.nb k⟩
   ·exact⟨.inr (.inl hx),h.nr x hx k⟩
   ·by_cases e:i=k
    ·rw[if_pos e]at hx;cases hx
    ·rw[if_neg e]at hx
     exact⟨.inr (.inr ⟨i,hx⟩),h.disj i k x e hx⟩
theorem BagR.back {v:Value} {F:List Nat} {b:Nat} {G:Nat->List Nat}(h:BagR M A p m bs w v F b G) {k:Nat} {q:κ} {u:Value}(hk:bs[k]? =some .pin)(hm:m[k]? =some (q,u)) {y:ν} {Fy:List Nat}(hy:(A y).R w u Fy)(hd:∀x∈Fy,x∉F) {F1:List Nat}(hF:∀x,x∈F1↔x∈F\/x∈Fy):
  BagR M A p m (bs.set k (.here y)) w v F1 b (λi=>if i=k then Fy else G i):=by
 have hkl:k<bs.length:=(Ae.1 hk).1
 have hGk:G k=[]:=h.none k λz e=>by rw[hk]at e;cases e
 refine⟨h.val,by rw[Di];exact h.len,h.map,λi z hi=>?_,λi hi=>?_,λi=>?_,λx hx i=>?_,λi j x hij hx=>?_,λx=>?_⟩
 ·rw[Bf]at hi
  by_cases e:k=i
  ·subst e;rw[if_pos rfl,if_pos hkl]at hi;cases hi
   exact⟨q,u,hm,by rw[if_pos rfl];exact hy⟩
  ·rw[if_neg e]at hi
   obtain⟨q,u,h1,h2⟩:=h.here i z hi
   exact⟨q,u,h1,by rw[if_neg (λe2=>e e2.symm)];exact h2⟩
 ·by_cases e:i=k
  ·subst e
   exact absurd (by rw[Bf,if_pos rfl,if_pos hkl]) (hi y)
  ·rw[if_neg e]
   refine h.none i λz hz=>hi z ?_
   rw[Bf,if_neg (λe2=>e e2.symm)];exact hz
 ·by_cases e:i=k
  ·rw[if_pos e];exactλhb=>hd b hb ((h.mem b).2 (.inl rfl))
  ·rw[if_neg e];exact h.nb i
 ·by_cases e:i=k
  ·rw[if_pos e];exactλhb=>hd x hb ((h.mem x).2 (.inr (.inl hx)))
  ·rw[if_neg e];exact h.nr x hx i
 ·by_cases e:i=k
  ·rw[if_pos e]at hx
   rw[if_neg (λe2=>hij (e.trans e2.symm))]
   exactλhj=>hd x hx ((h.mem x).2 (.inr (.inr ⟨j,hj⟩)))
  ·rw[if_neg e]at hx
   by_cases e2:j=k
   ·rw[if_pos e2];exactλhj=>hd x hj ((h.mem x).2 (.inr (.inr ⟨i,hx⟩)))
   ·rw[if_neg e2];exact h.disj i j x hij hx
 ·rw[hF,h.mem]
  constructor
  ·rintro((rfl|hx|⟨i,hx⟩)|hx)
   ·exact .inl rfl
   ·exact .inr (.inl hx)
   ·refine .inr (.inr ⟨i,?_⟩)
    rw[if_neg (λe=>by rw[e,hGk]at hx;cases hx)];exact hx
   ·exact .inr (.inr ⟨k,by rw[if_pos rfl];exact hx⟩)
  ·rintro(rfl|hx|⟨i,hx⟩)
   ·exact .inl (.inl rfl)
   ·exact .inl (.inr (.inl hx))
   ·by_cases e:i=k
    ·rw[if_pos e]at hx;exact .inr hx
    ·rw[if_neg e]at hx;exact .inl (.inr (.inr ⟨i,hx⟩))
theorem ADP(hV:∀v,M.encV v=v)(i j g k:Nat)(q:κ) {u:Value} {y:ν} {x ix:Operand}(ho:o.op=.lookup M.t x ix false)(hx:ev C.Γ fr x=.own i)(hg:BI i σ=some (KK M A m bs).own)(hix:ev C.Γ fr ix=.d (M.dK q))(hmk:m[k]? =some (q,u))(hget:Reg.get m q=some u)(hb:bs[k]? =some (.here y))(hj:BI j σ=none)(hgj:BI g σ=none)(hne:g≠j)(hkd:kd=3)(hd:Dh o.dst n=true)
  (hK:Ci (Fm g (.ghost [u] [.own j]) (Fm j (A y).own (AX id i (KK M A m (bs.set k .pin)).own σ))) λσ=>K (CF o.dst (.own j) fr) σ):Bm C n kd o K fr σ:=by
 subst hkd
 refine CC (by decide) (by decide) λB S w0 η φ a w hM=>⟨λe=>(by cases e),.inl ?_⟩
 obtain⟨b,G,hB⟩:=XY hM.mem hg
 obtain⟨q',u',hmk',hA⟩:=hB.here k y hb
 rw[hmk]at hmk'
 obtain⟨rfl,rfl⟩:q=q'/\u=u':=by simpa using hmk'
 have hi:=AV (AQ hg)
 have hj':=CQ hj
 have hgj':=CQ hgj
 have e1:=FO (Bb hM x) hx
 have e2:=M.repK _ _ _ _ (Eg (Bb hM ix) hix)
 have hr:=hB.map.lookup M.hk M.ht M.hz q false
 have hk:=hK
 rw[Bw]at hk
 let F1:=(φ i).filter (λc=>decide (c∉G k))
 have hF1:∀c,c∈F1↔c∈φ i/\c∉G k:=λc=>by simp only[F1,Az,decide_eq_true_eq]
 obtain⟨hm',hl⟩:=hM.mem.split hi hj' (F1:=F1) (F2:=G k) (v:=u) (o1:=(KK M A m (bs.set k .pin)).own) (o2:=(A y).own) (λc=>by
  rw[hF1]
  by_cases h:c∈G k
  ·exact⟨λ_=>.inr h,λ_=>(hB.mem c).2 (.inr (.inr ⟨k,h⟩))⟩
  ·exact⟨λh2=>.inl ⟨h2,h⟩,λh2=>h2.elim (·.1) (λh3=>absurd h3 h)⟩) (λc hc=>((hF1 c).1 hc).2) (λη' I' O'=>⟨b,_,hB.take hb hF1⟩) (λη' I' O'=>hA)
 have hM2:Models C B S w0 n fr ((j,(A y).own)::AX id i (KK M A m (bs.set k .pin)).own σ) (CE η j u) (CE (CE φ i F1) j (G k)) a w:=
  ⟨hm',hM.fr.later hl (λc hc=>⟨by
   have:=AZ id i (KK M A m (bs.set k .pin)).own σ
   unfold BA at this hc⊢
   rw[Ar,this];exact A9 _ hc,BU _ _ _ (λe=>hj' (e▸hc))⟩),hM.defers,hM.size⟩
 have hgn:g∉BA ((j,(A y).own)::AX id i (KK M A m (bs.set k .pin)).own σ):=λh=>by
  have:=AZ id i (KK M A m (bs.set k .pin)).own σ
  unfold BA at this h hgj'
  rw[Ar,this]at h
  rcases Ai.1 h with h|h
  ·exact hne h
  ·exact hgj' h
 obtain⟨hm3,hl3⟩:=hm'.add (Tch.refl [] w) hgn (v:=.nilFunc) (F:=[]) (o:=.ghost [u] [.own j]) (by simp) ⟨rfl,rfl,[[u]],by
  simp only[AE,AH]
  refine⟨_,_,rfl,⟨?_,?_⟩,rfl⟩
  ·unfold BA;simp
  ·rw[BU _ _ _ (λe=>hne e.symm),Ck],rfl⟩
 have hM3:Models C B S w0 n fr ((g,.ghost [u] [.own j])::(j,(A y).own)::AX id i (KK M A m (bs.set k .pin)).own σ) (CE (CE η j u) g .nilFunc) (CE (CE (CE φ i F1) j (G k)) g []) a w:=
  ⟨hm3,hM2.fr.later hl3 (λc hc=>⟨A9 _ hc,BU _ _ _ (λe=>hgn (e▸hc))⟩),hM.defers,hM.size⟩
 have hM4:=hM3.perm (((C7 g (.ghost [u] [.own j]) (Fm j (A y).own (AX id i (KK M A m (bs.set k .pin)).own σ))).trans ((C7 j (A y).own (AX id i (KK M A m (bs.set k .pin)).own σ)).cons _)))
 refine⟨u,w,?_,_,_,_,_,hM4.put hd (d:=.own j) ⟨[u],by
  simp only[AH]
  refine⟨?_,?_⟩
  ·unfold BA
   rw[((C7 g _ _).map _).mem_iff,Ar]
   refine A9 _ ?_
   rw[((C7 j _ _).map _).mem_iff];simp
  ·rw[BU _ _ _ (λe=>hne e.symm),Ck],rfl⟩,hk⟩
 simp only[execOp,ho]
 rw[e1,e2,hB.val]
 rw[hget]at hr
 simp only[CA,Gz,hV]at hr
 exact CZ hr
theorem QD.bagBack(i j g k:Nat) {q:κ} {u:Value} {y:ν}(hij:i≠j)(hg:BI i σ=some (AAz M A p m bs).own)(hb:bs[k]? =some .pin)(hmk:m[k]? =some (q,u))(hj:BI j σ=some (A y).own)(hgh:BI g σ=some (.ghost [u] [.own j])):
  QD C fr σ (Fj j .undef fr) (Dc (BM j .undef) j (AX id i (AAz M A p m (bs.set k (.here y))).own σ)):=by
 intro B S w0 w n η φ a hM
 obtain⟨b,G,hB⟩:=XY hM.mem hg
 have hA:(A y).R w (η j) (φ j):=hM.mem.own _ (AQ hj)
 have hu:η j=u:=by
  obtain⟨_,_,css,h1,h2⟩:=hM.mem.own _ (AQ hgh)
  simp only[AE,AH]at h1
  obtain⟨c1,c2,rfl,⟨_,rfl⟩,rfl⟩:=h1
  simpa[Ch]using h2.symm
 rw[hu]at hA
 have hi:=AV (AQ hg)
 have hj':=AV (AQ hj)
 obtain⟨hm',hl⟩:=hM.mem.merge hi hj' hij (F:=φ i++φ j) (λc=>Ag) (r:=AAz M A p m (bs.set k (.here y))) ⟨b,_,hB.back hb hmk hA (λc hc hc2=>hM.mem.disj j hj' i hi (λe=>hij e.symm) c hc hc2) (λc=>Ag)⟩
 refine⟨_,_,hm',hM.fr.kill rfl hl (λc hc hcj=>⟨?_,rfl⟩) (RepC.undef_ex _ _ _),hM.defers,hM.size⟩
 rw[DI,AZ,Az]
 exact⟨hc,by simpa using hcj⟩
theorem BagR.more {v:Value} {F:List Nat} {b:Nat} {G:Nat->List Nat} {w':World}(h:BagR M A .off m bs w v F b G)(t:Tch [b] w w') {q:κ} {u:Value}(hm:CK M.encK M.encV w' b (m++[(q,u)])):BagR M A .off (m++[(q,u)]) (bs++[.pin]) w' v F b G:=by
 refine⟨h.val,by rw[Ah,Ah,h.len];rfl,hm,λi z hi=>?_,λi hi=>?_,h.nb,h.nr,h.disj,h.mem⟩
 ·have hil:i<bs.length:=by
   apply EV
   intro hn
   rw[Bv (by omega)]at hi
   rcases Nat.eq_zero_or_pos (i-bs.length)with e|e
   ·rw[e]at hi;cases hi
   ·rw[AI (by simp;omega)]at hi;cases hi
  rw[Bi hil]at hi
  obtain⟨q',u',h1,h2⟩:=h.here i z hi
  exact⟨q',u',by rw[Bi (by rw[<-h.len];exact hil)];exact h1,(A z).keep _ _ _ _ _ h2 t (λx hx hb=>h.nb i (by rw[<-As.1 hb];exact hx))⟩
 ·refine h.none i λz hz=>hi z ?_
  rw[Bi (Ae.1 hz).1];exact hz
theorem AEw(i j:Nat)(q:κ) {y:ν} {x ix vx:Operand}(ho:o.op=.mapUpdate M.t x ix vx)(hV:∀v,M.encV v=v)(hx:ev C.Γ fr x=.own i)(hg:BI i σ=some (KK M A m bs).own)(hix:ev C.Γ fr ix=.d (M.dK q))(hv:ev C.Γ fr vx=.own j)(hget:∀u,Reg.put m q u=m++[(q,u)])(hj:BI j σ=some (A y).own)(hij:i≠j)(hkd:kd=3)(hd:Dh o.dst n=true)
  (hK:∀u,Gi (Fj j .undef fr) λfr=>Ci (Dc (BM j .undef) j (AX id i (KK M A (m++[(q,u)]) (bs++[.here y])).own σ)) λσ=>K (CF o.dst (.d .undef) fr) σ):Bm C n kd o K fr σ:=by
 subst hkd
 refine CC (by decide) (by decide) λB S w0 η φ a w hM=>⟨λe=>(by cases e),.inr ?_⟩
 have e1:=FO (Bb hM x) hx
 have e2:=M.repK _ _ _ _ (Eg (Bb hM ix) hix)
 have e3:=FO (Bb hM vx) hv
 obtain⟨b,G,h⟩:=XY hM.mem hg
 have hA:(A y).R w (η j) (φ j):=hM.mem.own _ (AQ hj)
 have hk:=hK (η j)
 rw[Ei,Bw]at hk
 obtain⟨w',hr,hm',ht⟩:=h.map.update M.hk M.ht q (η j)
 rw[hget]at hm'
 have hi:=AV (AQ hg)
 have hj':=AV (AQ hj)
 have hX:∀c∈[b],c∈φ i:=λc hc=>by rw[As.1 hc];exact(h.mem b).2 (.inl rfl)
 have hF:∀c∈φ i,c∈φ i\/w.heap.size<=c:=λc hc=>.inl hc
 have hB1:=h.more ht hm'
 have hl1:=Later.turn (σ:=σ) B ht hX hi hF id (KK M A (m++[(q,η j)]) (bs++[.pin])).own
 have hm1:=hM.mem.turnSame (o:=(KK M A (m++[(q,η j)]) (bs++[.pin])).own) ht hX hi hF ⟨b,G,hB1⟩
 have hids1:=AZ id i (KK M A (m++[(q,η j)]) (bs++[.pin])).own σ
 have hbj:b∉φ j:=hM.mem.disj i hi j hj' hij b (hX b (by simp))
 have hA':(A y).R w' (η j) (φ j):=(A y).keep _ _ _ _ _ hA ht (λc hc hb=>hbj (by rw[<-As.1 hb];exact hc))
 have hji:CE φ i (φ i) j=φ j:=BU _ _ _ (Ne.symm hij)
 have hB2:=hB1.back (k:=bs.length) (q:=q) (u:=η j) (y:=y) (by rw[Bv (Ax _),Dy];rfl) (by rw[h.len,Bv (Ax _),Dy];rfl) hA' (λc hc hc2=>hM.mem.disj j hj' i hi (λe=>hij e.symm) c hc hc2) (F1:=φ i++φ j) (λc=>Ag)
 have ebs:(bs++[Bg.pin]).set bs.length (.here y)=bs++[Bg.here y]:=by rw[Jy _ _ (Ax _),Dy];rfl
 rw[ebs]at hB2
 obtain⟨hm2,hl2⟩:=hm1.merge (i:=i) (j:=j) (by rw[hids1];exact hi) (by rw[hids1];exact hj') hij (F:=φ i++φ j) (λc=>by rw[Ck,hji,Ag]) (r:=KK M A (m++[(q,η j)]) (bs++[.here y])) ⟨b,_,hB2⟩
 have hst:=LY i (KK M A (m++[(q,η j)]) (bs++[.pin])).own (KK M A (m++[(q,η j)]) (bs++[.here y])).own σ
 rw[hst]at hm2 hl2
 refine⟨w',?_,_,_,_,_,Models.put ⟨hm2,?_,hM.defers,hM.size⟩ hd ⟨[Go.undef],by simp[AH,RepC],rfl⟩,hk⟩
 ·simp only[execOp,ho]
  rw[e1,e2,e3,h.val]
  rw[hV]at hr
  exact Wf hr
 ·have hf1:HE η (BA (AX id i (KK M A (m++[(q,η j)]) (bs++[.pin])).own σ)) (B++Ao (CE φ i (φ i)) (AX id i (KK M A (m++[(q,η j)]) (bs++[.pin])).own σ)) w' fr a:=hM.fr.later hl1 (λk hk=>⟨by rw[hids1];exact hk,rfl⟩)
  refine hf1.kill rfl hl2 (λk hk hkj=>⟨?_,rfl⟩) (RepC.undef_ex _ _ _)
  rw[DI,AZ,Az]
  rw[hids1]at hk
  exact⟨hk,by simpa using hkj⟩
theorem qZ {t ty:TypeId} {x:Operand} {a0:Addr} {e0:TyI}(hC:C.Ok T)(he:GQ t T=some e0)(hk1:e0.kd=1)(ho:o.op=.binOp .eql t x (.const (.pointer none)) ty)(hx:ev C.Γ fr x=.d (.raw (.pointer (some a0))))(hkd:kd=3)(hd:Dh o.dst n=true)
  (hK:K (CF o.dst (.d (.bool false)) fr) σ):Bm C n kd o K fr σ:=by
 subst hkd
 refine BQ (by decide) (by decide) hd λB S w0 η φ a w hM=>?_
 obtain⟨cs,r,e⟩:=Eg (Bb hM x) hx
 simp only[RepC]at r
 subst r
 have e:a.eval x=.pointer (some a0):=e
 refine .inr ⟨_,.bool false,hK,?_,⟨[.bool false],by simp[AH,RepC],rfl⟩,λh=>by cases h⟩
 simp only[execOp,ho]
 rw[e]
 refine CZ ?_
 have h2:=R8 (hC.ty he) (b:=false) (vx:=.pointer (some a0)) (vy:=.pointer none) (w:=w) (.inr ⟨rfl,by rw[hk1];exact⟨_,rfl⟩⟩) (by rw[hk1];rfl)
 simp[eqGuard,binOp,Act.eval,h2]
end
end Go.Sx
end
section
namespace Go.Sx
open Go Go.RowKit Go.Reg
section
variable {C:Cx} {σ:Sg} {B S:List Nat} {w0 w:World} {η:Nat->Value} {φ:Nat->List Nat}
theorem Mem.splitD(h:Mem C B S w0 σ η φ w) {i j:Nat}(hi:i∈BA σ)(hj:j∉BA σ) {F1 F2:List Nat}(hF:∀b,b∈φ i↔b∈F1\/b∈F2)(hd:∀b∈F1,b∉F2) {v:Value} {o1 o2:Own}
  (h1:∀η' I' O',Later (B++Ao φ σ) w O' w->(∀k∈BA σ,k∈I'/\η' k=η k)->(j∈I'/\η' j=v)->o1.holds η' I' O' w (η i) F1) (h2:∀η' I' O',Later (B++Ao φ σ) w O' w->(∀k∈BA σ,k∈I'/\η' k=η k)->(j∈I'/\η' j=v)->o2.holds η' I' O' w v F2):
  Mem C B S w0 ((j,o2)::AX id i o1 σ) (CE η j v) (CE (CE φ i F1) j F2) w/\Later (B++Ao φ σ) w (B++Ao (CE (CE φ i F1) j F2) ((j,o2)::AX id i o1 σ)) w:=by
 have hij:i≠j:=λe=>hj (e▸hi)
 have e1:CE (CE φ i F1) j F2 i=F1:=by rw[BU _ _ _ hij,Ck]
 have e2:CE (CE φ i F1) j F2 j=F2:=Ck _ _ _
 have e3:∀k,k≠i->k≠j->CE (CE φ i F1) j F2 k=φ k:=λk a b=>by rw[BU _ _ _ b,BU _ _ _ a]
 have hids:BA ((j,o2)::AX id i o1 σ)=j::BA σ:=by
  have:=AZ id i o1 σ
  unfold BA at this⊢
  rw[Ar,this]
 have hne:∀k∈BA σ,k≠j:=λk hk e=>hj (e▸hk)
 have hsub:∀k∈BA σ,∀b∈CE (CE φ i F1) j F2 k,b∈φ k:=λk hk b hb=>by
  by_cases e:k=i
  ·subst e;rw[e1]at hb;exact(hF b).2 (.inl hb)
  ·rw[e3 k e (hne k hk)]at hb;exact hb
 have hO:∀b,b∈B++Ao (CE (CE φ i F1) j F2) ((j,o2)::AX id i o1 σ)↔b∈B++Ao φ σ:=λb=>by
  simp only[Ag,Ta,hids,Ai]
  refine or_congr SD ⟨?_,?_⟩
  ·rintro⟨k,rfl|hk,hb⟩
   ·rw[e2]at hb;exact⟨i,hi,(hF b).2 (.inr hb)⟩
   ·exact⟨k,hk,hsub k hk b hb⟩
  ·rintro⟨k,hk,hb⟩
   by_cases e:k=i
   ·subst e
    rcases(hF b).1 hb with hb|hb
    ·exact⟨k,.inr hk,by rw[e1];exact hb⟩
    ·exact⟨j,.inl rfl,by rw[e2];exact hb⟩
   ·exact⟨k,.inr hk,by rw[e3 k e (hne k hk)];exact hb⟩
 have hl:Later (B++Ao φ σ) w (B++Ao (CE (CE φ i F1) j F2) ((j,o2)::AX id i o1 σ)) w:=⟨Ax _,λ_ _ _=>rfl,λb hn _ hm=>hn ((hO b).1 hm)⟩
 have hI:∀k∈BA σ,k∈BA ((j,o2)::AX id i o1 σ)/\CE η j v k=η k:=λk hk=>⟨by rw[hids];exact A9 _ hk,BU _ _ _ (hne k hk)⟩
 have hJ:j∈BA ((j,o2)::AX id i o1 σ)/\CE η j v j=v:=⟨by rw[hids];simp,Ck _ _ _⟩
 refine⟨⟨h.tch,?_,?_,?_,?_,h.out,λg hg=>(h.glob g hg).later hl⟩,hl⟩
 ·intro p hp
  rcases Ai.1 hp with rfl|hp
  ·simp only[Ck];exact h2 _ _ _ hl hI hJ
  ·rcases Gx hp with rfl|⟨q,hq,hqi,rfl⟩
   ·simp only[e1,BU _ _ _ hij];exact h1 _ _ _ hl hI hJ
   ·have hqj:=hne q.1 (AV hq)
    simp only[e3 q.1 hqi hqj,BU _ _ _ hqj]
    exact(h.own q hq).later hl (λk hk=>⟨by rw[hids];exact A9 _ hk,BU _ _ _ (hne k hk)⟩) (Tch.refl [] w) (λ_ _=>by simp)
 ·rw[hids];exact Cs.2 ⟨hj,h.nodup⟩
 ·intro k hk m hm hkm b hb1 hb2
  rw[hids]at hk hm
  rcases Ai.1 hk with ek|hk<;>rcases Ai.1 hm with em|hm
  ·exact hkm (ek.trans em.symm)
  ·rw[ek,e2]at hb1
   by_cases e:m=i
   ·rw[e,e1]at hb2;exact hd b hb2 hb1
   ·exact h.disj m hm i hi e b (hsub m hm b hb2) ((hF b).2 (.inr hb1))
  ·rw[em,e2]at hb2
   by_cases e:k=i
   ·rw[e,e1]at hb1;exact hd b hb1 hb2
   ·exact h.disj k hk i hi e b (hsub k hk b hb1) ((hF b).2 (.inr hb2))
  ·exact h.disj k hk m hm hkm b (hsub k hk b hb1) (hsub m hm b hb2)
 ·intro k hk b hb
  rw[hids]at hk
  rcases Ai.1 hk with ek|hk
  ·rw[ek,e2]at hb;exact h.new i hi b ((hF b).2 (.inr hb))
  ·exact h.new k hk b (hsub k hk b hb)
theorem Mem.mergeD(h:Mem C B S w0 σ η φ w) {i j:Nat}(hi:i∈BA σ)(hj:j∈BA σ)(hij:i≠j) {F:List Nat}(hF:∀b,b∈F↔b∈φ i\/b∈φ j) {r:Own}(hr:BM j .undef r=r)(h1:∀I' O',Later (B++Ao φ σ) w O' w->(∀k∈BA σ,k≠j->k∈I')->r.holds η I' O' w (η i) F):
  Mem C B S w0 (Dc (BM j .undef) j (AX id i r σ)) η (CE φ i F) w/\Later (B++Ao φ σ) w (B++Ao (CE φ i F) (Dc (BM j .undef) j (AX id i r σ))) w:=by
 have hids:BA (Dc (BM j .undef) j (AX id i r σ))=(BA σ).filter (· !=j):=by rw[DI,AZ]
 have hin:∀k,k∈BA (Dc (BM j .undef) j (AX id i r σ))↔k∈BA σ/\k≠j:=λk=>by rw[hids,Az];simp
 have e3:∀k,k≠i->CE φ i F k=φ k:=λk a=>BU _ _ _ a
 have hO:∀b,b∈B++Ao (CE φ i F) (Dc (BM j .undef) j (AX id i r σ))↔b∈B++Ao φ σ:=λb=>by
  simp only[Ag,Ta,hin]
  refine or_congr SD ⟨?_,?_⟩
  ·rintro⟨k,⟨hk,hkj⟩,hb⟩
   by_cases e:k=i
   ·subst e;rw[Ck]at hb
    rcases(hF b).1 hb with hb|hb
    ·exact⟨k,hk,hb⟩
    ·exact⟨j,hj,hb⟩
   ·rw[e3 k e]at hb;exact⟨k,hk,hb⟩
  ·rintro⟨k,hk,hb⟩
   by_cases e:k=i
   ·subst e;exact⟨k,⟨hk,hij⟩,by rw[Ck];exact(hF b).2 (.inl hb)⟩
   ·by_cases e2:k=j
    ·subst e2;exact⟨i,⟨hi,hij⟩,by rw[Ck];exact(hF b).2 (.inr hb)⟩
    ·exact⟨k,⟨hk,e2⟩,by rw[e3 k e];exact hb⟩
 have hl:Later (B++Ao φ σ) w (B++Ao (CE φ i F) (Dc (BM j .undef) j (AX id i r σ))) w:=⟨Ax _,λ_ _ _=>rfl,λb hn _ hm=>hn ((hO b).1 hm)⟩
 have hcov:∀k,k∈BA σ->k≠j->∀b∈CE φ i F k,b∈φ k\/(k=i/\b∈φ j):=λk hk _ b hb=>by
  by_cases e:k=i
  ·subst e;rw[Ck]at hb
   rcases(hF b).1 hb with hb|hb
   ·exact .inl hb
   ·exact .inr ⟨rfl,hb⟩
  ·rw[e3 k e]at hb;exact .inl hb
 refine⟨⟨h.tch,?_,?_,?_,?_,h.out,λg hg=>(h.glob g hg).later hl⟩,hl⟩
 ·intro p hp
  obtain⟨q,hq,hqj,rfl⟩:=Fh hp
  rcases Gx hq with rfl|⟨q',hq',hqi,rfl⟩
  ·simp only[Ck]
   show(BM j .undef r).holds η _ _ w (η i) F
   rw[hr];exact h1 _ _ hl (λk hk hkj=>(hin k).2 ⟨hk,hkj⟩)
  ·simp only[e3 q'.1 hqi]
   exact(h.own q' hq').kill rfl hl (λk hk hkj=>⟨(hin k).2 ⟨hk,hkj⟩,rfl⟩) (RepC.undef_ex _ _ _) (Tch.refl [] w) (λ_ _=>by simp)
 ·rw[hids];exact h.nodup.filter _
 ·intro k hk m hm hkm b hb1 hb2
  obtain⟨hk,hkj⟩:=(hin k).1 hk
  obtain⟨hm,hmj⟩:=(hin m).1 hm
  rcases hcov k hk hkj b hb1 with g1|⟨e1,g1⟩<;>rcases hcov m hm hmj b hb2 with g2|⟨e2,g2⟩
  ·exact h.disj k hk m hm hkm b g1 g2
  ·exact h.disj k hk j hj hkj b g1 g2
  ·exact h.disj m hm j hj hmj b g2 g1
  ·exact hkm (e1.trans e2.symm)
 ·intro k hk b hb
  obtain⟨hk,hkj⟩:=(hin k).1 hk
  rcases hcov k hk hkj b hb with g1|⟨_,g1⟩
  ·exact h.new k hk b g1
  ·exact h.new j hj b g1
end
end Go.Sx
end
section
namespace Go.Sx
open Go Go.RowKit Go.Reg
structure AbsD where
 R:World->Value->List Nat->Value->Prop
 keep:∀(S:List Nat) w w' v F z,R w v F z->Tch S w w'->(∀x∈F,x∉S)->R w' v F z
 lt:∀w v F z,R w v F z->∀x∈F,x<w.heap.size
 one:∀w v F z,R w v F z->v.oneCell'=true
 d:Da
def AbsD.own(A:AbsD):Own:=.absd (λw v F us=>∃z,us=[z]/\A.R w v F z) (λS w w' v F _us ⟨z,h1,h2⟩ t hd=>⟨z,h1,A.keep S w w' v F z h2 t hd⟩) (λw v F _us ⟨z,_,h2⟩=>A.lt w v F z h2) (λw v F _us ⟨z,_,h2⟩=>A.one w v F z h2) [.d A.d]
def FW {ν:Type}(A:ν->AbsD)(bs:List (Bg ν)):List Da:=bs.map λx=>match x with
 |.here y=>(A y).d
 |.pin=>.undef
structure BadR {P:Program} {κ ν:Type} [DecidableEq κ](M:MapE P κ Value)(A:ν->AbsD)(p:Bp κ)(m:List (κ×Value))(bs:List (Bg ν))(w:World)(v:Value)(F:List Nat)(zs:List Value)(b:Nat)(G:Nat->List Nat):Prop where
 val:v=.map (some b)
 len:bs.length=m.length
 zlen:zs.length=m.length
 map:p.At M w b m
 here:∀i y,bs[i]? =some (.here y)->∃q u z,m[i]? =some (q,u)/\zs[i]? =some z/\(A y).R w u (G i) z
 none:∀i,(∀y,bs[i]? ≠some (.here y))->G i=[]
 nb:∀i,b∉G i
 nr:∀x∈p.rb,∀i,x∉G i
 disj:∀i j x,i≠j->x∈G i->x∉G j
 mem:∀x,x∈F↔x=b\/x∈p.rb\/∃i,x∈G i
theorem BadR.keep {P:Program} {κ ν:Type} [DecidableEq κ] {M:MapE P κ Value} {A:ν->AbsD} {p:Bp κ} {m:List (κ×Value)} {bs:List (Bg ν)} {S:List Nat} {w w':World} {v:Value} {F:List Nat} {zs:List Value} {b:Nat} {G:Nat->List Nat}(h:BadR M A p m bs w v F zs b G)(t:Tch S w w')(hd:∀x∈F,x∉S):BadR M A p m bs w' v F zs b G:=
 ⟨h.val,h.len,h.zlen,h.map.keep t (λx hx=>hd x ((h.mem x).2 (.inr (.inl hx)))) (hd b ((h.mem b).2 (.inl rfl))),λi y hi=>by
  obtain⟨q,u,z,h1,h2,h3⟩:=h.here i y hi
  exact⟨q,u,z,h1,h2,(A y).keep S w w' u (G i) z h3 t (λx hx=>hd x ((h.mem x).2 (.inr (.inr ⟨i,hx⟩))))⟩,h.none,h.nb,h.nr,h.disj,h.mem⟩
theorem BadR.lt {P:Program} {κ ν:Type} [DecidableEq κ] {M:MapE P κ Value} {A:ν->AbsD} {p:Bp κ} {m:List (κ×Value)} {bs:List (Bg ν)} {w:World} {v:Value} {F:List Nat} {zs:List Value} {b:Nat} {G:Nat->List Nat}(h:BadR M A p m bs w v F zs b G):∀x∈F,x<w.heap.size:=by
 intro x hx
 rcases(h.mem x).1 hx with rfl|hx|⟨i,hx⟩
 ·exact h.map.mapAt.lt
 ·exact h.map.rlt x hx
 ·cases hb:bs[i]? with
  |none=>rw[h.none i (λy e=>by rw[hb]at e;cases e)]at hx;cases hx
  |
   some z=>
   cases z with
   |pin=>rw[h.none i (λy e=>by rw[hb]at e;cases e)]at hx;cases hx
   |
    here y=>
    obtain⟨q,u,z,_,_,h2⟩:=h.here i y hb
    exact(A y).lt w u (G i) z h2 x hx
section
variable {P:Program} {κ ν:Type} [DecidableEq κ](M:MapE P κ Value)(A:ν->AbsD)(p:Bp κ)(m:List (κ×Value))(bs:List (Bg ν))
def AEP(w:World)(v:Value)(F:List Nat)(us:List Value):Prop:=∃(zs:List Value) (b:Nat) (G:Nat->List Nat),us=[.tuple zs.toArray]/\BadR M A p m bs w v F zs b G
def DS:Own:=.absd (AEP M A p m bs) (by rintro S w w' v F us ⟨zs,b,G,h1,h2⟩ t hd;exact⟨zs,b,G,h1,h2.keep t hd⟩) (by rintro w v F us ⟨zs,b,G,_,h2⟩;exact h2.lt) (by rintro w v F us ⟨zs,b,G,_,h2⟩;rw[h2.val];rfl) [.d (.tuple (FW A bs))]
end
section
variable {C:Cx} {κ ν:Type} [DecidableEq κ] {M:MapE C.P κ Value} {A:ν->AbsD} {p:Bp κ} {m:List (κ×Value)} {bs:List (Bg ν)} {σ:Sg} {w w0:World} {B S:List Nat} {η:Nat->Value} {φ:Nat->List Nat} {n kd:Nat} {fr:Fr} {o:Oper} {K:Fr->Sg->Prop}
theorem JC(hm:Mem C B S w0 σ η φ w) {i:Nat}(hg:BI i σ=some (DS M A p m bs)):∃css b G,Aq (B++Ao φ σ) w (FW A bs) css/\BadR M A p m bs w (η i) (φ i) (List.zipWith Ea (FW A bs) css) b G:=by
 obtain⟨css0,h1,zs,b,G,h2,h3⟩:=hm.own _ (AQ hg)
 simp only[AE,AH,RepC]at h1
 obtain⟨c1,c2,rfl,⟨css,hr,rfl⟩,rfl⟩:=h1
 have h4:zs=List.zipWith Ea (FW A bs) css:=by
  have:[Value.tuple (List.zipWith Ea (FW A bs) css).toArray]=[Value.tuple zs.toArray]:=h2
  simpa using this.symm
 subst h4
 exact⟨css,b,G,hr,h3⟩
theorem BadR.take {zs zs':List Value} {v:Value} {F:List Nat} {b:Nat} {G:Nat->List Nat}(h:BadR M A p m bs w v F zs b G) {k:Nat} {y:ν}(hk:bs[k]? =some (.here y)) {F1:List Nat}(hF:∀x,x∈F1↔x∈F/\x∉G k)(hzl:zs'.length=zs.length)(hz:∀i,i≠k->zs'[i]? =zs[i]?):
  BadR M A p m (bs.set k .pin) w v F1 zs' b (λi=>if i=k then[]else G i):=by
 have hkl:k<bs.length:=(Ae.1 hk).1
 refine⟨h.val,by rw[Di];exact h.len,hzl.trans h.zlen,h.map,λi z hi=>?_,λi hi=>?_,λi=>?_,λx hx i=>?_,λi j x hij hx=>?_,λx=>?_⟩
 ·rw[Bf]at hi
  by_cases e:k=i
  ·subst e;rw[if_pos rfl,if_pos hkl]at hi;cases hi
  ·rw[if_neg e]at hi
   obtain⟨q,u,z',h1,h3,h2⟩:=h.here i z hi
   exact⟨q,u,z',h1,(hz i (λe2=>e e2.symm)).trans h3,by rw[if_neg (λe2=>e e2.symm)];exact h2⟩
 ·by_cases e:i=k
  ·rw[if_pos e]
  ·rw[if_neg e]
   refine h.none i λz hz=>hi z ?_
   rw[Bf,if_neg (λe2=>e e2.symm)];exact hz
 ·by_cases e:i=k
  ·rw[if_pos e];exact CT
  ·rw[if_neg e];exact h.nb i
 ·by_cases e:i=k
  ·rw[if_pos e];exact CT
  ·rw[if_neg e];exact h.nr x hx i
 ·by_cases e:i=k
  ·rw[if_pos e]at hx;cases hx
  ·rw[if_neg e]at hx
   by_cases e2:j=k
   ·rw[if_pos e2];exact CT
   ·rw[if_neg e2];exact h.disj i j x hij hx
 ·rw[hF,h.mem]
  constructor
  ·rintro⟨rfl|hx|⟨i,hx⟩,hn⟩
   ·exact .inl rfl
   ·exact .inr (.inl hx)
   ·refine .inr (.inr ⟨i,?_⟩)
    rw[if_neg (λe:i=k=>hn (by rw[<-e];exact hx))];exact hx
  ·rintro(rfl|hx|⟨i,hx⟩)
   ·exact⟨.inl rfl,h.nb k⟩
   ·exact⟨.inr (.inl hx),h.nr x hx k⟩
   ·by_cases e:i=k
    ·rw[if_pos e]at hx;cases hx
    ·rw[if_neg e]at hx
     exact⟨.inr (.inr ⟨i,hx⟩),h.disj i k x e hx⟩
theorem BadR.back {zs zs':List Value} {z:Value} {v:Value} {F:List Nat} {b:Nat} {G:Nat->List Nat}(h:BadR M A p m bs w v F zs b G) {k:Nat} {q:κ} {u:Value}(hk:bs[k]? =some .pin)(hm:m[k]? =some (q,u)) {y:ν} {Fy:List Nat}(hy:(A y).R w u Fy z)(hzk:zs'[k]? =some z)(hzl:zs'.length=zs.length)(hz:∀i,i≠k->zs'[i]? =zs[i]?)(hd:∀x∈Fy,x∉F) {F1:List Nat}(hF:∀x,x∈F1↔x∈F\/x∈Fy):
  BadR M A p m (bs.set k (.here y)) w v F1 zs' b (λi=>if i=k then Fy else G i):=by
 have hkl:k<bs.length:=(Ae.1 hk).1
 have hGk:G k=[]:=h.none k λz e=>by rw[hk]at e;cases e
 refine⟨h.val,by rw[Di];exact h.len,hzl.trans h.zlen,h.map,λi t hi=>?_,λi hi=>?_,λi=>?_,λx hx i=>?_,λi j x hij hx=>?_,λx=>?_⟩
 ·rw[Bf]at hi
  by_cases e:k=i
  ·subst e;rw[if_pos rfl,if_pos hkl]at hi;cases hi
   exact⟨q,u,z,hm,hzk,by rw[if_pos rfl];exact hy⟩
  ·rw[if_neg e]at hi
   obtain⟨q,u,z',h1,h3,h2⟩:=h.here i t hi
   exact⟨q,u,z',h1,(hz i (λe2=>e e2.symm)).trans h3,by rw[if_neg (λe2=>e e2.symm)];exact h2⟩
 ·by_cases e:i=k
  ·subst e
   exact absurd (by rw[Bf,if_pos rfl,if_pos hkl]) (hi y)
  ·rw[if_neg e]
   refine h.none i λz hz=>hi z ?_
   rw[Bf,if_neg (λe2=>e e2.symm)];exact hz
 ·by_cases e:i=k
  ·rw[if_pos e];exactλhb=>hd b hb ((h.mem b).2 (.inl rfl))
  ·rw[if_neg e];exact h.nb i
 ·by_cases e:i=k
  ·rw[if_pos e];exactλhb=>hd x hb ((h.mem x).2 (.inr (.inl hx)))
  ·rw[if_neg e];exact h.nr x hx i
 ·by_cases e:i=k
  ·rw[if_pos e]at hx
   rw[if_neg (λe2=>hij (e.trans e2.symm))]
   exactλhj=>hd x hx ((h.mem x).2 (.inr (.inr ⟨j,hj⟩)))
  ·rw[if_neg e]at hx
   by_cases e2:j=k
   ·rw[if_pos e2];exactλhj=>hd x hj ((h.mem x).2 (.inr (.inr ⟨i,hx⟩)))
   ·rw[if_neg e2];exact h.disj i j x hij hx
 ·rw[hF,h.mem]
  constructor
  ·rintro((rfl|hx|⟨i,hx⟩)|hx)
   ·exact .inl rfl
   ·exact .inr (.inl hx)
   ·refine .inr (.inr ⟨i,?_⟩)
    rw[if_neg (λe=>by rw[e,hGk]at hx;cases hx)];exact hx
   ·exact .inr (.inr ⟨k,by rw[if_pos rfl];exact hx⟩)
  ·rintro(rfl|hx|⟨i,hx⟩)
   ·exact .inl (.inl rfl)
   ·exact .inl (.inr (.inl hx))
   ·by_cases e:i=k
    ·rw[if_pos e]at hx;exact .inr hx
    ·rw[if_neg e]at hx;exact .inl (.inr (.inr ⟨i,hx⟩))
theorem SN {ds:List Da} {css:List (List Value)} {k:Nat} {a:Da} {c:List Value}:(List.zipWith Ea (ds.set k a) (css.set k c)).length=(List.zipWith Ea ds css).length/\(∀i,i≠k->(List.zipWith Ea (ds.set k a) (css.set k c))[i]? =(List.zipWith Ea ds css)[i]?)/\(k<ds.length->k<css.length->(List.zipWith Ea (ds.set k a) (css.set k c))[k]? =some (Ea a c)):=by
 refine⟨by simp only[List.length_zipWith,Di],λi hi=>?_,λh1 h2=>?_⟩
 ·rw[QJ,QJ,List.getElem?_set_ne (λe=>hi e.symm),List.getElem?_set_ne (λe=>hi e.symm)]
 ·rw[QJ,I3 h1,I3 h2]
theorem KJ(k:Nat)(x:Bg ν):FW A (bs.set k x)=(FW A bs).set k (match x with|.here y=>(A y).d|.pin=>.undef):=by unfold FW;rw[Dz]
theorem Uw(hV:∀v,M.encV v=v)(i j g k:Nat)(q:κ) {u:Value} {y:ν} {x ix:Operand}(ho:o.op=.lookup M.t x ix false)(hx:ev C.Γ fr x=.own i)(hg:BI i σ=some (DS M A .off m bs))(hix:ev C.Γ fr ix=.d (M.dK q))(hmk:m[k]? =some (q,u))(hget:Reg.get m q=some u)(hb:bs[k]? =some (.here y))(hj:BI j σ=none)(hgj:BI g σ=none)(hne:g≠j)(hkd:kd=3)(hd:Dh o.dst n=true)
  (hK:Ci (Fm g (.ghost [u] [.own j]) (Fm j (A y).own (AX id i (DS M A .off m (bs.set k .pin)) σ))) λσ=>K (CF o.dst (.own j) fr) σ):Bm C n kd o K fr σ:=by
 subst hkd
 refine CC (by decide) (by decide) λB S w0 η φ a w hM=>⟨λe=>(by cases e),.inl ?_⟩
 obtain⟨css,b,G,hR,hB⟩:=JC hM.mem hg
 obtain⟨q',u',z,hmk',hzk,hA⟩:=hB.here k y hb
 rw[hmk]at hmk'
 obtain⟨rfl,rfl⟩:q=q'/\u=u':=by simpa using hmk'
 have hi:=AV (AQ hg)
 have hj':=CQ hj
 have hgj':=CQ hgj
 have e1:=FO (Bb hM x) hx
 have e2:=M.repK _ _ _ _ (Eg (Bb hM ix) hix)
 have hmp:CK M.encK M.encV w b m:=hB.map
 have hr:=hmp.lookup M.hk M.ht M.hz q false
 have hk:=hK
 rw[Bw]at hk
 let F1:=(φ i).filter (λc=>decide (c∉G k))
 have hF1:∀c,c∈F1↔c∈φ i/\c∉G k:=λc=>by simp only[F1,Az,decide_eq_true_eq]
 obtain⟨hm',hl⟩:=hM.mem.splitD hi hj' (F1:=F1) (F2:=G k) (v:=u) (o1:=(DS M A .off m (bs.set k .pin))) (o2:=(A y).own) (λc=>by
  rw[hF1]
  by_cases h:c∈G k
  ·exact⟨λ_=>.inr h,λ_=>(hB.mem c).2 (.inr (.inr ⟨k,h⟩))⟩
  ·exact⟨λh2=>.inl ⟨h2,h⟩,λh2=>h2.elim (·.1) (λh3=>absurd h3 h)⟩) (λc hc=>((hF1 c).1 hc).2) (λη' I' O' hl' _ _=>by
   obtain⟨s1,s2,_⟩:=SN (ds:=FW A bs) (css:=css) (k:=k) (a:=.undef) (c:=[Go.undef])
   refine⟨[[.tuple (List.zipWith Ea ((FW A bs).set k .undef) (css.set k [Go.undef])).toArray]],?_,?_⟩
   ·simp only[AE,AH,RepC]
    refine⟨_,_,rfl,⟨css.set k [Go.undef],?_,by rw[KJ]⟩,rfl⟩
    rw[KJ]
    exact Aq.later hl' _ _ (Jd hR k (d:=.undef) (by simp[RepC]))
   ·exact⟨_,b,_,rfl,hB.take hb hF1 s1 s2⟩) (λη' I' O' hl' _ _=>by
   have hzk':=hzk
   rw[QJ]at hzk'
   have hd1:(FW A bs)[k]? =some (A y).d:=by unfold FW;rw[Ad,hb];rfl
   obtain⟨c,hc1,hc2⟩:=IM hR hd1
   rw[hd1,hc1]at hzk'
   have hzz:Ea (A y).d c=z:=by simpa using hzk'
   refine⟨[c],?_,?_⟩
   ·simp only[AE,AH]
    exact⟨_,_,rfl,RepC.later hl' _ _ hc2,rfl⟩
   ·exact⟨z,by simp[Ch,hzz],hA⟩)
 have hM2:Models C B S w0 n fr ((j,(A y).own)::AX id i (DS M A .off m (bs.set k .pin)) σ) (CE η j u) (CE (CE φ i F1) j (G k)) a w:=
  ⟨hm',hM.fr.later hl (λc hc=>⟨by
   have:=AZ id i (DS M A .off m (bs.set k .pin)) σ
   unfold BA at this hc⊢
   rw[Ar,this];exact A9 _ hc,BU _ _ _ (λe=>hj' (e▸hc))⟩),hM.defers,hM.size⟩
 have hgn:g∉BA ((j,(A y).own)::AX id i (DS M A .off m (bs.set k .pin)) σ):=λh=>by
  have:=AZ id i (DS M A .off m (bs.set k .pin)) σ
  unfold BA at this h hgj'
  rw[Ar,this]at h
  rcases Ai.1 h with h|h
  ·exact hne h
  ·exact hgj' h
 obtain⟨hm3,hl3⟩:=hm'.add (Tch.refl [] w) hgn (v:=.nilFunc) (F:=[]) (o:=.ghost [u] [.own j]) (by simp) ⟨rfl,rfl,[[u]],by
  simp only[AE,AH]
  refine⟨_,_,rfl,⟨?_,?_⟩,rfl⟩
  ·unfold BA;simp
  ·rw[BU _ _ _ (λe=>hne e.symm),Ck],rfl⟩
 have hM3:Models C B S w0 n fr ((g,.ghost [u] [.own j])::(j,(A y).own)::AX id i (DS M A .off m (bs.set k .pin)) σ) (CE (CE η j u) g .nilFunc) (CE (CE (CE φ i F1) j (G k)) g []) a w:=
  ⟨hm3,hM2.fr.later hl3 (λc hc=>⟨A9 _ hc,BU _ _ _ (λe=>hgn (e▸hc))⟩),hM.defers,hM.size⟩
 have hM4:=hM3.perm (((C7 g (.ghost [u] [.own j]) (Fm j (A y).own (AX id i (DS M A .off m (bs.set k .pin)) σ))).trans ((C7 j (A y).own (AX id i (DS M A .off m (bs.set k .pin)) σ)).cons _)))
 refine⟨u,w,?_,_,_,_,_,hM4.put hd (d:=.own j) ⟨[u],by
  simp only[AH]
  refine⟨?_,?_⟩
  ·unfold BA
   rw[((C7 g _ _).map _).mem_iff,Ar]
   refine A9 _ ?_
   rw[((C7 j _ _).map _).mem_iff];simp
  ·rw[BU _ _ _ (λe=>hne e.symm),Ck],rfl⟩,hk⟩
 simp only[execOp,ho]
 rw[e1,e2,hB.val]
 rw[hget]at hr
 simp only[CA,Gz,hV]at hr
 exact CZ hr
theorem Ri {A:AbsD}(hm:Mem C B S w0 σ η φ w) {j:Nat}(hj:BI j σ=some A.own):∃c,RepC (B++Ao φ σ) w A.d c/\A.R w (η j) (φ j) (Ea A.d c):=by
 obtain⟨cs,h1,z,h2,h3⟩:=hm.own _ (AQ hj)
 simp only[AE,AH]at h1
 obtain⟨c1,c2,rfl,hc,rfl⟩:=h1
 have:[Ea A.d c1]=[z]:=h2
 simp only[D2,and_true]at this
 subst this
 exact⟨c1,hc,h3⟩
theorem Xr {b:Nat} {G:Nat->List Nat} {F1:List Nat} {v:Value} {k:Nat} {y:ν} {c:List Value} {css:List (List Value)} {I' O':List Nat} {η':Nat->Value}(hl':Later (B++Ao φ σ) w O' w)(hR:Aq (B++Ao φ σ) w (FW A bs) css)(hc:RepC (B++Ao φ σ) w (A y).d c)(h:BadR M A p m (bs.set k (.here y)) w v F1 (List.zipWith Ea ((FW A bs).set k (A y).d) (css.set k c)) b G):(DS M A p m (bs.set k (.here y))).holds η' I' O' w v F1:=by
 refine⟨[[.tuple (List.zipWith Ea ((FW A bs).set k (A y).d) (css.set k c)).toArray]],?_,?_⟩
 ·simp only[AE,AH,RepC]
  refine⟨_,_,rfl,⟨css.set k c,?_,by rw[KJ]⟩,rfl⟩
  rw[KJ]
  exact Aq.later hl' _ _ (Jd hR k hc)
 ·exact⟨_,b,G,rfl,h⟩
theorem QD.badBack(i j g k:Nat) {q:κ} {u:Value} {y:ν}(hij:i≠j)(hg:BI i σ=some (DS M A p m bs))(hb:bs[k]? =some .pin)(hmk:m[k]? =some (q,u))(hj:BI j σ=some (A y).own)(hgh:BI g σ=some (.ghost [u] [.own j])):
  QD C fr σ (Fj j .undef fr) (Dc (BM j .undef) j (AX id i (DS M A p m (bs.set k (.here y))) σ)):=by
 intro B S w0 w n η φ a hM
 obtain⟨css,b,G,hR,hB⟩:=JC hM.mem hg
 obtain⟨c,hc,hA⟩:=Ri hM.mem hj
 have hu:η j=u:=by
  obtain⟨_,_,css,h1,h2⟩:=hM.mem.own _ (AQ hgh)
  simp only[AE,AH]at h1
  obtain⟨c1,c2,rfl,⟨_,rfl⟩,rfl⟩:=h1
  simpa[Ch]using h2.symm
 rw[hu]at hA
 have hi:=AV (AQ hg)
 have hj':=AV (AQ hj)
 have hkl:=(Ae.1 hb).1
 obtain⟨s1,s2,s3⟩:=SN (ds:=FW A bs) (css:=css) (k:=k) (a:=(A y).d) (c:=c)
 have hxl:(FW A bs).length=bs.length:=Ac _
 have hcl:=De hR
 have hB2:=hB.back hb hmk hA (s3 (by omega) (by omega)) s1 s2 (λc hc hc2=>hM.mem.disj j hj' i hi (λe=>hij e.symm) c hc hc2) (F1:=φ i++φ j) (λc=>Ag)
 obtain⟨hm',hl⟩:=hM.mem.mergeD hi hj' hij (F:=φ i++φ j) (λc=>Ag) (r:=DS M A p m (bs.set k (.here y))) rfl (λI' O' hl' _=>Xr hl' hR hc hB2)
 refine⟨_,_,hm',hM.fr.kill rfl hl (λc hc hcj=>⟨?_,rfl⟩) (RepC.undef_ex _ _ _),hM.defers,hM.size⟩
 rw[DI,AZ,Az]
 exact⟨hc,by simpa using hcj⟩
theorem BadR.more {zs:List Value} {v:Value} {F:List Nat} {b:Nat} {G:Nat->List Nat} {w':World}(h:BadR M A .off m bs w v F zs b G)(t:Tch [b] w w') {q:κ} {u z0:Value}(hm:CK M.encK M.encV w' b (m++[(q,u)])):BadR M A .off (m++[(q,u)]) (bs++[.pin]) w' v F (zs++[z0]) b G:=by
 refine⟨h.val,by rw[Ah,Ah,h.len];rfl,by rw[Ah,Ah,h.zlen];rfl,hm,λi z hi=>?_,λi hi=>?_,h.nb,h.nr,h.disj,h.mem⟩
 ·have hil:i<bs.length:=by
   apply EV
   intro hn
   rw[Bv (by omega)]at hi
   rcases Nat.eq_zero_or_pos (i-bs.length)with e|e
   ·rw[e]at hi;cases hi
   ·rw[AI (by simp;omega)]at hi;cases hi
  rw[Bi hil]at hi
  obtain⟨q',u',z',h1,h3,h2⟩:=h.here i z hi
  exact⟨q',u',z',by rw[Bi (by rw[<-h.len];exact hil)];exact h1,by rw[Bi (by rw[h.zlen,<-h.len];exact hil)];exact h3,(A z).keep _ _ _ _ _ _ h2 t (λx hx hb=>h.nb i (by rw[<-As.1 hb];exact hx))⟩
 ·refine h.none i λz hz=>hi z ?_
  rw[Bi (Ae.1 hz).1];exact hz
theorem RM(x:Bg ν):FW A (bs++[x])=FW A bs++[match x with|.here y=>(A y).d|.pin=>.undef]:=by unfold FW;rw[A7];rfl
theorem uK {ds:List Da} {css:List (List Value)}(h:ds.length=css.length)(a:Da)(c:List Value):List.zipWith Ea (ds++[a]) (css++[c])=List.zipWith Ea ds css++[Ea a c]:=by rw[List.zipWith_append h];rfl
theorem rC(i j:Nat)(q:κ) {y:ν} {x ix vx:Operand}(ho:o.op=.mapUpdate M.t x ix vx)(hV:∀v,M.encV v=v)(hx:ev C.Γ fr x=.own i)(hg:BI i σ=some (DS M A .off m bs))(hix:ev C.Γ fr ix=.d (M.dK q))(hv:ev C.Γ fr vx=.own j)(hget:∀u,Reg.put m q u=m++[(q,u)])(hj:BI j σ=some (A y).own)(hij:i≠j)(hkd:kd=3)(hd:Dh o.dst n=true)
  (hK:∀u,Gi (Fj j .undef fr) λfr=>Ci (Dc (BM j .undef) j (AX id i (DS M A .off (m++[(q,u)]) (bs++[.here y])) σ)) λσ=>K (CF o.dst (.d .undef) fr) σ):Bm C n kd o K fr σ:=by
 subst hkd
 refine CC (by decide) (by decide) λB S w0 η φ a w hM=>⟨λe=>(by cases e),.inr ?_⟩
 have e1:=FO (Bb hM x) hx
 have e2:=M.repK _ _ _ _ (Eg (Bb hM ix) hix)
 have e3:=FO (Bb hM vx) hv
 obtain⟨css,b,G,hR,h⟩:=JC hM.mem hg
 obtain⟨c,hc,hA⟩:=Ri hM.mem hj
 have hk:=hK (η j)
 rw[Ei,Bw]at hk
 have hmap:CK M.encK M.encV w b m:=h.map
 obtain⟨w',hr,hm',ht⟩:=hmap.update M.hk M.ht q (η j)
 rw[hget]at hm'
 have hi:=AV (AQ hg)
 have hj':=AV (AQ hj)
 have hX:∀c∈[b],c∈φ i:=λc hc=>by rw[As.1 hc];exact(h.mem b).2 (.inl rfl)
 have hF:∀c∈φ i,c∈φ i\/w.heap.size<=c:=λc hc=>.inl hc
 have hxl:(FW A bs).length=css.length:=(De hR).symm
 have hB1:=h.more ht (z0:=Ea .undef [Go.undef]) hm'
 rw[<-uK hxl]at hB1
 have hl1:=Later.turn (σ:=σ) B ht hX hi hF id (DS M A .off (m++[(q,η j)]) (bs++[.pin]))
 have hR1:Aq (B++Ao (CE φ i (φ i)) (AX id i (DS M A .off (m++[(q,η j)]) (bs++[.pin])) σ)) w' (FW A (bs++[.pin])) (css++[[Go.undef]]):=by
  rw[RM]
  exact FJ (Aq.later hl1 _ _ hR) (by simp only[Aq,RepC];exact⟨_,_,rfl,⟨_,rfl⟩,rfl⟩)
 rw[<-show FW A (bs++[Bg.pin])=FW A bs++[.undef]from RM _]at hB1
 have hm1:=hM.mem.turnSame (o:=DS M A .off (m++[(q,η j)]) (bs++[.pin])) ht hX hi hF ⟨[[.tuple (List.zipWith Ea (FW A (bs++[.pin])) (css++[[Go.undef]])).toArray]],by
  simp only[AE,AH,RepC]
  exact⟨_,_,rfl,⟨_,hR1,rfl⟩,rfl⟩,_,b,G,rfl,hB1⟩
 have hids1:=AZ id i (DS M A .off (m++[(q,η j)]) (bs++[.pin])) σ
 have hbj:b∉φ j:=hM.mem.disj i hi j hj' hij b (hX b (by simp))
 have hA':(A y).R w' (η j) (φ j) (Ea (A y).d c):=(A y).keep _ _ _ _ _ _ hA ht (λc hc hb=>hbj (by rw[<-As.1 hb];exact hc))
 have hji:CE φ i (φ i) j=φ j:=BU _ _ _ (Ne.symm hij)
 obtain⟨s1,s2,s3⟩:=SN (ds:=FW A (bs++[.pin])) (css:=css++[[Go.undef]]) (k:=bs.length) (a:=(A y).d) (c:=c)
 have hbl:(FW A bs).length=bs.length:=Ac _
 have hbl2:(FW A (bs++[Bg.pin])).length=bs.length+1:=by rw[RM,Ah,hbl];rfl
 have hB2:=hB1.back (k:=bs.length) (q:=q) (u:=η j) (y:=y) (by rw[Bv (Ax _),Dy];rfl) (by rw[h.len,Bv (Ax _),Dy];rfl) hA' (s3 (by omega) (by rw[Ah,<-hxl,hbl];simp)) s1 s2 (λc hc hc2=>hM.mem.disj j hj' i hi (λe=>hij e.symm) c hc hc2) (F1:=φ i++φ j) (λc=>Ag)
 have ebs:(bs++[Bg.pin]).set bs.length (.here y)=bs++[Bg.here y]:=by rw[Jy _ _ (Ax _),Dy];rfl
 obtain⟨hm2,hl2⟩:=hm1.mergeD (i:=i) (j:=j) (by rw[hids1];exact hi) (by rw[hids1];exact hj') hij (F:=φ i++φ j) (λc=>by rw[Ck,hji,Ag]) (r:=DS M A .off (m++[(q,η j)]) ((bs++[Bg.pin]).set bs.length (.here y))) rfl (λI' O' hl' _=>Xr hl' hR1 (RepC.later hl1 _ _ hc) hB2)
 rw[ebs]at hm2 hl2
 have hst:=LY i (DS M A .off (m++[(q,η j)]) (bs++[.pin])) (DS M A .off (m++[(q,η j)]) (bs++[.here y])) σ
 rw[hst]at hm2 hl2
 refine⟨w',?_,_,_,_,_,Models.put ⟨hm2,?_,hM.defers,hM.size⟩ hd ⟨[Go.undef],by simp[AH,RepC],rfl⟩,hk⟩
 ·simp only[execOp,ho]
  rw[e1,e2,e3,h.val]
  rw[hV]at hr
  exact Wf hr
 ·have hf1:HE η (BA (AX id i (DS M A .off (m++[(q,η j)]) (bs++[.pin])) σ)) (B++Ao (CE φ i (φ i)) (AX id i (DS M A .off (m++[(q,η j)]) (bs++[.pin])) σ)) w' fr a:=hM.fr.later hl1 (λk hk=>⟨by rw[hids1];exact hk,rfl⟩)
  refine hf1.kill rfl hl2 (λk hk hkj=>⟨?_,rfl⟩) (RepC.undef_ex _ _ _)
  rw[DI,AZ,Az]
  rw[hids1]at hk
  exact⟨hk,by simpa using hkj⟩
theorem iT(M:MapE C.P κ Value)(A:ν->AbsD)(j:Nat)(ho:o.op=.makeMap M.t none)(hj:BI j σ=none)(hkd:kd=6\/kd=3)(hd:Dh o.dst n=true)
  (hK:Ci (Fm j (DS M A .off [] []) σ) λσ=>K (CF o.dst (.own j) fr) σ):Bm C n kd o K fr σ:=by
 rw[Bw]at hK
 refine CC (by rcases hkd with rfl|rfl<;>decide) (by rcases hkd with rfl|rfl<;>decide) λB S w0 η φ a w hM=>⟨λe=>(by rcases hkd with rfl|rfl<;>cases e),.inl ?_⟩
 have M':=hM.add (Tch.alloc w (.map #[] 0) []) (CQ hj) (o:=DS M A .off [] []) (v:=.map (some w.heap.size)) (F:=[w.heap.size]) (by simp) (λO' _=>⟨[[.tuple #[]]],by
  simp only[AE,AH,RepC,FW,Bu,Aq]
  exact⟨_,_,rfl,⟨[],rfl,rfl⟩,rfl⟩,[],w.heap.size,λ_=>[],rfl,rfl,rfl,rfl,CK.new _ _ _,λi y hi=>(by simp at hi),λ_ _=>rfl,λ_=>CT,λx hx=>(by cases hx),λi j x _ hx=>(by cases hx),λx=>(by simp[Bp.rb])⟩) hd
 refine⟨_,_,?_,_,_,_,_,M'.perm (C7 _ _ _),hK⟩
 simp only[execOp,ho]
 exact CZ (by rfl)
theorem iR(i:Nat)(q:κ) {x ix:Operand}(ho:o.op=.lookup M.t x ix false)(hz:M.encV M.z=.pointer none)(hx:ev C.Γ fr x=.own i)(hg:BI i σ=some (DS M A .off m bs))(hix:ev C.Γ fr ix=.d (M.dK q))(hget:Reg.get m q=none)(hkd:kd≠5/\kd≠2)(hd:Dh o.dst n=true)
  (hK:K (CF o.dst (.d .nilp) fr) σ):Bm C n kd o K fr σ:=by
 refine BQ hkd.1 hkd.2 hd λB S w0 η φ a w hM=>?_
 obtain⟨css,b,G,hR,h⟩:=JC hM.mem hg
 have hmp:CK M.encK M.encV w b m:=h.map
 have e1:=FO (Bb hM x) hx
 have e2:=M.repK _ _ _ _ (Eg (Bb hM ix) hix)
 have hr:=hmp.lookup M.hk M.ht M.hz q false
 rw[hget]at hr
 simp only[V6,Option.getD_none,hz]at hr
 refine .inr ⟨_,.pointer none,hK,?_,⟨[.pointer none],by simp[AH,RepC],rfl⟩,λ_=>by simp[BG,ho]⟩
 simp only[execOp,ho]
 rw[e1,e2,h.val]
 exact CZ hr
theorem rB(i k:Nat)(q:κ) {u:Value} {y:ν} {x ix:Operand}(ho:o.op=.lookup M.t x ix false)(hV:∀v,M.encV v=v)(hx:ev C.Γ fr x=.own i)(hg:BI i σ=some (DS M A .off m bs))(hix:ev C.Γ fr ix=.d (M.dK q))(hmk:m[k]? =some (q,u))(hget:Reg.get m q=some u)(hb:bs[k]? =some (.here y))(hp:∀w F z,(A y).R w u F z->∃b,u=.pointer (some ⟨b,0,none⟩))(hkd:kd≠5/\kd≠2)(hd:Dh o.dst n=true)
  (hK:∀b,u=.pointer (some ⟨b,0,none⟩)->K (CF o.dst (.d (.raw u)) fr) σ):Bm C n kd o K fr σ:=by
 refine BQ hkd.1 hkd.2 hd λB S w0 η φ a w hM=>?_
 obtain⟨css,b,G,hR,h⟩:=JC hM.mem hg
 have hmp:CK M.encK M.encV w b m:=h.map
 obtain⟨q',u',z,hmk',_,hA⟩:=h.here k y hb
 rw[hmk]at hmk'
 obtain⟨rfl,rfl⟩:q=q'/\u=u':=by simpa using hmk'
 obtain⟨c,hc⟩:=hp w _ _ hA
 have e1:=FO (Bb hM x) hx
 have e2:=M.repK _ _ _ _ (Eg (Bb hM ix) hix)
 have hr:=hmp.lookup M.hk M.ht M.hz q false
 rw[hget]at hr
 simp only[CA,Gz,hV]at hr
 refine .inr ⟨_,u,hK c hc,?_,⟨[u],by simp[AH,RepC],rfl⟩,λ_=>by simp[BG,ho]⟩
 simp only[execOp,ho]
 rw[e1,e2,h.val]
 exact CZ hr
theorem ZZ(i:Nat) {x:Operand}(ho:o.op=.range M.t x)(hx:ev C.Γ fr x=.own i)(hg:BI i σ=some (DS M A .off m bs))(hkd:kd≠5/\kd≠2/\kd≠0)(hd:Dh o.dst n=true)
  (hK:∀r,Ci (AX id i (DS M A (.it r m) m bs) σ) λσ=>K (CF o.dst (.d (.raw (.pointer (some ⟨r,0,none⟩)))) fr) σ):Bm C n kd o K fr σ:=by
 refine CC hkd.1 hkd.2.1 λB S w0 η φ a w hM=>⟨λe=>absurd e hkd.2.2,.inl ?_⟩
 have e1:=FO (Bb hM x) hx
 obtain⟨css,b,G,hR,h⟩:=JC hM.mem hg
 have hmap:CK M.encK M.encV w b m:=h.map
 obtain⟨w',hr,hI,ht⟩:=hmap.range (P:=C.P) (t:=M.t) M.ht
 have hk:=hK w.heap.size
 rw[Bw]at hk
 have hi:=AV (AQ hg)
 have hF:∀c∈φ i++[w.heap.size],c∈φ i\/w.heap.size<=c:=λc hc=>by
  rcases Ag.1 hc with hc|hc
  ·exact .inl hc
  ·exact .inr (by rw[As.1 hc];exact Ax _)
 have hX:∀c∈([]:List Nat),c∈φ i:=λc hc=>by cases hc
 have hlt:∀c∈φ i,c<w.heap.size:=h.lt
 have hl:=Later.turn (σ:=σ) B ht hX hi hF id (DS M A (.it w.heap.size m) m bs)
 have hmm:=hM.mem.turnSame ht hX hi hF (o:=(DS M A (.it w.heap.size m) m bs)) ⟨[[.tuple (List.zipWith Ea (FW A bs) css).toArray]],by
   simp only[AE,AH,RepC]
   exact⟨_,_,rfl,⟨_,Aq.later hl _ _ hR,rfl⟩,rfl⟩,_,b,G,rfl,h.val,h.len,h.zlen,hI,λi y hi=>(by
   obtain⟨q,u,z,h1,h3,h2⟩:=h.here i y hi
   exact⟨q,u,z,h1,h3,(A y).keep _ _ _ _ _ _ h2 ht (λx _ hb=>by cases hb)⟩),h.none,h.nb,λx hx i hxi=>by
   rw[As.1 hx]at hxi
   have:=hlt _ ((h.mem _).2 (.inr (.inr ⟨i,hxi⟩)));omega,h.disj,λx=>by
   rw[Ag,h.mem,As]
   simp only[Bp.rb,As,CT,false_or]
   constructor
   ·rintro((h|h)|h)
    ·exact .inl h
    ·exact .inr (.inr h)
    ·exact .inr (.inl h)
   ·rintro(h|h|h)
    ·exact .inl (.inl h)
    ·exact .inr h
    ·exact .inl (.inr h)⟩
 have M':Models C B S w0 n fr _ η _ a w':=⟨hmm,hM.fr.later hl (λj hj=>⟨by rw[AZ];exact hj,rfl⟩),hM.defers,hM.size⟩
 refine⟨.pointer (some ⟨w.heap.size,0,none⟩),w',?_,_,_,_,_,M'.put hd ⟨[.pointer (some ⟨w.heap.size,0,none⟩)],by simp only[AH,RepC],rfl⟩,hk⟩
 simp only[execOp,ho]
 rw[e1,h.val]
 exact CZ hr
theorem iS(i r:Nat) {todo:List (κ×Value)} {x:Operand} {ty:TypeId}(ho:o.op=.next x false)(hty:o.type=ty)(hx:ev C.Γ fr x=.d (.raw (.pointer (some ⟨r,0,none⟩))))(hg:BI i σ=some (DS M A (.it r todo) m bs))(hkd:kd≠5/\kd≠2/\kd≠0)(hd:Dh o.dst n=true)
  (h1:todo=[]->K (CF o.dst (.d (.tuple [.bool false])) fr) σ)
  (h2:∀p todo',todo.Perm (p::todo')->Ci (AX id i (DS M A (.on r todo' p) m bs) σ) λσ=>K (CF o.dst (.d (.tuple [.bool true,.undef,.undef])) fr) σ):Bm C n kd o K fr σ:=by
 refine CC hkd.1 hkd.2.1 λB S w0 η φ a w hM=>⟨λe=>absurd e hkd.2.2,.inl ?_⟩
 obtain⟨cs,g1,e1⟩:=Eg (Bb hM x) hx
 simp only[RepC]at g1
 subst g1
 obtain⟨css,b,G,hR,h⟩:=JC hM.mem hg
 have hi:=AV (AQ hg)
 have hF:∀c∈φ i,c∈φ i\/w.heap.size<=c:=λc hc=>.inl hc
 have hI:Ew M.encK M.encV w r b m todo:=h.map
 rcases hI.next (P:=C.P) ty with⟨h0,hr⟩|⟨p,todo',w',hp,hr,hon,ht⟩
 ·refine⟨.tuple #[.bool false],w,?_,_,_,_,_,hM.put hd ⟨[.tuple #[.bool false]],?_,rfl⟩,h1 h0⟩
  ·simp only[execOp,ho,hty]
   rw[e1]
   exact CZ hr
  ·simp only[AH,RepC,Aq]
   exact⟨[[.bool false]],⟨_,_,rfl,rfl,rfl⟩,rfl⟩
 ·have hk:=h2 p todo' hp
  rw[Bw]at hk
  have hX:∀c∈[r],c∈φ i:=λc hc=>by rw[As.1 hc];exact(h.mem r).2 (.inr (.inl (As.2 rfl)))
  have hl:=Later.turn (σ:=σ) B ht hX hi hF id (DS M A (.on r todo' p) m bs)
  have hmm:=hM.mem.turnSame ht hX hi hF (o:=(DS M A (.on r todo' p) m bs)) ⟨[[.tuple (List.zipWith Ea (FW A bs) css).toArray]],by
   simp only[AE,AH,RepC]
   exact⟨_,_,rfl,⟨_,Aq.later hl _ _ hR,rfl⟩,rfl⟩,_,b,G,rfl,h.val,h.len,h.zlen,hon,λi y hi=>(by
   obtain⟨q,u,z,h1,h3,h2⟩:=h.here i y hi
   exact⟨q,u,z,h1,h3,(A y).keep _ _ _ _ _ _ h2 ht (λx hx hb=>h.nr r (As.2 rfl) i (by rw[<-As.1 hb];exact hx))⟩),h.none,h.nb,h.nr,h.disj,h.mem⟩
  have M':Models C B S w0 n fr _ η _ a w':=⟨hmm,hM.fr.later hl (λj hj=>⟨by rw[AZ];exact hj,rfl⟩),hM.defers,hM.size⟩
  refine⟨.tuple #[.bool true,M.encK p.1,M.encV p.2],w',?_,_,_,_,_,M'.put hd ⟨[.tuple #[.bool true,M.encK p.1,M.encV p.2]],?_,rfl⟩,hk⟩
  ·simp only[execOp,ho,hty]
   rw[e1]
   exact CZ hr
  ·simp only[AH,RepC,Aq]
   exact⟨[[.bool true],[M.encK p.1],[M.encV p.2]],⟨_,_,rfl,rfl,_,_,rfl,⟨_,rfl⟩,_,_,rfl,⟨_,rfl⟩,rfl⟩,rfl⟩
theorem aA(i j g k r:Nat) {todo:List (κ×Value)} {p:κ×Value} {y:ν} {x:Operand}(ho:o.op=.entry x)(hV:∀v,M.encV v=v)(hx:ev C.Γ fr x=.d (.raw (.pointer (some ⟨r,0,none⟩))))(hg:BI i σ=some (DS M A (.on r todo p) m bs))(hmk:m[k]? =some p)(hb:bs[k]? =some (.here y))(hj:BI j σ=none)(hgj:BI g σ=none)(hne:g≠j)(hkd:kd=3)(hd:Dh o.dst n=true)
  (hK:Ci (Fm g (.ghost [p.2] [.own j]) (Fm j (A y).own (AX id i (DS M A (.it r todo) m (bs.set k .pin)) σ))) λσ=>K (CF o.dst (.tuple [.d .undef,.own j]) fr) σ):Bm C n kd o K fr σ:=by
 subst hkd
 refine CC (by decide) (by decide) λB S w0 η φ a w hM=>⟨λe=>(by cases e),.inl ?_⟩
 obtain⟨cs,g1,e1⟩:=Eg (Bb hM x) hx
 simp only[RepC]at g1
 subst g1
 obtain⟨css,b,G,hR,hB0⟩:=JC hM.mem hg
 have hon:LL M.encK M.encV w r b m todo p:=hB0.map
 have hB:BadR M A (.it r todo) m bs w (η i) (φ i) (List.zipWith Ea (FW A bs) css) b G:=⟨hB0.val,hB0.len,hB0.zlen,LL.iter hon,hB0.here,hB0.none,hB0.nb,hB0.nr,hB0.disj,hB0.mem⟩
 obtain⟨q',u',z,hmk',hzk,hA⟩:=hB.here k y hb
 rw[hmk]at hmk'
 obtain rfl:p=(q',u'):=by simpa using hmk'
 have hi:=AV (AQ hg)
 have hj':=CQ hj
 have hgj':=CQ hgj
 have hk:=hK
 rw[Bw]at hk
 let F1:=(φ i).filter (λc=>decide (c∉G k))
 have hF1:∀c,c∈F1↔c∈φ i/\c∉G k:=λc=>by simp only[F1,Az,decide_eq_true_eq]
 obtain⟨hm',hl⟩:=hM.mem.splitD hi hj' (F1:=F1) (F2:=G k) (v:=u') (o1:=(DS M A (.it r todo) m (bs.set k .pin))) (o2:=(A y).own) (λc=>by
  rw[hF1]
  by_cases h:c∈G k
  ·exact⟨λ_=>.inr h,λ_=>(hB.mem c).2 (.inr (.inr ⟨k,h⟩))⟩
  ·exact⟨λh2=>.inl ⟨h2,h⟩,λh2=>h2.elim (·.1) (λh3=>absurd h3 h)⟩) (λc hc=>((hF1 c).1 hc).2) (λη' I' O' hl' _ _=>by
   obtain⟨s1,s2,_⟩:=SN (ds:=FW A bs) (css:=css) (k:=k) (a:=.undef) (c:=[Go.undef])
   refine⟨[[.tuple (List.zipWith Ea ((FW A bs).set k .undef) (css.set k [Go.undef])).toArray]],?_,?_⟩
   ·simp only[AE,AH,RepC]
    refine⟨_,_,rfl,⟨css.set k [Go.undef],?_,by rw[KJ]⟩,rfl⟩
    rw[KJ]
    exact Aq.later hl' _ _ (Jd hR k (d:=.undef) (by simp[RepC]))
   ·exact⟨_,b,_,rfl,hB.take hb hF1 s1 s2⟩) (λη' I' O' hl' _ _=>by
   have hzk':=hzk
   rw[QJ]at hzk'
   have hd1:(FW A bs)[k]? =some (A y).d:=by unfold FW;rw[Ad,hb];rfl
   obtain⟨c,hc1,hc2⟩:=IM hR hd1
   rw[hd1,hc1]at hzk'
   have hzz:Ea (A y).d c=z:=by simpa using hzk'
   refine⟨[c],?_,?_⟩
   ·simp only[AE,AH]
    exact⟨_,_,rfl,RepC.later hl' _ _ hc2,rfl⟩
   ·exact⟨z,by simp[Ch,hzz],hA⟩)
 have hM2:Models C B S w0 n fr ((j,(A y).own)::AX id i (DS M A (.it r todo) m (bs.set k .pin)) σ) (CE η j u') (CE (CE φ i F1) j (G k)) a w:=
  ⟨hm',hM.fr.later hl (λc hc=>⟨by
   have:=AZ id i (DS M A (.it r todo) m (bs.set k .pin)) σ
   unfold BA at this hc⊢
   rw[Ar,this];exact A9 _ hc,BU _ _ _ (λe=>hj' (e▸hc))⟩),hM.defers,hM.size⟩
 have hgn:g∉BA ((j,(A y).own)::AX id i (DS M A (.it r todo) m (bs.set k .pin)) σ):=λh=>by
  have:=AZ id i (DS M A (.it r todo) m (bs.set k .pin)) σ
  unfold BA at this h hgj'
  rw[Ar,this]at h
  rcases Ai.1 h with h|h
  ·exact hne h
  ·exact hgj' h
 obtain⟨hm3,hl3⟩:=hm'.add (Tch.refl [] w) hgn (v:=.nilFunc) (F:=[]) (o:=.ghost [u'] [.own j]) (by simp) ⟨rfl,rfl,[[u']],by
  simp only[AE,AH]
  refine⟨_,_,rfl,⟨?_,?_⟩,rfl⟩
  ·unfold BA;simp
  ·rw[BU _ _ _ (λe=>hne e.symm),Ck],rfl⟩
 have hM3:Models C B S w0 n fr ((g,.ghost [u'] [.own j])::(j,(A y).own)::AX id i (DS M A (.it r todo) m (bs.set k .pin)) σ) (CE (CE η j u') g .nilFunc) (CE (CE (CE φ i F1) j (G k)) g []) a w:=
  ⟨hm3,hM2.fr.later hl3 (λc hc=>⟨A9 _ hc,BU _ _ _ (λe=>hgn (e▸hc))⟩),hM.defers,hM.size⟩
 have hM4:=hM3.perm (((C7 g (.ghost [u'] [.own j]) (Fm j (A y).own (AX id i (DS M A (.it r todo) m (bs.set k .pin)) σ))).trans ((C7 j (A y).own (AX id i (DS M A (.it r todo) m (bs.set k .pin)) σ)).cons _)))
 refine⟨.tuple #[M.encK q',M.encV u'],w,?_,_,_,_,_,hM4.put hd (d:=.tuple [.d .undef,.own j]) ⟨[.tuple #[M.encK q',M.encV u']],by
  simp only[AH,AE,RepC]
  refine⟨[[M.encK q'],[M.encV u']],⟨_,_,rfl,⟨_,rfl⟩,_,_,rfl,⟨?_,?_⟩,rfl⟩,rfl⟩
  ·unfold BA
   rw[((C7 g _ _).map _).mem_iff,Ar]
   refine A9 _ ?_
   rw[((C7 j _ _).map _).mem_iff];simp
  ·rw[hV,BU _ _ _ (λe=>hne e.symm),Ck],rfl⟩,hk⟩
 simp only[execOp,ho]
 rw[e1]
 exact CZ hon.entry
end
end Go.Sx
end
