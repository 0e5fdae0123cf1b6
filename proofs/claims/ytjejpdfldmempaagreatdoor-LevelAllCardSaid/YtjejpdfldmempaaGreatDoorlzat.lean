/- Merged: Rfa Lnb Lnc Lnf Grs Vla. -/
import Derived.Test.YtjejpdfldmempaaGreatDoorlzas
import Derived.Test.YtjejpdfldmempaaGreatDoorlzan
import Derived.Test.YtjejpdfldmempaaGreatDoorlzar
section
namespace Go.Proofs.YtjejpdfldmempaaGreatDoor
open Go.Sx Go.RowKit Go.Reg Go.Gr
set_option maxRecDepth 100000
def dM(labels:List Int)(S:List Edg):Da:=.agg [AS labels,D0 S]
def tU:Da:=.agg [.nils,.nils]
theorem LN(e:Edg):Pure C1 162 [dE e] (λy=>y=dE (turn e)):=by
 refine AK Tryz.func162 Tryz.ntmps162 [] [] ?_
 by_cases h:e.b<e.a
 ·have e1:turn e=⟨e.b,e.a⟩:=by unfold turn;simp only[Edg.mk.injEq];omega
  rw[e1]
  ((conv=>whnf);repeat' ((first|refine odw ?_|refine nx ?_|refine Aw (λ_=>?_) (λ_=>?_))<;>conv=>whnf))
  exact rfl
 ·rw[I7 (by omega)]
  ((conv=>whnf);repeat' ((first|refine odw ?_|refine nx ?_|refine Aw (λ_=>?_) (λ_=>?_))<;>conv=>whnf))
  exact rfl
theorem PP(x y:Edg):Pure C1 163 [dE x,dE y] (λr=>r=.bool (decide (Ce x y<0))):=by
 refine AK Tryz.func163 Tryz.ntmps163 [] [] ?_
 have hc:=Eh x y
 by_cases h:x.a=y.a
 ·((conv=>whnf);repeat' ((first|refine odw ?_|refine nx ?_|refine Aw (λ_=>?_) (λ_=>?_))<;>conv=>whnf))
  show Da.plain _=_
  have:(Ce x y<0)↔x.b<y.b:=by rw[hc];omega
  simp[Da.plain,this]
 ·((conv=>whnf);repeat' ((first|refine odw ?_|refine nx ?_|refine Aw (λ_=>?_) (λ_=>?_))<;>conv=>whnf))
  show Da.plain _=_
  have:(Ce x y<0)↔x.a<y.a:=by rw[hc];omega
  simp[Da.plain,this]
theorem tT {O:List Nat} {w:World} {labels:List Int} {S:List Edg} {v:Value}(h:Rep O w (dM labels S) v):S.length<=maxLen:=by
 obtain⟨cs,r,rfl⟩:=h
 simp only[dM,D0,RepC,RepCs]at r
 obtain⟨_,_,_,_,c1,c2,_,⟨a,c,css,_,h1,h2,_⟩,_⟩:=r
 rw[Ab]at h1
 omega
def iL:List (Nat×Plan):=[(5,.leaf [0,1,0,0,1,1,3] [0,2,1,3,4,5,6] [0,1,0,7,15,0,63])]
theorem UK(labels:List Int)(S:List Edg)(a b:Int):Pure C1 133 [dM labels S,.int .i64 a,.int .i64 b] (λy=>y=.int .i64 (dC S (turn ⟨a,b⟩))):=by
 have hl:(S.map dE).length=S.length:=Ab _
 refine Pure.assume (P:=S.length<=maxLen) (λO w us h=>?_) (λhm=>?_)
 ·obtain⟨v,vs,rfl,h1,_⟩:=Ci h
  exact tT h1
 unfold maxLen at hm
 refine AK Tryz.func133 Tryz.ntmps133 [] iL ?_
 ((conv=>whnf);repeat' ((first|refine odw ?_|refine nx ?_|refine Aw (λ_=>?_) (λ_=>?_))<;>conv=>whnf))
 refine AI rfl (LN ⟨a,b⟩) ?_;rintro y rfl
 generalize turn ⟨a,b⟩=t
 obtain⟨ta,tb⟩:=t
 ((conv=>whnf);repeat' ((first|refine odw ?_|refine nx ?_|refine Aw (λ_=>?_) (λ_=>?_))<;>conv=>whnf))
 refine AC (ι:=Nat) (λi=>i<=S.length/\∀x∈S.take i,x≠⟨ta,tb⟩) (λi=>[(8,.d (.int .i64 i)),(7,.own 7),(3,.own 3)])
  (λi=>[(3,.cells 59 [.d (AS labels),.d (D0 S)]),(7,.cells 137 [.d (.int .i64 ta),.d (.int .i64 tb)])]) (λi=>S.length-i) 0 (λ_=>rfl) ⟨Aj _,by simp⟩ (.refl _ _) ⟨rfl,rfl,rfl,trivial⟩ ⟨rfl,rfl,trivial⟩ ?_
 rintro i ⟨hi,hne⟩
 refine Bj [] iL ?_
 by_cases hlt:i<S.length
 ·have hx:=Aa hlt
  generalize S[i]=x at hx
  obtain⟨xa,xb⟩:=x
  have hxd:(S.map dE)[i]? =some (.agg [.int .i64 xa,.int .i64 xb]):=by rw[Ac,hx];rfl
  by_cases he:xa=ta/\xb=tb
  ·obtain⟨rfl,rfl⟩:=he
   rw[tI hx hne]
   (repeat' ((first|refine Af ?_ ?_|refine A1 hxd rfl ?_|refine nx ?_|refine Aw (λ_=>?_) (λ_=>?_)|exact A0)<;>conv=>whnf))
   exact rfl
  ·(repeat' ((first|refine Af ?_ ?_|refine A1 hxd rfl ?_|refine nx ?_|refine Aw (λ_=>?_) (λ_=>?_)|exact A0)<;>conv=>whnf))
   refine⟨i+1,_,_,⟨hlt,?_⟩,.refl _ _,⟨rfl,rfl,rfl,trivial⟩,⟨rfl,rfl,trivial⟩,by omega⟩
   intro z hz
   rw[DR hx]at hz
   rcases Ag.1 hz with hz|hz
   ·exact hne z hz
   ·simp only[AA]at hz
    subst hz
    intro h
    exact he ⟨congrArg Edg.a h,congrArg Edg.b h⟩
 ·have hii:S.take i=S:=Ak (by omega)
  rw[hii]at hne
  rw[Q8 (λh=>hne _ h rfl)]
  ((conv=>whnf);repeat' ((first|refine odw ?_|refine nx ?_|refine Aw (λ_=>?_) (λ_=>?_))<;>conv=>whnf))
  exact rfl
def UI(labels:List Int)(edges:List Edg):Da:=match Dt labels edges with
 |some (c,a,_)=>.tuple [tU,.int .i64 c,.int .i64 a]
 |none=>.tuple [dM labels (FC edges),.int .i64 0,.int .i64 0]
theorem Ee {labels:List Int} {edges:List Edg} {c a:Int} {b:Bool}(h:Dt labels edges=some (c,a,b)):UI labels edges=.tuple [tU,.int .i64 c,.int .i64 a]:=by unfold UI;rw[h]
theorem PN {labels:List Int} {edges:List Edg}(h:Dt labels edges=none):UI labels edges=.tuple [dM labels (FC edges),.int .i64 0,.int .i64 0]:=by unfold UI;rw[h]
theorem VO {t k:Nat} {d:Dat} {a b:List Da}(h:a=b):some (Own.cells t [d,.d (.list k a)])=some (Own.cells t [d,.d (.list k b)]):=by rw[h]
def Pc:List (Nat×Plan):=[(20,.leaf [0,0,1,0,0,0,0,1,0,0,1,1,2,0] [0,1,2,3,4,5,6,8,7,9,10,11,12,13] [0,0,2,6,15,31,63,127,63,511,1023,63,4095,8191])]
def TZ:List FuncId:=[163]
set_option maxHeartbeats 4000000 in
theorem bG(labels:List Int)(edges:List Edg):Pure C1 112 [AS labels,D0 edges] (λy=>y=UI labels edges):=by
 have hll:(labels.map dI).length=labels.length:=Ab _
 have hel:(edges.map dE).length=edges.length:=Ab _
 refine AK Tryz.func112 Tryz.ntmps112 TZ Pc ?_
 by_cases h1:4096<labels.length
 ·rw[Ee (G1 (.inl h1))]
  ((conv=>whnf);repeat' ((first|refine odw ?_|refine nx ?_|refine Aw (λ_=>?_) (λ_=>?_))<;>conv=>whnf))
  exact rfl
 by_cases h2:16384<edges.length
 ·rw[Ee (G1 (.inr h2))]
  ((conv=>whnf);repeat' ((first|refine odw ?_|refine nx ?_|refine Aw (λ_=>?_) (λ_=>?_))<;>conv=>whnf))
  exact rfl
 have h0:¬(4096<labels.length\/16384<edges.length):=by omega
 ((conv=>whnf);repeat' ((first|refine odw ?_|refine nx ?_|refine Aw (λ_=>?_) (λ_=>?_))<;>conv=>whnf))
 refine AC (ι:=Nat) (λv=>v<=labels.length/\∀x∈labels.take v,B4 x=false) (λv=>[(7,.d (.int .i64 v)),(4,.own 4),(1,.d (D0 edges)),(0,.d (AS labels))])
  (λ_=>[(4,.cells 59 [.d .nils,.d .nils])]) (λv=>labels.length-v) 0 (λ_=>rfl) ⟨Aj _,by simp⟩ (.refl _ _) ⟨rfl,rfl,rfl,rfl,trivial⟩ ⟨rfl,trivial⟩ ?_
 rintro v ⟨hv,hgood⟩
 refine Bj TZ Pc ?_
 by_cases hlt:v<labels.length
 ·have hx:=Aa hlt
  generalize labels[v]=x at hx
  have hxd:(labels.map dI)[v]? =some (.int .i64 x):=by rw[Ac,hx];rfl
  by_cases b1:x<0
  ·have hb:B4 x=true:=by simp[B4,b1]
   rw[Ee (G2 h0 hx hb hgood)]
   (repeat' ((first|refine Af ?_ ?_|refine A1 hxd rfl ?_|refine nx ?_|refine Aw (λ_=>?_) (λ_=>?_)|exact A0)<;>conv=>whnf))
   exact rfl
  by_cases b2:255<x
  ·have hb:B4 x=true:=by simp[B4,b2]
   rw[Ee (G2 h0 hx hb hgood)]
   (repeat' ((first|refine Af ?_ ?_|refine A1 hxd rfl ?_|refine nx ?_|refine Aw (λ_=>?_) (λ_=>?_)|exact A0)<;>conv=>whnf))
   exact rfl
  ·have hb:B4 x=false:=by simp[B4];omega
   (repeat' ((first|refine Af ?_ ?_|refine A1 hxd rfl ?_|refine nx ?_|refine Aw (λ_=>?_) (λ_=>?_)|exact A0)<;>conv=>whnf))
   refine⟨v+1,_,_,⟨hlt,?_⟩,.refl _ _,⟨rfl,rfl,rfl,rfl,trivial⟩,⟨rfl,trivial⟩,by omega⟩
   intro z hz
   rw[Av,hx]at hz
   rcases Ag.1 hz with hz|hz
   ·exact hgood z hz
   ·simp at hz;subst hz;exact hb
 ·have hve:labels.take v=labels:=Ak (by omega)
  rw[hve]at hgood
  have hvn:v=labels.length:=by omega
  subst hvn
  clear hve hv hlt
  ((conv=>whnf);repeat' ((first|refine odw ?_|refine nx ?_|refine Aw (λ_=>?_) (λ_=>?_))<;>conv=>whnf))
  refine AC (ι:=Nat×List Edg) (λp=>p.1<=edges.length/\Part edges p.1 p.2/\∀j,j<p.1->C7 labels.length edges j=0) (λp=>[(9,.d (.int .i64 p.1)),(8,.own 8),(4,.own 4),(1,.d (D0 edges)),(0,.d (AS labels))])
   (λp=>[(4,.cells 59 [.d .nils,.d .nils]),(8,.cells 59 [.d (AS labels),.d (D0 p.2)])]) (λp=>edges.length-p.1) (0,[]) (λ_=>rfl) ⟨Aj _,Part.zero _,λj hj=>absurd hj (Ev j)⟩
   (.laxc 8 rfl (.same _ (.lax (.nils 2) .nil)) (.refl _ _)) ⟨rfl,rfl,rfl,rfl,rfl,trivial⟩ ⟨rfl,rfl,trivial⟩ ?_
  rintro⟨i,S⟩ ⟨hi,hpart,hcode⟩
  simp only at hi hpart hcode
  refine Bj TZ Pc ?_
  by_cases hlt:i<edges.length
  ·have hx:=Aa hlt
   have hec:C7 labels.length edges i=Hc labels.length ((edges.take i).map turn) edges[i]:=by unfold C7;rw[hx]
   generalize edges[i]=e at hx hec
   have hmem:=hpart.mem (turn e)
   have hSl:S.length=i:=by rw[hpart.perm.length_eq,Ab,As];omega
   have hxd:(edges.map dE)[i]? =some (dE e):=by rw[Ac,hx];rfl
   have hta:(turn e).a=min e.a e.b:=rfl
   have htb:(turn e).b=max e.a e.b:=rfl
   have htt:turn (turn e)=turn e:=RA e
   (repeat' ((first|refine Af ?_ ?_|refine A1 hxd rfl ?_|refine nx ?_|refine Aw (λ_=>?_) (λ_=>?_)|exact A0)<;>conv=>whnf))
   refine AI rfl (LN e) ?_;rintro y rfl
   have hnext:=λk h1 h2=>hpart.next (k:=k) hx h1 h2
   generalize htE:turn e=t at hmem hta htb htt hnext⊢
   obtain⟨ta,tb⟩:=t
   simp only at hta htb
   rw[show dE ⟨ta,tb⟩=.agg [.int .i64 ta,.int .i64 tb]from rfl]
   by_cases c1:ta<0
   ·have hc:C7 labels.length edges i=3:=by rw[hec];unfold Hc;rw[if_pos (.inl (by omega))]
    rw[Ee (Ea h0 hgood hlt (by rw[hc];decide) hcode),hc]
    ((conv=>whnf);repeat' ((first|refine odw ?_|refine nx ?_|refine Aw (λ_=>?_) (λ_=>?_))<;>conv=>whnf))
    exact rfl
   by_cases c2:(labels.length:Int)<=tb
   ·have hc:C7 labels.length edges i=3:=by rw[hec];unfold Hc;rw[if_pos (.inr (by omega))]
    rw[Ee (Ea h0 hgood hlt (by rw[hc];decide) hcode),hc]
    ((conv=>whnf);repeat' ((first|refine odw ?_|refine nx ?_|refine Aw (λ_=>?_) (λ_=>?_))<;>conv=>whnf))
    exact rfl
   by_cases c3:ta=tb
   ·have hc:C7 labels.length edges i=1:=by rw[hec];unfold Hc;rw[if_neg (by omega),if_pos (by omega)]
    rw[Ee (Ea h0 hgood hlt (by rw[hc];decide) hcode),hc]
    ((conv=>whnf);repeat' ((first|refine odw ?_|refine nx ?_|refine Aw (λ_=>?_) (λ_=>?_))<;>conv=>whnf))
    exact rfl
   ((conv=>whnf);repeat' ((first|refine odw ?_|refine nx ?_|refine Aw (λ_=>?_) (λ_=>?_))<;>conv=>whnf))
   refine AI rfl (UK labels S ta tb) ?_;rintro y rfl
   rw[htt]
   by_cases c4:(⟨ta,tb⟩:Edg)∈S
   ·have hc:C7 labels.length edges i=4:=by rw[hec];unfold Hc;rw[if_neg (by omega),if_neg (by omega),if_pos (by rw[htE];exact hmem.1 c4)]
    rw[Ee (Ea h0 hgood hlt (by rw[hc];decide) hcode),hc]
    have E4:=Lt.2 c4
    generalize dC S ⟨ta,tb⟩=z at E4
    ((conv=>whnf);repeat' ((first|refine odw ?_|refine nx ?_|refine Aw (λ_=>?_) (λ_=>?_))<;>conv=>whnf))
    exact rfl
   ·have hc:C7 labels.length edges i=0:=by rw[hec];unfold Hc;rw[if_neg (by omega),if_neg (by omega),if_neg (by rw[htE];exactλh=>c4 (hmem.2 h))]
    have E4:dC S ⟨ta,tb⟩<0:=by rw[Q8 c4];decide
    generalize dC S ⟨ta,tb⟩=z at E4
    ((conv=>whnf);repeat' ((first|refine odw ?_|refine nx ?_|refine Aw (λ_=>?_) (λ_=>?_))<;>conv=>whnf))
    refine AC (ι:=Nat) (λk=>k<=S.length/\∀x∈S.take k,Ce x ⟨ta,tb⟩<0) (λk=>[(11,.d (.int .i64 k)),(10,.own 10),(9,.d (.int .i64 i)),(8,.own 8),(4,.own 4),(1,.d (D0 edges)),(0,.d (AS labels))])
     (λ_=>[(4,.cells 59 [.d .nils,.d .nils]),(8,.cells 59 [.d (AS labels),.d (D0 S)]),(10,.cells 137 [.d (.int .i64 ta),.d (.int .i64 tb)])])
     (λk=>S.length-k) 0 (λ_=>rfl) ⟨Aj _,by simp⟩ (.refl _ _) ⟨rfl,rfl,rfl,rfl,rfl,rfl,rfl,trivial⟩ ⟨rfl,rfl,rfl,trivial⟩ ?_
    rintro k ⟨hk,hkl⟩
    refine Bj TZ Pc ?_
    have hSd:(S.map dE).length=S.length:=Ab _
    by_cases hks:k<S.length
    ·have hxk:=Aa hks
     generalize S[k]=x at hxk
     have hxkd:(S.map dE)[k]? =some (dE x):=by rw[Ac,hxk];rfl
     by_cases hl:Ce x ⟨ta,tb⟩<0
     ·(repeat' ((first|refine Af ?_ ?_|refine A1 hxkd rfl ?_|refine nx ?_|refine Aw (λ_=>?_) (λ_=>?_)|exact A0)<;>conv=>whnf))
      refine AI rfl (PP x ⟨ta,tb⟩) ?_;rintro y rfl
      rw[decide_eq_true hl]
      ((conv=>whnf);repeat' ((first|refine odw ?_|refine nx ?_|refine Aw (λ_=>?_) (λ_=>?_))<;>conv=>whnf))
      refine⟨k+1,_,_,⟨hks,?_⟩,.refl _ _,⟨rfl,rfl,rfl,rfl,rfl,rfl,rfl,trivial⟩,⟨rfl,rfl,rfl,trivial⟩,by omega⟩
      intro z hz
      rw[DR hxk]at hz
      rcases Ag.1 hz with hz|hz
      ·exact hkl z hz
      ·simp only[AA]at hz
       subst hz;exact hl
     ·have hstop:∀z,S[k]? =some z->¬Ce z ⟨ta,tb⟩<0:=λz hz=>by rw[hxk]at hz;cases hz;exact hl
      (repeat' ((first|refine Af ?_ ?_|refine A1 hxkd rfl ?_|refine nx ?_|refine Aw (λ_=>?_) (λ_=>?_)|exact A0)<;>conv=>whnf))
      refine AI rfl (PP x ⟨ta,tb⟩) ?_;rintro y rfl
      rw[decide_eq_false hl]
      ((conv=>whnf);repeat' ((first|refine odw ?_|refine nx ?_|refine Aw (λ_=>?_) (λ_=>?_))<;>conv=>whnf))
      (repeat' ((first|refine Af ?_ ?_|refine HP k rfl (by rw[Ab];omega) ?_|refine nx ?_|refine Aw (λ_=>?_) (λ_=>?_)|exact A0)<;>conv=>whnf))
      have hfin:([]++(S.map dE).take k)++[.agg [.int .i64 ta,.int .i64 tb]]++(S.map dE).drop k=(JI S k ⟨ta,tb⟩).map dE:=by simp[JI,dE]
      refine⟨(i+1,JI S k ⟨ta,tb⟩),_,_,⟨hlt,hnext k c4 hkl hstop,?_⟩,.frz 99 rfl (.refl _ _),⟨rfl,rfl,rfl,rfl,rfl,trivial⟩,⟨rfl,VO hfin,trivial⟩,by simp only;omega⟩
      intro j hj
      rcases Nat.lt_succ_iff_lt_or_eq.1 hj with h|h
      ·exact hcode j h
      ·rw[h];exact hc
    ·have hke:k=S.length:=by omega
     have hstop:∀z,S[k]? =some z->¬Ce z ⟨ta,tb⟩<0:=λz hz=>by rw[Bh (by omega)]at hz;cases hz
     (repeat' ((first|refine Af ?_ ?_|refine HP k rfl (by rw[Ab];omega) ?_|refine nx ?_|refine Aw (λ_=>?_) (λ_=>?_)|exact A0)<;>conv=>whnf))
     have hfin:([]++(S.map dE).take k)++[.agg [.int .i64 ta,.int .i64 tb]]++(S.map dE).drop k=(JI S k ⟨ta,tb⟩).map dE:=by simp[JI,dE]
     refine⟨(i+1,JI S k ⟨ta,tb⟩),_,_,⟨hlt,hnext k c4 hkl hstop,?_⟩,.frz 99 rfl (.refl _ _),⟨rfl,rfl,rfl,rfl,rfl,trivial⟩,⟨rfl,VO hfin,trivial⟩,by simp only;omega⟩
     intro j hj
     rcases Nat.lt_succ_iff_lt_or_eq.1 hj with h|h
     ·exact hcode j h
     ·rw[h];exact hc
  ·have hin:i=edges.length:=by omega
   subst hin
   obtain rfl:=hpart.all (Az _)
   rw[PN (Hu h0 hgood hcode)]
   ((conv=>whnf);repeat' ((first|refine odw ?_|refine nx ?_|refine Aw (λ_=>?_) (λ_=>?_))<;>conv=>whnf))
   exact rfl
theorem Qv(edges:List Edg)(hm:edges.length<=4294967296):Pure C1 46 [D0 edges] (λy=>y=D0 edges):=by
 have hel:(edges.map dE).length=edges.length:=Ab _
 refine AK Tryz.func46 Tryz.ntmps46 [] [] ?_
 ((conv=>whnf);repeat' ((first|refine odw ?_|refine nx ?_|refine Aw (λ_=>?_) (λ_=>?_))<;>conv=>whnf))
 refine AC (ι:=Nat) (λi=>i<=edges.length) (λi=>[(4,.d (.int .i64 i)),(3,.own 300),(0,.d (D0 edges))]) (λi=>[(300,.slice 103 2 ((edges.take i).map dE))]) (λi=>edges.length-i) 0 (λ_=>rfl) (Aj _)
  (.own 3 300 103 2 rfl rfl (.refl _ _)) ⟨rfl,rfl,rfl,trivial⟩ ⟨rfl,trivial⟩ ?_
 intro i hi
 refine Bj [] [] ?_
 by_cases hlt:i<edges.length
 ·have hx:=Aa hlt
  generalize edges[i]=e at hx
  have hxd:(edges.map dE)[i]? =some (dE e):=by rw[Ac,hx];rfl
  have htl:(edges.take i).length=i:=by rw[As];omega
  (repeat' ((first|refine Af ?_ ?_|refine A1 hxd rfl ?_|refine nx ?_|refine Aw (λ_=>?_) (λ_=>?_)|exact A0)<;>conv=>whnf))
  have hfin:(edges.take i).map dE++[dE e]=(edges.take (i+1)).map dE:=by rw[DR hx,Ay];rfl
  exact⟨i+1,_,_,hlt,.refl _ _,⟨rfl,rfl,rfl,trivial⟩,⟨AO hfin,trivial⟩,by omega⟩
 ·have hii:edges.take i=edges:=Ak (by omega)
  rw[hii]
  ((conv=>whnf);repeat' ((first|refine odw ?_|refine nx ?_|refine Aw (λ_=>?_) (λ_=>?_))<;>conv=>whnf))
  exact rfl
def Me(labels:List Int)(edges:List Edg):Option Gr:=if labels.length<=10/\edges.length<=30 then(match Dt labels edges with|some _=>none|none=>some ⟨labels,FC edges⟩)else none
def GV(labels:List Int)(edges:List Edg):Da:=match Me labels edges with
 |some G=>.tuple [dG G,dM G.labels G.edges,.bool true]
 |none=>.tuple [.nilp,tU,.bool false]
theorem XW {labels:List Int} {edges:List Edg} {G:Gr}(h:Me labels edges=some G):G=⟨labels,FC edges⟩/\G.Ok/\labels.length<=10/\edges.length<=30/\Dt labels edges=none:=by
 unfold Me at h
 split at h
 ·rename_i hl
  split at h
  ·cases h
  ·rename_i hn
   cases h
   exact⟨rfl,M4 hn,hl.1,hl.2,hn⟩
 ·cases h
def oF:List (Nat×Plan):=[(5,.leaf [0,1,0,0,0,0,0,0,0,3,0] [0,2,3,4,5,6,7,8,1,9,10] [0,0,0,4,12,28,60,124,29,287,1023])]
theorem Sm(labels:List Int)(edges:List Edg):Pure C1 72 [AS labels,D0 edges] (λy=>y=GV labels edges):=by
 have hll:(labels.map dI).length=labels.length:=Ab _
 have hel:(edges.map dE).length=edges.length:=Ab _
 refine AK Tryz.func72 Tryz.ntmps72 [] oF ?_
 by_cases h1:10<labels.length
 ·have e:GV labels edges=.tuple [.nilp,tU,.bool false]:=by unfold GV Me;rw[if_neg (by omega)]
  rw[e]
  ((conv=>whnf);repeat' ((first|refine odw ?_|refine nx ?_|refine Aw (λ_=>?_) (λ_=>?_))<;>conv=>whnf))
  exact rfl
 by_cases h2:30<edges.length
 ·have e:GV labels edges=.tuple [.nilp,tU,.bool false]:=by unfold GV Me;rw[if_neg (by omega)]
  rw[e]
  ((conv=>whnf);repeat' ((first|refine odw ?_|refine nx ?_|refine Aw (λ_=>?_) (λ_=>?_))<;>conv=>whnf))
  exact rfl
 ((conv=>whnf);repeat' ((first|refine odw ?_|refine nx ?_|refine Aw (λ_=>?_) (λ_=>?_))<;>conv=>whnf))
 refine AI rfl (bG labels edges) ?_;rintro y rfl
 rcases hn:Dt labels edges with _|⟨c,a,b⟩
 ·have e:GV labels edges=.tuple [dG ⟨labels,FC edges⟩,dM labels (FC edges),.bool true]:=by unfold GV Me;rw[if_pos (by omega),hn]
  rw[e,PN hn]
  ((conv=>whnf);repeat' ((first|refine odw ?_|refine nx ?_|refine Aw (λ_=>?_) (λ_=>?_))<;>conv=>whnf))
  refine AI rfl (Qv edges (by omega)) ?_;rintro y rfl
  ((conv=>whnf);repeat' ((first|refine odw ?_|refine nx ?_|refine Aw (λ_=>?_) (λ_=>?_))<;>conv=>whnf))
  refine AI rfl (Qi labels edges) ?_;rintro y rfl
  rw[Ng hn]
  ((conv=>whnf);repeat' ((first|refine odw ?_|refine nx ?_|refine Aw (λ_=>?_) (λ_=>?_))<;>conv=>whnf))
  all_goals exact rfl
 ·have e:GV labels edges=.tuple [.nilp,tU,.bool false]:=by unfold GV Me;rw[if_pos (by omega),hn]
  rw[e,Ee hn]
  ((conv=>whnf);repeat' ((first|refine odw ?_|refine nx ?_|refine Aw (λ_=>?_) (λ_=>?_))<;>conv=>whnf))
  refine AI rfl (Qv edges (by omega)) ?_;rintro y rfl
  ((conv=>whnf);repeat' ((first|refine odw ?_|refine nx ?_|refine Aw (λ_=>?_) (λ_=>?_))<;>conv=>whnf))
  refine AI rfl (Qi labels edges) ?_;rintro y rfl
  rw[ET hn]
  cases b
  ·((conv=>whnf);repeat' ((first|refine odw ?_|refine nx ?_|refine Aw (λ_=>?_) (λ_=>?_))<;>conv=>whnf))
   all_goals exact rfl
  ·((conv=>whnf);repeat' ((first|refine odw ?_|refine nx ?_|refine Aw (λ_=>?_) (λ_=>?_))<;>conv=>whnf))
   all_goals exact rfl
theorem cN(labels:List Int)(edges:List Edg):GV labels edges=.tuple [.nilp,tU,.bool false]\/
  ∃G:Gr,GV labels edges=.tuple [dG G,dM G.labels G.edges,.bool true]/\G.Ok/\G.labels.length<=10/\G.edges.length<=30/\G=⟨labels,FC edges⟩/\Dt labels edges=none/\edges.length=G.edges.length:=by
 rcases h:Me labels edges with _|G
 ·left;unfold GV;rw[h]
 ·right
  obtain⟨h1,h2,h3,h4,h5⟩:=XW h
  refine⟨G,by unfold GV;rw[h],h2,?_,?_,h1,h5,?_⟩
  ·rw[h1];exact h3
  ·rw[h1];simp only;rw[NO];exact h4
  ·rw[h1];simp only;rw[NO]
end Go.Proofs.YtjejpdfldmempaaGreatDoor
end
section
namespace Go.Gr
theorem MZ(d:Nat):IK d<=d*d:=by
 unfold IK
 have h:d*(d-1)<=d*d:=Nat.mul_le_mul_left d (by omega)
 omega
theorem bV(d:Nat)(hd:d<=32768):0<=(d:Int)*((d:Int)-1)/\(d:Int)*((d:Int)-1)<=1073741824/\((d:Int)*((d:Int)-1)).tdiv 2=(IK d:Int):=by
 cases d with
 |zero=>decide
 |
  succ d=>
  have e:((d+1:Nat):Int)*(((d+1:Nat):Int)-1)=(((d+1)*d:Nat):Int):=by push_cast;congr 1;omega
  rw[e]
  have h2:(d+1)*d<=32768*32768:=CR hd (by omega)
  refine⟨by omega,by omega,?_⟩
  rw[Int.tdiv_eq_ediv_of_nonneg (by omega)]
  unfold IK
  simp
theorem Tw(E:List Edg) {v n:Nat}(h:v<=n):(BS E v).length<=(BS E n).length:=by
 induction n with
 |zero=>
           have:v=0:=by omega
           subst this;exact Az _
 |
  succ n ih=>
  rcases AP v (n+1)with h1|h1
  ·have:=ih (by omega);rw[Eg,Ah];omega
  ·have:v=n+1:=by omega
   subst this;exact Az _
theorem Oq(E:List Edg)(v:Nat)(h:∀u,(Lz E u).length<=32768):(BS E v).length<=v*1073741824:=by
 induction v with
 |zero=>simp[BS]
 |
  succ v ih=>
  rw[Eg,Ah,IL]
  have h1:=MZ (Lz E v).length
  have h2:(Lz E v).length*(Lz E v).length<=32768*32768:=CR (h v) (h v)
  omega
def pu(l:List Int):Nat->List Edg
 |0=>[]
 |i+1=>pu l i++(l.drop (i+1)).map (λb=>⟨(l[i]?).getD 0,b⟩)
theorem Zj(x:Int)(l:List Int):∀i,pu (x::l) (i+1)=l.map (λb=>⟨x,b⟩)++pu l i
 |0=>by simp[pu]
 |
  i+1=>by
  rw[pu,Zj x l i,pu]
  simp
theorem iE:∀l:List Int,pu l l.length=FW l
 |[]=>rfl
 |x::l=>by rw[A4,Zj,iE l];rfl
theorem oD(l:List Int) {i n:Nat}(h:i<=n):(pu l i).length<=(pu l n).length:=by
 induction n with
 |zero=>
           have:i=0:=by omega
           subst this;exact Az _
 |
  succ n ih=>
  rcases AP i (n+1)with h1|h1
  ·have:=ih (by omega);rw[pu,Ah];omega
  ·have:i=n+1:=by omega
   subst this;exact Az _
end Go.Gr
namespace Go.Proofs.YtjejpdfldmempaaGreatDoor
open Go.Sx Go.RowKit Go.Reg Go.Gr
set_option maxRecDepth 100000
theorem uU {G:Gr}(h:G.Ok):∀e∈G.edges,e.a≠e.b:=λe he=>by have:=h.edge e he;omega
theorem lQ {G:Gr}(h:G.Ok)(v:Nat):(Lz G.edges v).length=FN G.edges v:=pU G.edges v (uU h)
theorem ZG {G:Gr}(h:G.Ok)(v:Nat):(Lz G.edges v).length<=32768:=by
 rw[lQ h]
 have h1:=QS G.edges v
 have h2:=h.esize
 omega
theorem XJ(G:Gr)(hG:G.Ok):Pure C1 174 [dG G] (λy=>y=.int .i64 (BS G.edges G.labels.length).length):=by
 have hs:=hG.size
 refine AK Tryz.func174 Tryz.ntmps174 [] [] ?_
 ((conv=>whnf);repeat' ((first|refine odw ?_|refine nx ?_|refine Aw (λ_=>?_) (λ_=>?_))<;>conv=>whnf))
 refine AI rfl (Ij G) ?_;rintro y rfl
 ((conv=>whnf);repeat' ((first|refine odw ?_|refine nx ?_|refine Aw (λ_=>?_) (λ_=>?_))<;>conv=>whnf))
 refine AC (ι:=Nat) (λv=>v<=G.labels.length) (λv=>[(8,.d (.int .i64 v)),(7,.d (.int .i64 G.labels.length)),(3,.d (.int .i64 (BS G.edges v).length)),(0,.d (dG G))]) (λ_=>[]) (λv=>G.labels.length-v) 0 (λ_=>rfl) (Aj _) (.refl _ _) ⟨rfl,rfl,rfl,rfl,trivial⟩ trivial ?_
 intro v hv
 refine Bj [] [] ?_
 by_cases hlt:v<G.labels.length
 ·((conv=>whnf);repeat' ((first|refine odw ?_|refine nx ?_|refine Aw (λ_=>?_) (λ_=>?_))<;>conv=>whnf))
  refine AI rfl (Wl G hG v) ?_;rintro y rfl
  have e:Y8 G v=(Lz G.edges v).length:=by unfold Y8;rw[if_pos (by omega),AV,lQ hG]
  have hd:=ZG hG v
  have hp:=bV (Lz G.edges v).length hd
  have hb:=Oq G.edges v (ZG hG)
  have hn2:=MZ (Lz G.edges v).length
  have hst:(BS G.edges (v+1)).length=(BS G.edges v).length+IK (Lz G.edges v).length:=by rw[Eg,Ah,IL]
  have hbn:=Oq G.edges (v+1) (ZG hG)
  rw[e]
  generalize (Lz G.edges v).length=d at*
  ((conv=>whnf);repeat' ((first|refine odw ?_|refine nx ?_|refine Aw (λ_=>?_) (λ_=>?_))<;>conv=>whnf))
  exact⟨v+1,_,_,hlt,.refl _ _,⟨rfl,rfl,IS (by rw[hp.2.2,hst];omega),rfl,trivial⟩,trivial,by omega⟩
 ·have hvn:v=G.labels.length:=by omega
  subst hvn
  ((conv=>whnf);repeat' ((first|refine odw ?_|refine nx ?_|refine Aw (λ_=>?_) (λ_=>?_))<;>conv=>whnf))
  exact rfl
def Yd:ByteArray:=⟨#[108,105,110,101,115]⟩
def Vy(G:Gr):Da:=if 16384<(BS G.edges G.labels.length).length then .tuple [.nilp,dS Yd (dF 6 0 Hb)]else .tuple [dG ⟨List.replicate G.edges.length 0,Fp G.edges G.edges.length⟩,.nili]
set_option maxHeartbeats 4000000 in
theorem kC(G:Gr)(hG:G.Ok)(hm:G.edges.length<=4096):Pure C1 117 [dG G] (λy=>y=Vy G):=by
 have hs:=hG.size
 refine AK Tryz.func117 Tryz.ntmps117 [] [] ?_
 ((conv=>whnf);repeat' ((first|refine odw ?_|refine nx ?_|refine Aw (λ_=>?_) (λ_=>?_))<;>conv=>whnf))
 refine AI rfl (XJ G hG) ?_;rintro y rfl
 by_cases hbig:16384<(BS G.edges G.labels.length).length
 ·have e:Vy G=.tuple [.nilp,dS Yd (dF 6 0 Hb)]:=by unfold Vy;rw[if_pos hbig]
  rw[e]
  ((conv=>whnf);repeat' ((first|refine odw ?_|refine nx ?_|refine Aw (λ_=>?_) (λ_=>?_))<;>conv=>whnf))
  refine AI rfl (Cj 6 0 Hb) ?_;rintro y rfl
  ((conv=>whnf);repeat' ((first|refine odw ?_|refine nx ?_|refine Aw (λ_=>?_) (λ_=>?_))<;>conv=>whnf))
  refine AI rfl (In Yd 6 0 Hb) ?_;rintro y rfl
  ((conv=>whnf);repeat' ((first|refine odw ?_|refine nx ?_|refine Aw (λ_=>?_) (λ_=>?_))<;>conv=>whnf))
  exact rfl
 have e:Vy G=.tuple [dG ⟨List.replicate G.edges.length 0,Fp G.edges G.edges.length⟩,.nili]:=by unfold Vy;rw[if_neg hbig]
 rw[e]
 ((conv=>whnf);repeat' ((first|refine odw ?_|refine nx ?_|refine Aw (λ_=>?_) (λ_=>?_))<;>conv=>whnf))
 refine AI rfl (Ij G) ?_;rintro y rfl
 ((conv=>whnf);repeat' ((first|refine odw ?_|refine nx ?_|refine Aw (λ_=>?_) (λ_=>?_))<;>conv=>whnf))
 refine AC (ι:=Nat) (λv=>v<=G.labels.length) (λv=>[(20,.d (.int .i64 v)),(19,.d (.int .i64 G.labels.length)),(4,.own 300),(0,.d (dG G))]) (λv=>[(300,.slice 103 2 ((BS G.edges v).map dE))]) (λv=>G.labels.length-v) 0 (λ_=>rfl) (Aj _)
  (.own 4 300 103 2 rfl rfl (.refl _ _)) ⟨rfl,rfl,rfl,rfl,trivial⟩ ⟨rfl,trivial⟩ ?_
 intro v hv
 refine Bj [] [] ?_
 by_cases hlt:v<G.labels.length
 ·have hcap:=Tw G.edges (show v+1<=G.labels.length by omega)
  rw[Eg,Ah]at hcap
  have hat:tV G v=AS (Lz G.edges v):=by unfold tV;rw[if_pos (by omega),AV]
  have hpall:=iE (Lz G.edges v)
  have hstep:=Eg G.edges v
  have hl32:=ZG hG v
  ((conv=>whnf);repeat' ((first|refine odw ?_|refine nx ?_|refine Aw (λ_=>?_) (λ_=>?_))<;>conv=>whnf))
  refine AI rfl (pS G hG v) ?_;rintro y rfl
  rw[hat]
  generalize Lz G.edges v=l at*
  have hll:(l.map dI).length=l.length:=Ab _
  ((conv=>whnf);repeat' ((first|refine odw ?_|refine nx ?_|refine Aw (λ_=>?_) (λ_=>?_))<;>conv=>whnf))
  refine AC (ι:=Nat) (λi=>i<=l.length) (λi=>[(28,.d (.int .i64 i)),(27,.d (.int .i64 (l.map dI).length)),(26,.d (AS l)),(6,.d (AS l)),(20,.d (.int .i64 v)),(19,.d (.int .i64 G.labels.length)),(4,.own 300),(0,.d (dG G))])
   (λi=>[(300,.slice 103 2 ((BS G.edges v++pu l i).map dE))]) (λi=>l.length-i) 0 (λ_=>rfl) (Aj _) (.refl _ _) ⟨rfl,rfl,rfl,rfl,rfl,rfl,rfl,rfl,trivial⟩ ⟨AO (by simp[pu]),trivial⟩ ?_
  intro i hi
  refine Bj [] [] ?_
  by_cases hil:i<l.length
  ·have hx:=Aa hil
   have hpu:pu l (i+1)=pu l i++(l.drop (i+1)).map (λb=>⟨l[i],b⟩):=by rw[pu,hx];rfl
   generalize l[i]=a at hx hpu
   have hxd:(l.map dI)[i]? =some (.int .i64 a):=by rw[Ac,hx];rfl
   have hmn:=oD l (show i+1<=l.length by omega)
   rw[hpall]at hmn
   rw[hpu,Ah,Ab]at hmn
   (repeat' ((first|refine Af ?_ ?_|refine A1 hxd rfl ?_|refine HP (i+1) rfl (by rw[Ab];omega) ?_|refine nx ?_|refine Aw (λ_=>?_) (λ_=>?_)|exact A0)<;>conv=>whnf))
   rw[<-GH]
   generalize hD:l.drop (i+1)=D at hmn hpu⊢
   have hDl:(D.map dI).length=D.length:=Ab _
   refine AC (ι:=Nat) (λk=>k<=D.length) (λk=>[(38,.d (.int .i64 k)),(37,.d (.int .i64 (D.map dI).length)),(36,.d (AS D)),(8,.d (.int .i64 a)),(28,.d (.int .i64 i)),(27,.d (.int .i64 (l.map dI).length)),(26,.d (AS l)),(6,.d (AS l)),(20,.d (.int .i64 v)),(19,.d (.int .i64 G.labels.length)),(4,.own 300),(0,.d (dG G))])
    (λk=>[(300,.slice 103 2 ((BS G.edges v++pu l i++(D.take k).map (λb=>(⟨a,b⟩:Edg))).map dE))]) (λk=>D.length-k) 0 (λ_=>rfl) (Aj _) (.refl _ _) ⟨rfl,rfl,rfl,rfl,rfl,rfl,rfl,rfl,rfl,rfl,rfl,rfl,trivial⟩ ⟨AO (by simp),trivial⟩ ?_
   intro k hk
   refine Bj [] [] ?_
   by_cases hkl:k<D.length
   ·have hxk:=Aa hkl
    generalize D[k]=b at hxk
    have hxkd:(D.map dI)[k]? =some (.int .i64 b):=by rw[Ac,hxk];rfl
    have hfin:(BS G.edges v++pu l i++(D.take k).map (λb=>(⟨a,b⟩:Edg))).map dE++[.agg [.int .i64 a,.int .i64 b]]=(BS G.edges v++pu l i++(D.take (k+1)).map (λb=>(⟨a,b⟩:Edg))).map dE:=by
     rw[Av,hxk];simp[dE]
    (repeat' ((first|refine Af ?_ ?_|refine A1 hxkd rfl ?_|refine nx ?_|refine Aw (λ_=>?_) (λ_=>?_)|exact A0)<;>conv=>whnf))
    exact⟨k+1,_,_,hkl,.refl _ _,⟨rfl,rfl,rfl,rfl,rfl,rfl,rfl,rfl,rfl,rfl,rfl,rfl,trivial⟩,⟨AO hfin,trivial⟩,by omega⟩
   ·have hkD:D.take k=D:=Ak (by omega)
    rw[hkD]
    ((conv=>whnf);repeat' ((first|refine odw ?_|refine nx ?_|refine Aw (λ_=>?_) (λ_=>?_))<;>conv=>whnf))
    exact⟨i+1,_,_,hil,.refl _ _,⟨rfl,rfl,rfl,rfl,rfl,rfl,rfl,rfl,trivial⟩,⟨AO (by rw[hpu,Bk]),trivial⟩,by omega⟩
  ·have hii:i=l.length:=by omega
   subst hii
   rw[hpall]
   ((conv=>whnf);repeat' ((first|refine odw ?_|refine nx ?_|refine Aw (λ_=>?_) (λ_=>?_))<;>conv=>whnf))
   exact⟨v+1,_,_,hlt,.refl _ _,⟨rfl,rfl,rfl,rfl,trivial⟩,⟨AO (by rw[hstep]),trivial⟩,by omega⟩
 ·have hvn:v=G.labels.length:=by omega
  subst hvn
  ((conv=>whnf);repeat' ((first|refine odw ?_|refine nx ?_|refine Aw (λ_=>?_) (λ_=>?_))<;>conv=>whnf))
  refine AI rfl (MP G) ?_;rintro y rfl
  (conv=>whnf)
  (repeat' ((first|refine Af ?_ ?_|refine KN G.edges.length rfl rfl (by omega) ?_|refine nx ?_|refine Aw (λ_=>?_) (λ_=>?_)|exact A0)<;>conv=>whnf))
  have hz:List.replicate G.edges.length (dI 0)=(List.replicate G.edges.length 0).map dI:=by simp
  refine D3 54 rfl ?_
  refine D3 300 rfl ?_
  refine AI (xs:=[AS (List.replicate G.edges.length 0),D0 (BS G.edges G.labels.length)]) (by show some [Da.list 1 (List.replicate G.edges.length (dI 0)),_]=_;rw[hz];rfl) (Qi _ _) ?_;rintro y rfl
  rw[Ng (Mf hG hm (by omega)),Oz hG]
  ((conv=>whnf);repeat' ((first|refine odw ?_|refine nx ?_|refine Aw (λ_=>?_) (λ_=>?_))<;>conv=>whnf))
  all_goals exact rfl
def FS(E:List Edg)(a b:Int):Bool:=decide (0<=a)&&decide (0<=b)&&tch E a.toNat b.toNat
theorem Fs {E:List Edg} {a b:Int}(h:¬(0<=a/\a<E.length)\/¬(0<=b/\b<E.length)\/a=b):FS E a b=false:=by
 unfold FS tch
 by_cases ha:0<=a
 ·by_cases hb:0<=b
  ·obtain⟨m,rfl⟩:=Ax ha
   obtain⟨n,rfl⟩:=Ax hb
   simp only[AV]
   by_cases hm:m<E.length
   ·by_cases hn:n<E.length
    ·have:m=n:=by omega
     subst this
     rw[Aa hm];simp
    ·rw[Bh (l:=E) (i:=n) (by omega),Aa hm];simp
   ·rw[Bh (l:=E) (i:=m) (by omega)];simp
  ·simp[hb]
 ·simp[ha]
theorem RB {E:List Edg} {m n:Nat} {x y:Edg}(hx:E[m]? =some x)(hy:E[n]? =some y)(hne:m≠n):FS E m n=(decide (x.a=y.a)||decide (x.a=y.b)||decide (x.b=y.a)||decide (x.b=y.b)):=by
 unfold FS tch
 have h1:(0:Int)<=m:=by omega
 have h2:(0:Int)<=n:=by omega
 simp only[AV,hx,hy,h1,h2,decide_true,FE,ne_eq,hne,not_false_eq_true]
set_option maxHeartbeats 1000000 in
theorem Xa(G:Gr)(a b:Int):Pure C1 192 [dG G,.int .i64 a,.int .i64 b] (λy=>y=.bool (FS G.edges a b)):=by
 refine AK Tryz.func192 Tryz.ntmps192 [] [] ?_
 ((conv=>whnf);repeat' ((first|refine odw ?_|refine nx ?_|refine Aw (λ_=>?_) (λ_=>?_))<;>conv=>whnf))
 refine AI rfl (Iu G a) ?_;rintro y rfl
 by_cases ha:0<=a/\a<G.edges.length
 ·obtain⟨m,rfl⟩:=Ax ha.1
  have hmm:m<G.edges.length:=by omega
  have hx:=Aa hmm
  generalize G.edges[m]=x at hx
  have e:DU G.edges (m:Int)=.tuple [dE x,.bool true]:=by unfold DU;rw[if_pos ha,AV,hx];rfl
  obtain⟨xa,xb⟩:=x
  rw[e,show dE ⟨xa,xb⟩=.agg [.int .i64 xa,.int .i64 xb]from rfl]
  ((conv=>whnf);repeat' ((first|refine odw ?_|refine nx ?_|refine Aw (λ_=>?_) (λ_=>?_))<;>conv=>whnf))
  refine AI rfl (Iu G b) ?_;rintro y rfl
  by_cases hb:0<=b/\b<G.edges.length
  ·obtain⟨n,rfl⟩:=Ax hb.1
   have hnn:n<G.edges.length:=by omega
   have hy:=Aa hnn
   generalize G.edges[n]=y at hy
   have e:DU G.edges (n:Int)=.tuple [dE y,.bool true]:=by unfold DU;rw[if_pos hb,AV,hy];rfl
   obtain⟨ya,yb⟩:=y
   rw[e,show dE ⟨ya,yb⟩=.agg [.int .i64 ya,.int .i64 yb]from rfl]
   by_cases hne:m=n
   ·rw[Fs (.inr (.inr (by rw[hne])))]
    ((conv=>whnf);repeat' ((first|refine odw ?_|refine nx ?_|refine Aw (λ_=>?_) (λ_=>?_))<;>conv=>whnf))
    exact rfl
   ·rw[RB hx hy hne]
    by_cases h1:xa=ya
    ·((conv=>whnf);repeat' ((first|refine odw ?_|refine nx ?_|refine Aw (λ_=>?_) (λ_=>?_))<;>conv=>whnf))
     exact Eq.trans (b:=Da.bool true) rfl (by simp[h1])
    by_cases h2:xa=yb
    ·((conv=>whnf);repeat' ((first|refine odw ?_|refine nx ?_|refine Aw (λ_=>?_) (λ_=>?_))<;>conv=>whnf))
     exact Eq.trans (b:=Da.bool true) rfl (by simp[h2])
    by_cases h3:xb=ya
    ·((conv=>whnf);repeat' ((first|refine odw ?_|refine nx ?_|refine Aw (λ_=>?_) (λ_=>?_))<;>conv=>whnf))
     exact Eq.trans (b:=Da.bool true) rfl (by simp[h3])
    ·((conv=>whnf);repeat' ((first|refine odw ?_|refine nx ?_|refine Aw (λ_=>?_) (λ_=>?_))<;>conv=>whnf))
     show Da.plain _=_
     simp[Da.plain,h1,h2,h3]
  ·have e:DU G.edges b=.tuple [dE ⟨0,0⟩,.bool false]:=by unfold DU;rw[if_neg hb]
   rw[e,Fs (.inr (.inl hb))]
   ((conv=>whnf);repeat' ((first|refine odw ?_|refine nx ?_|refine Aw (λ_=>?_) (λ_=>?_))<;>conv=>whnf))
   exact rfl
 ·have e:DU G.edges a=.tuple [dE ⟨0,0⟩,.bool false]:=by unfold DU;rw[if_neg ha]
  rw[e,Fs (.inl ha)]
  ((conv=>whnf);repeat' ((first|refine odw ?_|refine nx ?_|refine Aw (λ_=>?_) (λ_=>?_))<;>conv=>whnf))
  refine AI rfl (Iu G b) ?_;rintro y rfl
  by_cases hb:0<=b/\b<G.edges.length
  ·have e:DU G.edges b=.tuple [dE ((G.edges[b.toNat]?).getD ⟨0,0⟩),.bool true]:=by unfold DU;rw[if_pos hb]
   rw[e]
   ((conv=>whnf);repeat' ((first|refine odw ?_|refine nx ?_|refine Aw (λ_=>?_) (λ_=>?_))<;>conv=>whnf))
   exact rfl
  ·have e:DU G.edges b=.tuple [dE ⟨0,0⟩,.bool false]:=by unfold DU;rw[if_neg hb]
   rw[e]
   ((conv=>whnf);repeat' ((first|refine odw ?_|refine nx ?_|refine Aw (λ_=>?_) (λ_=>?_))<;>conv=>whnf))
   exact rfl
theorem P2(E:List Edg)(m n:Nat):FS E m n=tch E m n:=by
 unfold FS
 have h1:(0:Int)<=m:=by omega
 have h2:(0:Int)<=n:=by omega
 simp[h1,h2]
def bS:List (Nat×Plan):=[(3,.split 6 12 (.split 9 12 (.split 10 11 (.leaf [0,1,0,0,1,0,1,0,0,1,6,6,3,3] [0,2,5,7,1,3,4,6,8,9,10,11,12,13] [0,1,0,7,15,0,32,0,224,480,0,1024,4095,8191]) (.leaf [0,1,0,0,1,0,1,0,0,1,6,6,3,3] [0,2,5,7,1,3,4,6,8,9,11,10,12,13] [0,1,0,7,15,0,32,0,224,480,2048,0,4095,8191])) (.split 10 11 (.leaf [0,1,0,0,1,0,1,0,0,1,6,6,3,3] [0,2,5,7,1,3,4,6,8,10,11,12,9,13] [0,1,0,7,15,0,32,0,224,7679,0,1024,3199,8191]) (.leaf [0,1,0,0,1,0,1,0,0,1,6,6,3,3] [0,2,5,7,1,3,4,6,8,11,10,12,9,13] [0,1,0,7,15,0,32,0,224,7679,2048,0,3199,8191]))) (.split 10 11 (.leaf [0,1,0,0,1,0,1,0,0,1,6,6,3,3] [0,2,5,7,1,3,4,10,11,12,6,8,9,13] [0,1,0,7,15,0,7231,0,7423,7679,0,1024,3103,8191]) (.leaf [0,1,0,0,1,0,1,0,0,1,6,6,3,3] [0,2,5,7,1,3,4,11,10,12,6,8,9,13] [0,1,0,7,15,0,7231,0,7423,7679,2048,0,3103,8191])))]
set_option maxHeartbeats 1000000 in
theorem U8(labels:List Int)(S:List Edg)(a b:Int):Pure C1 120 [dM labels S,.int .i64 a,.int .i64 b] (λy=>y=.bool (FS S a b)):=by
 have hl:(S.map dE).length=S.length:=Ab _
 refine AK Tryz.func120 Tryz.ntmps120 [] bS ?_
 by_cases ha0:a<0
 ·rw[Fs (.inl (by omega))]
  ((conv=>whnf);repeat' ((first|refine odw ?_|refine nx ?_|refine Aw (λ_=>?_) (λ_=>?_))<;>conv=>whnf))
  exact rfl
 by_cases hb0:b<0
 ·rw[Fs (.inr (.inl (by omega)))]
  ((conv=>whnf);repeat' ((first|refine odw ?_|refine nx ?_|refine Aw (λ_=>?_) (λ_=>?_))<;>conv=>whnf))
  exact rfl
 by_cases ha1:(S.length:Int)<=a
 ·rw[Fs (.inl (by omega))]
  ((conv=>whnf);repeat' ((first|refine odw ?_|refine nx ?_|refine Aw (λ_=>?_) (λ_=>?_))<;>conv=>whnf))
  exact rfl
 by_cases hb1:(S.length:Int)<=b
 ·rw[Fs (.inr (.inl (by omega)))]
  ((conv=>whnf);repeat' ((first|refine odw ?_|refine nx ?_|refine Aw (λ_=>?_) (λ_=>?_))<;>conv=>whnf))
  exact rfl
 by_cases hab:a=b
 ·rw[Fs (.inr (.inr hab))]
  ((conv=>whnf);repeat' ((first|refine odw ?_|refine nx ?_|refine Aw (λ_=>?_) (λ_=>?_))<;>conv=>whnf))
  exact rfl
 obtain⟨m,rfl⟩:=Ax (show 0<=a by omega)
 obtain⟨n,rfl⟩:=Ax (show 0<=b by omega)
 have hx:=Aa (show m<S.length by omega)
 have hy:=Aa (show n<S.length by omega)
 generalize S[m]=x at hx
 generalize S[n]=y at hy
 obtain⟨xa,xb⟩:=x
 obtain⟨ya,yb⟩:=y
 have hxd:(S.map dE)[m]? =some (.agg [.int .i64 xa,.int .i64 xb]):=by rw[Ac,hx];rfl
 have hyd:(S.map dE)[n]? =some (.agg [.int .i64 ya,.int .i64 yb]):=by rw[Ac,hy];rfl
 rw[RB hx hy (by omega)]
 by_cases h1:xa=ya
 ·(conv=>whnf)
  (repeat' ((first|refine Af ?_ ?_|refine A1 hxd rfl ?_|refine A1 hyd rfl ?_|refine nx ?_|refine Aw (λ_=>?_) (λ_=>?_)|exact A0)<;>conv=>whnf))
  exact Eq.trans (b:=Da.bool true) rfl (by simp[h1])
 by_cases h2:xa=yb
 ·(conv=>whnf)
  (repeat' ((first|refine Af ?_ ?_|refine A1 hxd rfl ?_|refine A1 hyd rfl ?_|refine nx ?_|refine Aw (λ_=>?_) (λ_=>?_)|exact A0)<;>conv=>whnf))
  exact Eq.trans (b:=Da.bool true) rfl (by simp[h2])
 by_cases h3:xb=ya
 ·(conv=>whnf)
  (repeat' ((first|refine Af ?_ ?_|refine A1 hxd rfl ?_|refine A1 hyd rfl ?_|refine nx ?_|refine Aw (λ_=>?_) (λ_=>?_)|exact A0)<;>conv=>whnf))
  exact Eq.trans (b:=Da.bool true) rfl (by simp[h3])
 ·(conv=>whnf)
  (repeat' ((first|refine Af ?_ ?_|refine A1 hxd rfl ?_|refine A1 hyd rfl ?_|refine nx ?_|refine Aw (λ_=>?_) (λ_=>?_)|exact A0)<;>conv=>whnf))
  show Da.plain _=_
  simp[Da.plain,h1,h2,h3]
theorem UD(E:List Edg)(a k:Nat):(K8 E a k).length<=k:=by
 unfold K8
 rw[Ab]
 have:=Co (λb=>decide (a<b)&&tch E a b) (List.range k)
 rwa [Bv]at this
theorem ZV(E:List Edg)(k:Nat):(Fp E k).length<=k*E.length:=by
 induction k with
 |zero=>simp[Fp]
 |
  succ k ih=>
  rw[KV,Ah,Nat.succ_mul]
  have:=UD E k E.length
  omega
set_option maxHeartbeats 2000000 in
theorem gY(labels:List Int)(S:List Edg)(hm:S.length<=4096):Pure C1 78 [dM labels S] (λy=>y=dM (List.replicate S.length 0) (Fp S S.length)):=by
 have hl:(S.map dE).length=S.length:=Ab _
 have hz:Da.list 1 (List.replicate S.length (dI 0))=AS (List.replicate S.length 0):=by simp[AS]
 refine AK Tryz.func78 Tryz.ntmps78 [] [] ?_
 (conv=>whnf)
 (repeat' ((first|refine Af ?_ ?_|refine KN S.length (by omega) (by omega) (by omega) ?_|refine nx ?_|refine Aw (λ_=>?_) (λ_=>?_)|exact A0)<;>conv=>whnf))
 refine AC (ι:=Nat) (λa=>a<=S.length) (λa=>[(4,.d (.int .i64 a)),(3,.own 3),(2,.own 2),(1,.own 1)])
  (λa=>[(1,.cells 59 [.d (AS labels),.d (D0 S)]),(2,.cells 59 [.d .nils,.d .nils]),(3,.cells 59 [.d (AS (List.replicate S.length 0)),.own 301]),(301,.slice 137 2 ((Fp S a).map dE))])
  (λa=>S.length-a) 0 (λ_=>rfl) (Aj _) (.frz 9 rfl (.laxc 3 rfl (.lax (.eq hz) (.same _ .nil)) (.ownc 3 301 137 2 rfl rfl (.there _ (.here _)) (.refl _ _)))) ⟨rfl,rfl,rfl,rfl,trivial⟩ ⟨rfl,rfl,rfl,rfl,trivial⟩ ?_
 intro a ha
 refine Bj [] [] ?_
 by_cases hal:a<S.length
 ·((conv=>whnf);repeat' ((first|refine odw ?_|refine nx ?_|refine Aw (λ_=>?_) (λ_=>?_))<;>conv=>whnf))
  refine AC (ι:=Nat) (λb=>b<=S.length/\a<b) (λb=>[(5,.d (.int .i64 b)),(4,.d (.int .i64 a)),(3,.own 3),(2,.own 2),(1,.own 1)])
   (λb=>[(1,.cells 59 [.d (AS labels),.d (D0 S)]),(2,.cells 59 [.d .nils,.d .nils]),(3,.cells 59 [.d (AS (List.replicate S.length 0)),.own 301]),(301,.slice 137 2 ((Fp S a++K8 S a b).map dE))])
   (λb=>S.length-b) (a+1) (λ_=>rfl) ⟨hal,Nat.lt_succ_self a⟩ (.refl _ _) ⟨rfl,rfl,rfl,rfl,rfl,trivial⟩ ⟨rfl,rfl,rfl,AO (by rw[Xw,Cc]),trivial⟩ ?_
  rintro b ⟨hb,hab⟩
  refine Bj [] [] ?_
  by_cases hbl:b<S.length
  ·have hst:=aX S a b
   have hb1:=UD S a b
   have hb2:=ZV S a
   have hb3:a*S.length<=4096*4096:=CR (by omega) hm
   ((conv=>whnf);repeat' ((first|refine odw ?_|refine nx ?_|refine Aw (λ_=>?_) (λ_=>?_))<;>conv=>whnf))
   refine AI rfl (U8 labels S a b) ?_;rintro y rfl
   rw[P2]
   cases ht:tch S a b with
   |
    true=>
    rw[if_pos ⟨hab,ht⟩]at hst
    have hfin:(Fp S a++K8 S a b).map dE++[.agg [.int .i64 (a:Int),.int .i64 (b:Int)]]=(Fp S a++K8 S a (b+1)).map dE:=by rw[hst];simp[dE]
    ((conv=>whnf);repeat' ((first|refine odw ?_|refine nx ?_|refine Aw (λ_=>?_) (λ_=>?_))<;>conv=>whnf))
    exact⟨b+1,_,_,⟨hbl,by omega⟩,.refl _ _,⟨rfl,rfl,rfl,rfl,rfl,trivial⟩,⟨rfl,rfl,rfl,AO hfin,trivial⟩,by omega⟩
   |
    false=>
    rw[if_neg (by rw[ht];simp),Cc]at hst
    ((conv=>whnf);repeat' ((first|refine odw ?_|refine nx ?_|refine Aw (λ_=>?_) (λ_=>?_))<;>conv=>whnf))
    exact⟨b+1,_,_,⟨hbl,by omega⟩,.refl _ _,⟨rfl,rfl,rfl,rfl,rfl,trivial⟩,⟨rfl,rfl,rfl,AO (by rw[hst]),trivial⟩,by omega⟩
  ·have hbe:b=S.length:=by omega
   subst hbe
   rw[<-KV]
   ((conv=>whnf);repeat' ((first|refine odw ?_|refine nx ?_|refine Aw (λ_=>?_) (λ_=>?_))<;>conv=>whnf))
   exact⟨a+1,_,_,hal,.refl _ _,⟨rfl,rfl,rfl,rfl,trivial⟩,⟨rfl,rfl,rfl,rfl,trivial⟩,by omega⟩
 ·have hae:a=S.length:=by omega
  subst hae
  ((conv=>whnf);repeat' ((first|refine odw ?_|refine nx ?_|refine Aw (λ_=>?_) (λ_=>?_))<;>conv=>whnf))
  exact rfl
end Go.Proofs.YtjejpdfldmempaaGreatDoor
end
section
namespace Go.Proofs.YtjejpdfldmempaaGreatDoor
open Go.Sx Go.RowKit Go.Reg Go.Gr
set_option maxRecDepth 100000
theorem Oo {G:Gr}(_hG:G.Ok)(hn:G.labels.length<=10)(hm:G.edges.length<=30):(BS G.edges G.labels.length).length<=16384:=by
 have key:∀v,(BS G.edges v).length<=v*900:=by
  intro v
  induction v with
  |zero=>simp[BS]
  |
   succ v ih=>
   rw[Eg,Ah,IL]
   have h0:(Lz G.edges v).length<=30:=by
    unfold Lz
    rw[Ab]
    have:=Co (λp:Edg×Nat=>decide (p.1.a=(v:Int)\/p.1.b=(v:Int))) G.edges.zipIdx
    rw[List.length_zipIdx]at this
    omega
   have h1:=MZ (Lz G.edges v).length
   have h2:(Lz G.edges v).length*(Lz G.edges v).length<=30*30:=CR h0 h0
   omega
 have:=key G.labels.length
 omega
def wN(G:Gr):Gr:=⟨List.replicate G.edges.length 0,Fp G.edges G.edges.length⟩
theorem XZ {G:Gr}(hG:G.Ok)(hn:G.labels.length<=10)(hm:G.edges.length<=30):Vy G=.tuple [dG (wN G),.nili]:=by
 unfold Vy
 have:=Oo hG hn hm
 rw[if_neg (by omega)]
 rfl
end Go.Proofs.YtjejpdfldmempaaGreatDoor
end
section
namespace Go.Gr
def Bl(E:List Edg)(l:List Int):List Edg:=l.filterMap λid:Int=>if 0<=id/\id<E.length then E[id.toNat]? else none
def E1(out:List Int)(x:Int):List Int:=if x∈out then out else out++[x]
def Bq(l:List Edg):List Int:=l.foldl (λout e=>E1 (E1 out e.a) e.b) []
theorem Gz(l:List Edg)(e:Edg):Bq (l++[e])=E1 (E1 (Bq l) e.a) e.b:=by simp[Bq,List.foldl_append]
theorem Kb(out:List Int)(x:Int):(E1 out x).length<=out.length+1:=by unfold E1;split<;>simp
theorem Jm(l:List Edg):(Bq l).length<=2*l.length:=by
 suffices h:∀l:List Edg,(Bq l.reverse).length<=2*l.length by have:=h l.reverse;rwa [List.reverse_reverse,List.length_reverse]at this
 intro l
 induction l with
 |nil=>simp[Bq]
 |
  cons e l ih=>
  rw[List.reverse_cons,Gz]
  have h1:=Kb (E1 (Bq l.reverse) e.a) e.b
  have h2:=Kb (Bq l.reverse) e.a
  simp only[A4];omega
theorem O7(E:List Edg)(l:List Int)(x:Int):Bl E (l++[x])=Bl E l++(if 0<=x/\x<E.length then E[x.toNat]? else none).toList:=by
 simp only[Bl,List.filterMap_append,List.filterMap_cons,List.filterMap_nil]
 congr 1
theorem Nw {E:List Edg} {l:List Int} {m:Nat} {e:Edg}(h:E[m]? =some e):Bl E (l++[(m:Int)])=Bl E l++[e]:=by
 have:=(Ae.1 h).1
 rw[O7,if_pos ⟨by omega,by omega⟩,AV,h];rfl
theorem QL {E:List Edg} {l:List Int} {x:Int}(h:¬(0<=x/\x<E.length)):Bl E (l++[x])=Bl E l:=by
 rw[O7,if_neg h];simp
theorem Fl(E:List Edg)(l:List Int):(Bl E l).length<=l.length:=List.length_filterMap_le _ _
def OG(l:List Int)(x:Int):Int:=match l.findIdx? (λy=>decide (x=y))with|some i=>(i:Int)|none=>-1
theorem oV {l:List Int} {x:Int} {i:Nat}(h:l[i]? =some x)(hn:∀y∈l.take i,¬x=y):OG l x=i:=by
 unfold OG
 have:l.findIdx? (λy=>decide (x=y))=some i:=by
  rw[AN]
  obtain⟨h1,h2⟩:=Ae.1 h
  refine⟨h1,by simp[h2],λj hj=>?_⟩
  have:=hn l[j] (AQ.2 ⟨j,by omega,rfl⟩)
  simp[this]
 rw[this]
theorem Sv {l:List Int} {x:Int}(h:¬x∈l):OG l x=-1:=by
 unfold OG
 have:l.findIdx? (λy=>decide (x=y))=none:=by
  rw[AM]
  intro y hy
  have:¬x=y:=λe=>h (e▸hy)
  simp[this]
 rw[this]
theorem VG {l:List Int} {x:Int}(h:x∈l):0<=OG l x:=by
 unfold OG
 split
 ·omega
 ·rename_i hn
  rw[AM]at hn
  have:=hn x h
  simp at this
end Go.Gr
namespace Go.Proofs.YtjejpdfldmempaaGreatDoor
open Go.Sx Go.RowKit Go.Reg Go.Gr
set_option maxRecDepth 100000
theorem Im {O:List Nat} {w:World} {l:List Int} {v:Value}(h:Rep O w (AS l) v):l.length<=9223372036854775807:=by
 have:=Zh h
 rw[Ab]at this
 unfold maxLen at this
 omega
theorem Pure.len1 {f:FuncId} {l:List Int} {xs:List Da} {Q:Da->Prop}(h:l.length<=9223372036854775807->Sx.Pure C1 f (AS l::xs) Q):Sx.Pure C1 f (AS l::xs) Q:=
 Sx.Pure.assume (λO w us hr=>by obtain⟨v,vs,rfl,h1,_⟩:=Ci hr;exact Im h1) h
theorem GZ(l:List Int)(x:Int):Pure C1 86 [AS l,.int .i64 x] (λy=>y=.bool (decide (x∈l))):=by
 refine Pure.len1 λhm=>?_
 have hl:(l.map dI).length=l.length:=Ab _
 refine AK Tryz.func86 Tryz.ntmps86 [] [] ?_
 ((conv=>whnf);repeat' ((first|refine odw ?_|refine nx ?_|refine Aw (λ_=>?_) (λ_=>?_))<;>conv=>whnf))
 refine AC (ι:=Nat) (λi=>i<=l.length/\∀y∈l.take i,¬x=y) (λi=>[(5,.d (.int .i64 i)),(1,.d (.int .i64 x)),(0,.d (AS l))]) (λ_=>[]) (λi=>l.length-i) 0 (λ_=>rfl) ⟨Aj _,by simp⟩ (.refl _ _) ⟨rfl,rfl,rfl,trivial⟩ trivial ?_
 rintro i ⟨hi,hne⟩
 refine Bj [] [] ?_
 by_cases hlt:i<l.length
 ·have hx:=Aa hlt
  generalize l[i]=y at hx
  have hxd:(l.map dI)[i]? =some (.int .i64 y):=by rw[Ac,hx];rfl
  by_cases he:y=x
  ·subst he
   rw[decide_eq_true (AB hx)]
   (conv=>whnf)
   (repeat' ((first|refine Af ?_ ?_|refine A1 hxd rfl ?_|refine nx ?_|refine Aw (λ_=>?_) (λ_=>?_)|exact A0)<;>conv=>whnf))
   exact rfl
  ·(conv=>whnf)
   (repeat' ((first|refine Af ?_ ?_|refine A1 hxd rfl ?_|refine nx ?_|refine Aw (λ_=>?_) (λ_=>?_)|exact A0)<;>conv=>whnf))
   refine⟨i+1,_,_,⟨hlt,?_⟩,.refl _ _,⟨rfl,rfl,rfl,trivial⟩,trivial,by omega⟩
   intro z hz
   rw[Av,hx]at hz
   rcases Ag.1 hz with hz|hz
   ·exact hne z hz
   ·simp at hz;subst hz;exactλe=>he e.symm
 ·have hii:l.take i=l:=Ak (by omega)
  rw[hii]at hne
  rw[decide_eq_false (λh=>hne x h rfl)]
  ((conv=>whnf);repeat' ((first|refine odw ?_|refine nx ?_|refine Aw (λ_=>?_) (λ_=>?_))<;>conv=>whnf))
  exact rfl
theorem Ls(l:List Int)(x:Int):Pure C1 128 [AS l,.int .i64 x] (λy=>y=.int .i64 (OG l x)):=by
 refine Pure.len1 λhm=>?_
 have hl:(l.map dI).length=l.length:=Ab _
 refine AK Tryz.func128 Tryz.ntmps128 [] [] ?_
 ((conv=>whnf);repeat' ((first|refine odw ?_|refine nx ?_|refine Aw (λ_=>?_) (λ_=>?_))<;>conv=>whnf))
 refine AC (ι:=Nat) (λi=>i<=l.length/\∀y∈l.take i,¬x=y) (λi=>[(8,.d (.int .i64 i)),(7,.d (.int .i64 (l.map dI).length)),(1,.d (.int .i64 x)),(0,.d (AS l))]) (λ_=>[]) (λi=>l.length-i) 0 (λ_=>rfl) ⟨Aj _,by simp⟩ (.refl _ _) ⟨rfl,rfl,rfl,rfl,trivial⟩ trivial ?_
 rintro i ⟨hi,hne⟩
 refine Bj [] [] ?_
 by_cases hlt:i<l.length
 ·have hx:=Aa hlt
  generalize l[i]=y at hx
  have hxd:(l.map dI)[i]? =some (.int .i64 y):=by rw[Ac,hx];rfl
  by_cases he:x=y
  ·subst he
   rw[oV hx hne]
   (conv=>whnf)
   (repeat' ((first|refine Af ?_ ?_|refine A1 hxd rfl ?_|refine nx ?_|refine Aw (λ_=>?_) (λ_=>?_)|exact A0)<;>conv=>whnf))
   exact rfl
  ·(conv=>whnf)
   (repeat' ((first|refine Af ?_ ?_|refine A1 hxd rfl ?_|refine nx ?_|refine Aw (λ_=>?_) (λ_=>?_)|exact A0)<;>conv=>whnf))
   refine⟨i+1,_,_,⟨hlt,?_⟩,.refl _ _,⟨rfl,rfl,rfl,rfl,trivial⟩,trivial,by omega⟩
   intro z hz
   rw[Av,hx]at hz
   rcases Ag.1 hz with hz|hz
   ·exact hne z hz
   ·simp at hz;subst hz;exact he
 ·have hii:l.take i=l:=Ak (by omega)
  rw[hii]at hne
  rw[Sv (λh=>hne x h rfl)]
  ((conv=>whnf);repeat' ((first|refine odw ?_|refine nx ?_|refine Aw (λ_=>?_) (λ_=>?_))<;>conv=>whnf))
  exact rfl
theorem Gh(l:List Int)(x:Int):Pure C1 186 [AS l,.int .i64 x] (λy=>y=.bool (decide (x∈l))):=by
 refine AK Tryz.func186 Tryz.ntmps186 [] [] ?_
 ((conv=>whnf);repeat' ((first|refine odw ?_|refine nx ?_|refine Aw (λ_=>?_) (λ_=>?_))<;>conv=>whnf))
 refine Ad rfl (Ls l x) ?_
 by_cases h:x∈l
 ·have:=VG h
  ((conv=>whnf);repeat' ((first|refine odw ?_|refine nx ?_|refine Aw (λ_=>?_) (λ_=>?_))<;>conv=>whnf))
  show Da.plain _=_
  simp[Da.plain,h,this]
 ·rw[Sv h]
  ((conv=>whnf);repeat' ((first|refine odw ?_|refine nx ?_|refine Aw (λ_=>?_) (λ_=>?_))<;>conv=>whnf))
  show Da.plain _=_
  simp[Da.plain,h]
def iJ:List (Nat×Plan):=[(6,.leaf [0,0,0,1,0,0,0,1,0] [0,1,2,4,5,6,3,7,8] [0,0,3,7,0,0,48,112,255])]
theorem RK(l r:List Int):Pure C1 28 [AS l,AS r] (λy=>y=.bool (decide (l=r))):=by
 refine Pure.len1 λhm=>?_
 have hl:(l.map dI).length=l.length:=Ab _
 have hr:(r.map dI).length=r.length:=Ab _
 refine AK Tryz.func28 Tryz.ntmps28 [] iJ ?_
 by_cases hlen:l.length=r.length
 ·((conv=>whnf);repeat' ((first|refine odw ?_|refine nx ?_|refine Aw (λ_=>?_) (λ_=>?_))<;>conv=>whnf))
  refine AC (ι:=Nat) (λi=>i<=l.length/\l.take i=r.take i) (λi=>[(5,.d (.int .i64 i)),(1,.d (AS r)),(0,.d (AS l))]) (λ_=>[]) (λi=>l.length-i) 0 (λ_=>rfl) ⟨Aj _,by simp⟩ (.refl _ _) ⟨rfl,rfl,rfl,trivial⟩ trivial ?_
  rintro i ⟨hi,he⟩
  refine Bj [] iJ ?_
  by_cases hlt:i<l.length
  ·have hx:=Aa hlt
   have hy:=Aa (l:=r) (i:=i) (by omega)
   generalize l[i]=x at hx
   generalize r[i]=y at hy
   have hxd:(l.map dI)[i]? =some (.int .i64 x):=by rw[Ac,hx];rfl
   have hyd:(r.map dI)[i]? =some (.int .i64 y):=by rw[Ac,hy];rfl
   by_cases hxy:x=y
   ·subst hxy
    (conv=>whnf)
    (repeat' ((first|refine Af ?_ ?_|refine A1 hxd rfl ?_|refine A1 hyd rfl ?_|refine nx ?_|refine Aw (λ_=>?_) (λ_=>?_)|exact A0)<;>conv=>whnf))
    refine⟨i+1,_,_,⟨hlt,?_⟩,.refl _ _,⟨rfl,rfl,rfl,trivial⟩,trivial,by omega⟩
    rw[Av,Av,hx,hy,he]
   ·rw[decide_eq_false (λh=>by subst h;rw[hx]at hy;cases hy;exact hxy rfl)]
    (conv=>whnf)
    (repeat' ((first|refine Af ?_ ?_|refine A1 hxd rfl ?_|refine A1 hyd rfl ?_|refine nx ?_|refine Aw (λ_=>?_) (λ_=>?_)|exact A0)<;>conv=>whnf))
    exact rfl
  ·rw[Ak (by omega),Ak (by omega)]at he
   rw[decide_eq_true he]
   ((conv=>whnf);repeat' ((first|refine odw ?_|refine nx ?_|refine Aw (λ_=>?_) (λ_=>?_))<;>conv=>whnf))
   exact rfl
 ·rw[decide_eq_false (λh=>hlen (by rw[h]))]
  ((conv=>whnf);repeat' ((first|refine odw ?_|refine nx ?_|refine Aw (λ_=>?_) (λ_=>?_))<;>conv=>whnf))
  exact rfl
theorem S8(G:Gr)(l:List Int)(hb:l.length<=4294967296):Pure C1 127 [dG G,AS l] (λy=>y=D0 (Bl G.edges l)):=by
 have hl:(l.map dI).length=l.length:=Ab _
 refine AK Tryz.func127 Tryz.ntmps127 [] [] ?_
 ((conv=>whnf);repeat' ((first|refine odw ?_|refine nx ?_|refine Aw (λ_=>?_) (λ_=>?_))<;>conv=>whnf))
 refine AC (ι:=Nat) (λi=>i<=l.length) (λi=>[(12,.d (.int .i64 i)),(11,.d (.int .i64 (l.map dI).length)),(10,.d (AS l)),(5,.own 300),(0,.d (dG G))]) (λi=>[(300,.slice 103 2 ((Bl G.edges (l.take i)).map dE))]) (λi=>l.length-i) 0 (λ_=>rfl) (Aj _)
  (.own 5 300 103 2 rfl rfl (.refl _ _)) ⟨rfl,rfl,rfl,rfl,rfl,trivial⟩ ⟨rfl,trivial⟩ ?_
 intro i hi
 refine Bj [] [] ?_
 by_cases hlt:i<l.length
 ·have hx:=Aa hlt
  generalize l[i]=x at hx
  have hxd:(l.map dI)[i]? =some (.int .i64 x):=by rw[Ac,hx];rfl
  have htk:l.take (i+1)=l.take i++[x]:=by rw[Av,hx];rfl
  have hel:=Fl G.edges (l.take i)
  rw[As]at hel
  (conv=>whnf)
  (repeat' ((first|refine Af ?_ ?_|refine A1 hxd rfl ?_|refine nx ?_|refine Aw (λ_=>?_) (λ_=>?_)|exact A0)<;>conv=>whnf))
  refine Ad rfl (Iu G x) ?_
  by_cases h:0<=x/\x<G.edges.length
  ·obtain⟨m,rfl⟩:=Ax h.1
   have hy:=Aa (show m<G.edges.length by omega)
   have e:DU G.edges (m:Int)=.tuple [dE G.edges[m],.bool true]:=by unfold DU;rw[if_pos h,AV,hy];rfl
   rw[e]
   have hen:=Nw (l:=l.take i) hy
   generalize G.edges[m]=z at hy hen
   have hfin:(Bl G.edges (l.take i)).map dE++[dE z]=(Bl G.edges (l.take (i+1))).map dE:=by rw[htk,hen,Ay];rfl
   ((conv=>whnf);repeat' ((first|refine odw ?_|refine nx ?_|refine Aw (λ_=>?_) (λ_=>?_))<;>conv=>whnf))
   exact⟨i+1,_,_,hlt,.refl _ _,⟨rfl,rfl,rfl,rfl,rfl,trivial⟩,⟨AO hfin,trivial⟩,by omega⟩
  ·have e:DU G.edges x=.tuple [dE ⟨0,0⟩,.bool false]:=by unfold DU;rw[if_neg h]
   rw[e]
   have hfin:(Bl G.edges (l.take i)).map dE=(Bl G.edges (l.take (i+1))).map dE:=by rw[htk,QL h]
   ((conv=>whnf);repeat' ((first|refine odw ?_|refine nx ?_|refine Aw (λ_=>?_) (λ_=>?_))<;>conv=>whnf))
   exact⟨i+1,_,_,hlt,.refl _ _,⟨rfl,rfl,rfl,rfl,rfl,trivial⟩,⟨AO hfin,trivial⟩,by omega⟩
 ·have hii:l.take i=l:=Ak (by omega)
  rw[hii]
  ((conv=>whnf);repeat' ((first|refine odw ?_|refine nx ?_|refine Aw (λ_=>?_) (λ_=>?_))<;>conv=>whnf))
  exact rfl
theorem WW(G:Gr)(l:List Int)(hb:l.length<=2147483000):Pure C1 126 [dG G,AS l] (λy=>y=AS (Bq (Bl G.edges l))):=by
 refine AK Tryz.func126 Tryz.ntmps126 [] [] ?_
 ((conv=>whnf);repeat' ((first|refine odw ?_|refine nx ?_|refine Aw (λ_=>?_) (λ_=>?_))<;>conv=>whnf))
 refine Ad rfl (S8 G l (by omega)) ?_
 have hL:=Fl G.edges l
 generalize Bl G.edges l=L at hL⊢
 have hl:(L.map dE).length=L.length:=Ab _
 ((conv=>whnf);repeat' ((first|refine odw ?_|refine nx ?_|refine Aw (λ_=>?_) (λ_=>?_))<;>conv=>whnf))
 refine AC (ι:=Nat) (λi=>i<=L.length) (λi=>[(14,.d (.int .i64 i)),(13,.d (.int .i64 (L.map dE).length)),(12,.d (D0 L)),(5,.own 300)]) (λi=>[(300,.slice 3 1 ((Bq (L.take i)).map dI))]) (λi=>L.length-i) 0 (λ_=>rfl) (Aj _)
  (.own 5 300 3 1 rfl rfl (.refl _ _)) ⟨rfl,rfl,rfl,rfl,trivial⟩ ⟨rfl,trivial⟩ ?_
 intro i hi
 refine Bj [] [] ?_
 by_cases hlt:i<L.length
 ·have hx:=Aa hlt
  have htk:=λx (h:L[i]? =some x)=>DR h
  have hvl:=Jm (L.take i)
  rw[As]at hvl
  generalize L[i]=e at hx
  obtain⟨ea,eb⟩:=e
  have hxd:(L.map dE)[i]? =some (.agg [.int .i64 ea,.int .i64 eb]):=by rw[Ac,hx];rfl
  have hst:Bq (L.take (i+1))=E1 (E1 (Bq (L.take i)) ea) eb:=by rw[htk _ hx,Gz]
  generalize Bq (L.take i)=out at hst hvl⊢
  (conv=>whnf)
  (repeat' ((first|refine Af ?_ ?_|refine A1 hxd rfl ?_|refine nx ?_|refine Aw (λ_=>?_) (λ_=>?_)|exact A0)<;>conv=>whnf))
  refine AC (ι:=Nat) (λk=>k<=2) (λk=>[(24,.d (.int .i64 k)),(23,.d (.int .i64 2)),(22,.d (AS [ea,eb])),(14,.d (.int .i64 i)),(13,.d (.int .i64 (L.map dE).length)),(12,.d (D0 L)),(5,.own 300)]) (λk=>[(300,.slice 3 1 ((([ea,eb].take k).foldl E1 out).map dI))]) (λk=>2-k) 0 (λ_=>rfl) (Aj _)
   (.frz 22 rfl (.refl _ _)) ⟨rfl,rfl,rfl,rfl,rfl,rfl,rfl,trivial⟩ ⟨rfl,trivial⟩ ?_
  intro k hk
  refine Bj [] [] ?_
  have round:∀(x:Int) (o:List Int),[ea,eb][k]? =some x->([ea,eb].take k).foldl E1 out=o->([ea,eb].take (k+1)).foldl E1 out=E1 o x:=λx o h1 h2=>by
   rw[Av,h1,List.foldl_append,h2];rfl
  have hol:(([ea,eb].take k).foldl E1 out).length<=out.length+2:=by
   have a1:=Kb out ea
   have a2:=Kb (E1 out ea) eb
   rcases(show k=0\/k=1\/k=2 by omega)with rfl|rfl|rfl
   ·simp
   ·simp;omega
   ·simp;omega
  by_cases hk2:k<2
  ·obtain⟨x,hxk⟩:∃x,[ea,eb][k]? =some x:=⟨_,Aa hk2⟩
   have hxkd:([ea,eb].map dI)[k]? =some (.int .i64 x):=by rw[Ac,hxk];rfl
   generalize ho:([ea,eb].take k).foldl E1 out=o at hol⊢
   have hr:=round x o hxk ho
   (conv=>whnf)
   (repeat' ((first|refine Af ?_ ?_|refine A1 hxkd rfl ?_|refine AR tab rfl (Gh o x) rfl ?_|refine nx ?_|refine Aw (λ_=>?_) (λ_=>?_)|exact A0)<;>conv=>whnf))
   by_cases hin:x∈o
   ·have hr2:o.map dI=(([ea,eb].take (k+1)).foldl E1 out).map dI:=by rw[hr];unfold E1;rw[if_pos hin]
    rw[decide_eq_true hin]
    ((conv=>whnf);repeat' ((first|refine odw ?_|refine nx ?_|refine Aw (λ_=>?_) (λ_=>?_))<;>conv=>whnf))
    exact⟨k+1,_,_,hk2,.refl _ _,⟨rfl,rfl,rfl,rfl,rfl,rfl,rfl,trivial⟩,⟨AO hr2,trivial⟩,by omega⟩
   ·have hr2:o.map dI++[.int .i64 x]=(([ea,eb].take (k+1)).foldl E1 out).map dI:=by rw[hr];unfold E1;rw[if_neg hin,Ay];rfl
    rw[decide_eq_false hin]
    ((conv=>whnf);repeat' ((first|refine odw ?_|refine nx ?_|refine Aw (λ_=>?_) (λ_=>?_))<;>conv=>whnf))
    exact⟨k+1,_,_,hk2,.refl _ _,⟨rfl,rfl,rfl,rfl,rfl,rfl,rfl,trivial⟩,⟨AO hr2,trivial⟩,by omega⟩
  ·have:k=2:=by omega
   subst this
   have hr2:(([ea,eb].take 2).foldl E1 out).map dI=(Bq (L.take (i+1))).map dI:=by rw[hst];rfl
   ((conv=>whnf);repeat' ((first|refine odw ?_|refine nx ?_|refine Aw (λ_=>?_) (λ_=>?_))<;>conv=>whnf))
   exact⟨i+1,_,_,hlt,.refl _ _,⟨rfl,rfl,rfl,rfl,trivial⟩,⟨AO hr2,trivial⟩,by omega⟩
 ·have hii:L.take i=L:=Ak (by omega)
  rw[hii]
  ((conv=>whnf);repeat' ((first|refine odw ?_|refine nx ?_|refine Aw (λ_=>?_) (λ_=>?_))<;>conv=>whnf))
  exact rfl
end Go.Proofs.YtjejpdfldmempaaGreatDoor
end
section
namespace Go.Gr
def uG(E:List Edg)(e:Edg):Int:=if e∈E then(GW E e:Int)else-1
theorem Sn:∀(E:List Edg) (e:Edg) (m:Nat),m<=E.length->(∀x∈E.take m,Ce x e<0)->(∀x∈E.drop m,¬Ce x e<0)->GW E e=m:=by
 intro E e m hm h1 h2
 unfold GW
 rw[<-BZ m E,List.countP_append]
 have e1:(E.take m).countP (λx=>decide (Ce x e<0))=(E.take m).length:=List.countP_eq_length.2 λx hx=>by simp[h1 x hx]
 have e2:(E.drop m).countP (λx=>decide (Ce x e<0))=0:=List.countP_eq_zero.2 λx hx=>by have:=h2 x hx;simpa using this
 rw[e1,e2,As];omega
theorem KX {E:List Edg}(h:Cl E) {i j:Nat} {x y:Edg}(hi:E[i]? =some x)(hj:E[j]? =some y)(hij:i<j):Ce x y<0:=by
 obtain⟨h1,rfl⟩:=Ae.1 hi
 obtain⟨h2,rfl⟩:=Ae.1 hj
 exact AH.1 h i j h1 h2 hij
theorem Uu {E:List Edg}(h:Cl E) {m:Nat} {y e:Edg}(hm:E[m]? =some y)(he:Ce y e<0):∀x∈E.take (m+1),Ce x e<0:=by
 intro x hx
 obtain⟨i,hi,rfl⟩:=AQ.1 hx
 by_cases h2:i=m
 ·subst h2
  rw[Aa (by omega)]at hm
  rw[B5 hm];exact he
 ·exact Fm (KX h (Aa (by omega)) hm (by omega)) he
theorem Oc {E:List Edg}(h:Cl E) {m:Nat} {y e:Edg}(hm:E[m]? =some y)(he:¬Ce y e<0):∀x∈E.drop m,¬Ce x e<0:=by
 intro x hx hc
 obtain⟨i,hi,rfl⟩:=DN.1 hx
 by_cases h2:i=0
 ·subst h2
  rw[Aa (by omega)]at hm
  have:=B5 hm
  simp only[Dd]at hc
  rw[this]at hc;exact he hc
 ·exact he (Fm (KX h hm (Aa (by omega)) (by omega)) hc)
theorem oP {E:List Edg}(h:Cl E) {m:Nat} {e:Edg}(h1:E[m]? =some e):GW E e=m:=by
 have hm:=(Ae.1 h1).1
 refine Sn E e m (by omega) (λx hx=>?_) (Oc h h1 (Wr e))
 obtain⟨i,hi,rfl⟩:=AQ.1 hx
 exact KX h (Aa (by omega)) h1 (by omega)
theorem tE(E:List Edg)(e:Edg):GW E e<=E.length:=List.countP_le_length
theorem jY {E:List Edg}(h:Cl E) {e:Edg}(he:e∈E):E[GW E e]? =some e:=by
 obtain⟨m,hm⟩:=List.mem_iff_getElem?.1 he
 rw[oP h hm];exact hm
theorem pA {E:List Edg} {e:Edg}(h:¬e∈E):uG E e=-1:=by rw[uG,if_neg h]
theorem tH {E:List Edg} {e:Edg}:0<=uG E e↔e∈E:=by
 unfold uG
 split
 ·rename_i h;exact⟨λ_=>h,λ_=>by omega⟩
 ·rename_i h;exact⟨λh2=>by omega,λh2=>absurd h2 h⟩
end Go.Gr
namespace Go.Sx
theorem MH {e:Int} {K:Int->Prop}(h:0<=e/\e<=18446744073709551615)(hK:K e):∃n,IntKind.u64.wrap e=n/\K n:=⟨e,IntWalk.u64_in e h,hK⟩
theorem TE(m:Nat) {e:Int} {K:Int->Prop}(h:e=m)(hm:m<=9223372036854775807)(hK:K (m:Int)):∃n,IntKind.i64.wrap e=n/\K n:=by
 subst h;exact⟨_,ME ⟨by omega,by omega⟩,hK⟩
theorem Mm(x y:Nat):((x:Int)+(y:Int)).fdiv (2^1)=((x+y)/2:Nat):=by
 rw[show((2:Int)^1)=2 by decide,Int.fdiv_eq_ediv_of_nonneg _ (by omega)];omega
end Go.Sx
namespace Go.Proofs.YtjejpdfldmempaaGreatDoor
open Go.Sx Go.RowKit Go.Reg Go.Gr
set_option maxRecDepth 100000
def jD:List (Nat×Plan):=[(5,.leaf [0,0,0,0,1,1,3,0] [0,1,2,3,4,5,6,7] [0,0,0,6,14,0,63,127]),
 (8,.leaf [0,0,0,0,0,0,0,0,0,1,1,3,0,0,0,0] [0,1,2,3,4,5,6,7,8,9,10,11,12,13,14,15] [0,0,0,6,14,30,30,30,222,478,30,2046,4094,8190,4095,32767])]
theorem KR(F:FuncId)(hF:∀x y:Edg,Pure C1 F [dE x,dE y] (λr=>r=.int .i64 (Ce x y)))(E:List Edg)(hE:Cl E)(hl:E.length<=16384)(e:Edg):Pure C1 193 [D0 E,dE e,.func (.func F) [] []] (λy=>y=.tuple [.int .i64 (GW E e),.bool (decide (e∈E))]):=by
 have hlm:(E.map dE).length=E.length:=Ab _
 refine AK Tryz.func193 Tryz.ntmps193 [] jD ?_
 ((conv=>whnf);repeat' ((first|refine odw ?_|refine nx ?_|refine Aw (λ_=>?_) (λ_=>?_))<;>conv=>whnf))
 refine AC (ι:=Nat×Nat) (λx=>x.1<=x.2/\x.2<=E.length/\(∀z∈E.take x.1,Ce z e<0)/\∀z∈E.drop x.2,¬Ce z e<0)
  (λx=>[(10,.d (.int .i64 x.2)),(9,.d (.int .i64 x.1)),(8,.d (.int .i64 (E.map dE).length)),(4,.own 4),(2,.d (.func (.func F) [] [])),(0,.d (D0 E))])
  (λ_=>[(4,.cells 103 (Dat.cellsOf (.d (dE e))))]) (λx=>x.2-x.1) (0,(E.map dE).length) (λ_=>rfl) ⟨Aj _,by rw[hlm];exact Az _,by simp,by rw[hlm];simp⟩ (.refl _ _) ⟨rfl,rfl,rfl,rfl,rfl,rfl,trivial⟩ ⟨rfl,trivial⟩ ?_
 rintro⟨lo,hi⟩ ⟨h1,h2,h3,h4⟩
 dsimp only at h1 h2 h3 h4
 refine Bj [] jD ?_
 by_cases hlt:lo<hi
 ·have hx:=Aa (l:=E) (i:=(lo+hi)/2) (by omega)
  generalize E[(lo+hi)/2]'(by omega)=z at hx
  have hxd:(E.map dE)[(lo+hi)/2]? =some (dE z):=by rw[Ac,hx];rfl
  by_cases hz:Ce z e<0
  ·(conv=>whnf)
   (repeat' ((first|refine Af ?_ ?_|refine MH (by omega) ?_|refine nx ?_|refine Aw (λ_=>?_) (λ_=>?_)|exact A0)<;>conv=>whnf))
   refine Qd 1 rfl rfl rfl (by decide) rfl rfl ?_
   (conv=>whnf)
   (repeat' ((first|refine Af ?_ ?_|refine TE ((lo+hi)/2) (Mm lo hi) (by omega) ?_|refine A1 hxd rfl ?_|refine Ad rfl (hF z e) ?_|refine nx ?_|refine Aw (λ_=>?_) (λ_=>?_)|exact A0)<;>conv=>whnf))
   exact⟨((lo+hi)/2+1,hi),_,_,⟨by dsimp only;omega,h2,Uu hE hx hz,h4⟩,.refl _ _,⟨rfl,rfl,rfl,rfl,rfl,rfl,trivial⟩,⟨rfl,trivial⟩,by dsimp only;omega⟩
  ·(conv=>whnf)
   (repeat' ((first|refine Af ?_ ?_|refine MH (by omega) ?_|refine nx ?_|refine Aw (λ_=>?_) (λ_=>?_)|exact A0)<;>conv=>whnf))
   refine Qd 1 rfl rfl rfl (by decide) rfl rfl ?_
   (conv=>whnf)
   (repeat' ((first|refine Af ?_ ?_|refine TE ((lo+hi)/2) (Mm lo hi) (by omega) ?_|refine A1 hxd rfl ?_|refine Ad rfl (hF z e) ?_|refine nx ?_|refine Aw (λ_=>?_) (λ_=>?_)|exact A0)<;>conv=>whnf))
   exact⟨(lo,(lo+hi)/2),_,_,⟨by dsimp only;omega,by dsimp only;omega,h3,Oc hE hx hz⟩,.refl _ _,⟨rfl,rfl,rfl,rfl,rfl,rfl,trivial⟩,⟨rfl,trivial⟩,by dsimp only;omega⟩
 ·have hb:GW E e=lo:=Sn E e lo (by omega) h3 (by rw[show lo=hi by omega];exact h4)
  rw[hb]
  by_cases hln:lo<E.length
  ·have hx:=Aa hln
   generalize E[lo]=z at hx
   have hxd:(E.map dE)[lo]? =some (dE z):=by rw[Ac,hx];rfl
   have hm:e∈E↔Ce z e=0:=by
    rw[pO]
    refine⟨λh=>?_,λh=>h▸AB hx⟩
    have:=jY hE h
    rw[hb,hx]at this
    exact B5 this
   by_cases hz:Ce z e=0
   ·rw[decide_eq_true (hm.2 hz)]
    (conv=>whnf)
    (repeat' ((first|refine Af ?_ ?_|refine A1 hxd rfl ?_|refine Ad rfl (hF z e) ?_|refine nx ?_|refine Aw (λ_=>?_) (λ_=>?_)|exact A0)<;>conv=>whnf))
    show Da.plain (.tuple [_,.prop _ _])=_
    simp[Da.plain,HH,hz]
   ·rw[decide_eq_false (λh=>hz (hm.1 h))]
    (conv=>whnf)
    (repeat' ((first|refine Af ?_ ?_|refine A1 hxd rfl ?_|refine Ad rfl (hF z e) ?_|refine nx ?_|refine Aw (λ_=>?_) (λ_=>?_)|exact A0)<;>conv=>whnf))
    show Da.plain (.tuple [_,.prop _ _])=_
    simp[Da.plain,HH,hz]
  ·have hm:¬e∈E:=λh=>by
    have:=jY hE h
    rw[hb,Bh (by omega)]at this
    cases this
   rw[decide_eq_false hm]
   ((conv=>whnf);repeat' ((first|refine odw ?_|refine nx ?_|refine Aw (λ_=>?_) (λ_=>?_))<;>conv=>whnf))
   exact rfl
theorem M6(E:List Edg)(hE:Cl E)(hl:E.length<=16384)(e:Edg):Pure C1 193 [D0 E,dE e,.func (.func 166) [] []] (λy=>y=.tuple [.int .i64 (GW E e),.bool (decide (e∈E))]):=KR _ XL E hE hl e
def sR:List (Nat×Plan):=[(3,.leaf [0,0,0,1,0,0,0,2,2,0,0,0,0,0] [0,1,2,4,5,6,3,7,8,9,10,11,12,13] [0,1,3,7,0,0,48,112,255,511,1023,1023,2047,8191])]
def vZ:List FuncId:=[165,193]
theorem oZ(G:Gr)(hG:G.Ok)(a b:Int):Pure C1 196 [dG G,.int .i64 a,.int .i64 b] (λy=>y=.int .i64 (uG G.edges (turn ⟨a,b⟩))):=by
 refine AK Tryz.func196 Tryz.ntmps196 vZ sR ?_
 have hc:Pure C1 165 [dE ⟨a,b⟩] (λy=>y=dE (turn ⟨a,b⟩)):=Gi ⟨a,b⟩
 by_cases h:turn ⟨a,b⟩∈G.edges
 ·have hb:=M6 G.edges hG.sorted hG.esize (turn ⟨a,b⟩)
  rw[decide_eq_true h]at hb
  rw[show uG G.edges (turn ⟨a,b⟩)=GW G.edges (turn ⟨a,b⟩)from if_pos h]
  (conv=>whnf)
  (repeat' ((first|refine Af ?_ ?_|refine Ad rfl hc ?_|refine Ad rfl hb ?_|refine nx ?_|refine Aw (λ_=>?_) (λ_=>?_)|exact A0)<;>conv=>whnf))
  exact rfl
 ·have hb:=M6 G.edges hG.sorted hG.esize (turn ⟨a,b⟩)
  rw[decide_eq_false h]at hb
  rw[pA h]
  (conv=>whnf)
  (repeat' ((first|refine Af ?_ ?_|refine Ad rfl hc ?_|refine Ad rfl hb ?_|refine nx ?_|refine Aw (λ_=>?_) (λ_=>?_)|exact A0)<;>conv=>whnf))
  exact rfl
def wA:List FuncId:=[196]
theorem Sw(G:Gr)(hG:G.Ok)(a b:Int):Pure C1 132 [dG G,.int .i64 a,.int .i64 b] (λy=>y=.bool (decide (turn ⟨a,b⟩∈G.edges))):=by
 refine AK Tryz.func132 Tryz.ntmps132 wA [] ?_
 (conv=>whnf)
 (repeat' ((first|refine Af ?_ ?_|refine Ad rfl (oZ G hG a b) ?_|refine nx ?_|refine Aw (λ_=>?_) (λ_=>?_)|exact A0)<;>conv=>whnf))
 show Da.plain _=_
 simp[Da.plain,tH]
end Go.Proofs.YtjejpdfldmempaaGreatDoor
end
section
namespace Go.Gr
def KA:Option Nat->Int
 |some i=>i
 |none=>-1
def Q7(l:List Int)(p:Int->Bool):Int:=KA (l.findIdx? p)
theorem oW {l:List Int} {p:Int->Bool} {i:Nat} {x:Int}(h:l[i]? =some x)(hx:p x=true)(hn:∀y∈l.take i,p y=false):Q7 l p=i:=by
 unfold Q7
 have:l.findIdx? p=some i:=by
  rw[AN]
  obtain⟨h1,h2⟩:=Ae.1 h
  refine⟨h1,by rw[h2];exact hx,λj hj=>?_⟩
  have:=hn l[j] (AQ.2 ⟨j,by omega,rfl⟩)
  simp[this]
 rw[this];rfl
theorem dB {l:List Int} {p:Int->Bool}(h:∀y∈l,p y=false):Q7 l p=-1:=by
 unfold Q7
 have:l.findIdx? p=none:=by rw[AM];exactλy hy=>by simp[h y hy]
 rw[this];rfl
theorem Mk(l:List Int)(p:Int->Bool):0<=Q7 l p↔l.any p=true:=by
 unfold Q7
 cases h:l.findIdx? p with
 |
  none=>
  rw[AM]at h
  simp only[KA]
  refine⟨λh=>by omega,λh2=>?_⟩
  rw[Bn]at h2
  obtain⟨x,hx,hp⟩:=h2
  have:=h x hx
  simp[hp]at this
 |
  some i=>
  rw[AN]at h
  obtain⟨h1,h2,_⟩:=h
  simp only[KA]
  exact⟨λ_=>Bn.2 ⟨_,AL h1,h2⟩,λ_=>by omega⟩
end Go.Gr
namespace Go.Sx
theorem pW(xs:List Da):Ei (BO xs)=some xs:=by
 induction xs with
 |nil=>rfl
 |cons x xs ih=>simp[BO,Ei,ih]
theorem Ez(x:Da)(xs:List Da):Ei (.d x::BO xs)=some (x::xs):=by simp[Ei,pW]
end Go.Sx
namespace Go.Proofs.YtjejpdfldmempaaGreatDoor
open Go.Sx Go.RowKit Go.Reg Go.Gr
set_option maxRecDepth 100000
theorem Hx(l:List Int)(g:FuncId)(cs:List Da)(p:Int->Bool)(hp:∀x∈l,Pure C1 g (.int .i64 x::cs) (λy=>y=.bool (p x))):Pure C1 231 [AS l,.func (.func g) [] cs] (λy=>y=.int .i64 (Q7 l p)):=by
 refine Pure.len1 λhm=>?_
 have hl:(l.map dI).length=l.length:=Ab _
 refine AK Tryz.func231 Tryz.ntmps231 [] [] ?_
 ((conv=>whnf);repeat' ((first|refine odw ?_|refine nx ?_|refine Aw (λ_=>?_) (λ_=>?_))<;>conv=>whnf))
 refine AC (ι:=Nat) (λi=>i<=l.length/\∀y∈l.take i,p y=false) (λi=>[(8,.d (.int .i64 i)),(7,.d (.int .i64 (l.map dI).length)),(1,.d (.func (.func g) [] cs)),(0,.d (AS l))]) (λ_=>[]) (λi=>l.length-i) 0 (λ_=>rfl) ⟨Aj _,by simp⟩ (.refl _ _) ⟨rfl,rfl,rfl,rfl,trivial⟩ trivial ?_
 rintro i ⟨hi,hne⟩
 refine Bj [] [] ?_
 by_cases hlt:i<l.length
 ·have hx:=Aa hlt
  generalize l[i]=y at hx
  have hxd:(l.map dI)[i]? =some (.int .i64 y):=by rw[Ac,hx];rfl
  have hpy:=hp y (AB hx)
  cases hy:p y with
  |
   true=>
   rw[hy]at hpy
   rw[oW hx hy hne]
   (conv=>whnf)
   (repeat' ((first|refine Af ?_ ?_|refine A1 hxd rfl ?_|refine Ad (Ez _ _) hpy ?_|refine nx ?_|refine Aw (λ_=>?_) (λ_=>?_)|exact A0)<;>conv=>whnf))
   exact rfl
  |
   false=>
   rw[hy]at hpy
   (conv=>whnf)
   (repeat' ((first|refine Af ?_ ?_|refine A1 hxd rfl ?_|refine Ad (Ez _ _) hpy ?_|refine nx ?_|refine Aw (λ_=>?_) (λ_=>?_)|exact A0)<;>conv=>whnf))
   refine⟨i+1,_,_,⟨hlt,?_⟩,.refl _ _,⟨rfl,rfl,rfl,rfl,trivial⟩,trivial,by omega⟩
   intro z hz
   rw[Av,hx]at hz
   rcases Ag.1 hz with hz|hz
   ·exact hne z hz
   ·simp at hz;subst hz;exact hy
 ·have hii:l.take i=l:=Ak (by omega)
  rw[hii]at hne
  rw[dB hne]
  ((conv=>whnf);repeat' ((first|refine odw ?_|refine nx ?_|refine Aw (λ_=>?_) (λ_=>?_))<;>conv=>whnf))
  exact rfl
theorem R7(G:Gr)(v:Int):Pure C1 184 [dG G,.int .i64 v] (λy=>y=.bool (Dw G v)):=by
 refine AK Tryz.func184 Tryz.ntmps184 [] [] ?_
 by_cases h0:0<=v
 ·(conv=>whnf)
  (repeat' ((first|refine Af ?_ ?_|refine Ad rfl (Ij G) ?_|refine nx ?_|refine Aw (λ_=>?_) (λ_=>?_)|exact A0)<;>conv=>whnf))
  show Da.plain _=_
  simp[Da.plain,Dw,h0]
 ·have:Dw G v=false:=by simp[Dw,h0]
  rw[this]
  ((conv=>whnf);repeat' ((first|refine odw ?_|refine nx ?_|refine Aw (λ_=>?_) (λ_=>?_))<;>conv=>whnf))
  exact rfl
def tX:List FuncId:=[132]
def Fh(E:List Edg)(v:Int)(u:Int):Bool:=decide (turn ⟨u,v⟩∈E)
theorem eQ(G:Gr)(hG:G.Ok)(v u:Int):Pure C1 232 [.int .i64 u,.ref (dG G),.ref (.int .i64 v)] (λy=>y=.bool (Fh G.edges v u)):=by
 refine AK Tryz.func232 Tryz.ntmps232 tX [] ?_
 (conv=>whnf)
 (repeat' ((first|refine Af ?_ ?_|refine Ad rfl (Sw G hG u v) ?_|refine nx ?_|refine Aw (λ_=>?_) (λ_=>?_)|exact A0)<;>conv=>whnf))
 exact rfl
def vH:List FuncId:=[231]
def Wx(E:List Edg)(l:List Int)(v:Int):Int:=Q7 l (Fh E v)
theorem Ww(G:Gr)(hG:G.Ok)(l:List Int)(v:Int):Pure C1 185 [dG G,AS l,.int .i64 v] (λy=>y=.int .i64 (Wx G.edges l v)):=by
 refine AK Tryz.func185 Tryz.ntmps185 vH [] ?_
 (conv=>whnf)
 (repeat' ((first|refine Af ?_ ?_|refine AR tab rfl (Hx l _ [.ref (dG G),.ref (.int .i64 v)] _ (λu _=>eQ G hG v u)) rfl ?_|refine nx ?_|refine Aw (λ_=>?_) (λ_=>?_)|exact A0)<;>conv=>whnf))
 exact rfl
end Go.Proofs.YtjejpdfldmempaaGreatDoor
namespace Go.Proofs.YtjejpdfldmempaaGreatDoor
open Go.Sx Go.RowKit Go.Reg Go.Gr
set_option maxRecDepth 100000
def Dc(G:Gr)(l:List Int)(i:Nat)(v:Int):Bool:=Dw G v&&(!decide (v∈l.take i)&&(decide (i=0)||(l.take i).any (Fh G.edges v)))
def BW(G:Gr)(l:List Int):Bool:=(List.range l.length).all λi=>match l[i]? with
 |some v=>Dc G l i v
 |none=>true
theorem ED {G:Gr} {l:List Int} {i:Nat} {v:Int}(h:l[i]? =some v)(h2:Dc G l i v=false):BW G l=false:=by
 unfold BW
 rw[WN]
 exact⟨i,by simp[(Ae.1 h).1],by simp[h,h2]⟩
theorem JD {G:Gr} {l:List Int}(h:∀(i:Nat) (v:Int),l[i]? =some v->Dc G l i v=true):BW G l=true:=by
 unfold BW
 rw[BY]
 intro i _
 cases hx:l[i]? with
 |none=>rfl
 |some v=>exact h i v hx
theorem EE {len i:Nat} {n:Int} {K:Nat->Prop}(hn:n=i)(hi:i<=len)(hK:K i):∃m:Nat,n=m/\m<=len/\K m:=⟨i,hn,hi,hK⟩
theorem JV(l:List Int)(i:Nat):AS (l.take i)=.list 1 ((l.map dI).take i):=by unfold AS;rw[CW]
def qX:List FuncId:=[184,186,185]
theorem V1(G:Gr)(hG:G.Ok)(l:List Int):Pure C1 131 [dG G,AS l] (λy=>y=.bool (BW G l)):=by
 refine Pure.assume (λO w us hr=>by obtain⟨v,vs,rfl,h1,h2⟩:=Ci hr;obtain⟨v2,vs2,rfl,h3,_⟩:=Ci h2;exact Im h3) λhm=>?_
 have hl:(l.map dI).length=l.length:=Ab _
 refine AK Tryz.func131 Tryz.ntmps131 qX [] ?_
 ((conv=>whnf);repeat' ((first|refine odw ?_|refine nx ?_|refine Aw (λ_=>?_) (λ_=>?_))<;>conv=>whnf))
 refine AC (ι:=Nat) (λi=>i<=l.length/\∀(j:Nat) (v:Int),j<i->l[j]? =some v->Dc G l j v=true) (λi=>[(9,.d (.int .i64 i)),(8,.d (.int .i64 (l.map dI).length)),(7,.d (AS l)),(1,.d (AS l)),(0,.d (dG G))]) (λ_=>[]) (λi=>l.length-i) 0 (λ_=>rfl) ⟨Aj _,by intro j v h;omega⟩ (.refl _ _) ⟨rfl,rfl,rfl,rfl,rfl,trivial⟩ trivial ?_
 rintro i ⟨hi,hne⟩
 refine Bj qX [] ?_
 by_cases hlt:i<l.length
 ·have hx:=Aa hlt
  generalize l[i]=y at hx
  have hxd:(l.map dI)[i]? =some (.int .i64 y):=by rw[Ac,hx];rfl
  have h1:=R7 G y
  have h2:=Gh (l.take i) y
  have h3:=Ww G hG (l.take i) y
  rw[JV]at h2 h3
  have hi2:i<=(l.map dI).length:=by omega
  cases hv:Dw G y with
  |
   false=>
   rw[hv]at h1
   rw[ED hx (by simp[Dc,hv])]
   (conv=>whnf)
   (repeat' ((first|refine Af ?_ ?_|refine A1 hxd rfl ?_|refine Ad rfl h1 ?_|refine nx ?_|refine Aw (λ_=>?_) (λ_=>?_)|exact A0)<;>conv=>whnf))
   exact rfl
  |
   true=>
   rw[hv]at h1
   by_cases hc:y∈l.take i
   ·rw[decide_eq_true hc]at h2
    rw[ED hx (by simp[Dc,hc])]
    (conv=>whnf)
    (repeat' ((first|refine Af ?_ ?_|refine A1 hxd rfl ?_|refine Ad rfl h1 ?_|refine EE rfl hi2 ?_|refine Ad rfl h2 ?_|refine nx ?_|refine Aw (λ_=>?_) (λ_=>?_)|exact A0)<;>conv=>whnf))
    exact rfl
   ·rw[decide_eq_false hc]at h2
    by_cases h0:i=0
    ·have hyes:Dc G l i y=true:=by simp[Dc,hv,h0]
     (conv=>whnf)
     (repeat' ((first|refine Af ?_ ?_|refine A1 hxd rfl ?_|refine Ad rfl h1 ?_|refine EE rfl hi2 ?_|refine Ad rfl h2 ?_|refine nx ?_|refine Aw (λ_=>?_) (λ_=>?_)|exact A0)<;>conv=>whnf))
     refine⟨i+1,_,_,⟨hlt,?_⟩,.refl _ _,⟨rfl,rfl,rfl,rfl,rfl,trivial⟩,trivial,by omega⟩
     intro j v hj hjv
     by_cases hji:j=i
     ·subst hji;rw[hx]at hjv;cases hjv;exact hyes
     ·exact hne j v (by omega) hjv
    ·by_cases hb:(l.take i).any (Fh G.edges y)=true
     ·have hyes:Dc G l i y=true:=by simp only[Dc,hv,hb,decide_eq_false hc];simp
      have hbn:¬Wx G.edges (l.take i) y<0:=by have:=(Mk (l.take i) (Fh G.edges y)).2 hb;unfold Wx;omega
      (conv=>whnf)
      (repeat' ((first|refine Af ?_ ?_|refine A1 hxd rfl ?_|refine Ad rfl h1 ?_|refine EE rfl hi2 ?_|refine Ad rfl h2 ?_|refine Ad rfl h3 ?_|refine nx ?_|refine Aw (λ_=>?_) (λ_=>?_)|exact A0)<;>conv=>whnf))
      refine⟨i+1,_,_,⟨hlt,?_⟩,.refl _ _,⟨rfl,rfl,rfl,rfl,rfl,trivial⟩,trivial,by omega⟩
      intro j v hj hjv
      by_cases hji:j=i
      ·subst hji;rw[hx]at hjv;cases hjv;exact hyes
      ·exact hne j v (by omega) hjv
     ·have hno:Dc G l i y=false:=by simp only[Dc,hv,Es.2 hb,decide_eq_false h0];simp
      rw[ED hx hno]
      have hbn:Wx G.edges (l.take i) y<0:=by
                                                     have:¬0<=Q7 (l.take i) (Fh G.edges y):=λh=>hb ((Mk _ _).1 h)
                                                     unfold Wx;omega
      (conv=>whnf)
      (repeat' ((first|refine Af ?_ ?_|refine A1 hxd rfl ?_|refine Ad rfl h1 ?_|refine EE rfl hi2 ?_|refine Ad rfl h2 ?_|refine Ad rfl h3 ?_|refine nx ?_|refine Aw (λ_=>?_) (λ_=>?_)|exact A0)<;>conv=>whnf))
      exact rfl
 ·rw[JD (λj v h=>hne j v (by have:=(Ae.1 h).1;omega) h)]
  ((conv=>whnf);repeat' ((first|refine odw ?_|refine nx ?_|refine Aw (λ_=>?_) (λ_=>?_))<;>conv=>whnf))
  exact rfl
end Go.Proofs.YtjejpdfldmempaaGreatDoor
end
