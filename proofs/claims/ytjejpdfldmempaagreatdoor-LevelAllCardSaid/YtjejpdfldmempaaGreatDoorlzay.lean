/- Merged: Qta Qtb Pgx Vpl Lvp Lvs Lvj Lvw. -/
import Derived.Test.YtjejpdfldmempaaGreatDoorlzax
import Derived.Test.YtjejpdfldmempaaGreatDoorlzav
import Derived.Test.YtjejpdfldmempaaGreatDoorlzau
import Derived.Test.YtjejpdfldmempaaGreatDoorlzat
section
namespace Go.Proofs.YtjejpdfldmempaaGreatDoor
open Go.Sx Go.RowKit Go.Reg Go.Gr
set_option maxRecDepth 100000
theorem aA {G:Gr} {u m:Nat}(hu:u<G.edges.length)(hm:m<G.edges.length)(h:u≠m):FS G.edges u m=Fh (G3 G).edges m u:=by
 rw[P2]
 unfold Fh G3
 rw[BT,decide_eq_true_eq]
 exact(ZW h hu hm).symm
theorem eU {G:Gr} {t:List Int} {m:Nat}(hm:m<G.edges.length)(hn:¬(m:Int)∈t)(ht:∀u∈t,0<=u/\u<G.edges.length):t.any (λu=>FS G.edges u m)=t.any (Fh (G3 G).edges m):=by
 rw[BT,Bn,Bn]
 have key:∀u∈t,FS G.edges u m=Fh (G3 G).edges m u:=λu hu=>by
  obtain⟨h1,h2⟩:=ht u hu
  obtain⟨k,rfl⟩:=Ax h1
  exact aA (by omega) hm (λe=>hn (by subst e;exact hu))
 constructor
 ·rintro⟨u,hu,h⟩;exact⟨u,hu,by rw[<-key u hu];exact h⟩
 ·rintro⟨u,hu,h⟩;exact⟨u,hu,by rw[key u hu];exact h⟩
def tZ:List FuncId:=[231]
theorem OF(l:List Int)(g:FuncId)(cs:List Da)(p:Int->Bool)(hp:∀x∈l,Pure C1 g (.int .i64 x::cs) (λy=>y=.bool (p x))):Pure C1 187 [AS l,.func (.func g) [] cs] (λy=>y=.bool (l.any p)):=by
 refine AK Tryz.func187 Tryz.ntmps187 tZ [] ?_
 (conv=>whnf)
 (repeat' ((first|refine Af ?_ ?_|refine Ad rfl (Hx l g cs p hp) ?_|refine nx ?_|refine Aw (λ_=>?_) (λ_=>?_)|exact A0)<;>conv=>whnf))
 show Da.plain _=_
 have:=Mk l p
 cases h:l.any p<;>simp[Da.plain,this,h]
def uA:List FuncId:=[192]
theorem bP(G:Gr)(id u:Int):Pure C1 191 [.int .i64 u,.ref (dG G),.ref (.int .i64 id)] (λy=>y=.bool (FS G.edges u id)):=by
 refine AK Tryz.func191 Tryz.ntmps191 uA [] ?_
 (conv=>whnf)
 (repeat' ((first|refine Af ?_ ?_|refine Ad rfl (Xa G u id) ?_|refine nx ?_|refine Aw (λ_=>?_) (λ_=>?_)|exact A0)<;>conv=>whnf))
 exact rfl
def iR:List (Nat×Plan):=[(5,.leaf [0,0,0,0,0,0,1,2,0] [0,1,2,3,4,5,6,7,8] [0,1,3,7,7,31,7,127,255])]
def rI:List FuncId:=[190,186,187]
set_option maxHeartbeats 4000000 in
theorem Tp(G:Gr)(l:List Int):Pure C1 125 [dG G,AS l] (λy=>y=.bool (BW (G3 G) l)):=by
 refine Pure.assume (λO w us hr=>by obtain⟨v,vs,rfl,h1,h2⟩:=Ci hr;obtain⟨v2,vs2,rfl,h3,_⟩:=Ci h2;exact Im h3) λhm=>?_
 have hl:(l.map dI).length=l.length:=Ab _
 refine AK Tryz.func125 Tryz.ntmps125 rI iR ?_
 ((conv=>whnf);repeat' ((first|refine odw ?_|refine nx ?_|refine Aw (λ_=>?_) (λ_=>?_))<;>conv=>whnf))
 refine AC (ι:=Nat) (λi=>i<=l.length/\∀(j:Nat) (v:Int),j<i->l[j]? =some v->Dc (G3 G) l j v=true) (λi=>[(11,.d (.int .i64 i)),(10,.d (.int .i64 (l.map dI).length)),(9,.d (AS l)),(2,.own 2),(1,.d (AS l))]) (λ_=>[(2,.cells 54 [.d (dG G)])]) (λi=>l.length-i) 0 (λ_=>rfl) ⟨Aj _,by intro j v h;omega⟩ (.refl _ _) ⟨rfl,rfl,rfl,rfl,rfl,trivial⟩ ⟨rfl,trivial⟩ ?_
 rintro i ⟨hi,hne⟩
 refine Bj rI iR ?_
 by_cases hlt:i<l.length
 ·have hx:=Aa hlt
  generalize l[i]=y at hx
  have hxd:(l.map dI)[i]? =some (.int .i64 y):=by rw[Ac,hx];rfl
  have h1:=Iu G y
  have h2:=Gh (l.take i) y
  rw[JV]at h2
  have hi2:i<=(l.map dI).length:=by omega
  by_cases hv:0<=y/\y<G.edges.length
  ·obtain⟨m,rfl⟩:=Ax hv.1
   have hml:m<G.edges.length:=by omega
   have he:=Aa hml
   generalize G.edges[m]=x at he
   have ey:DU G.edges m=.tuple [dE x,.bool true]:=by unfold DU;rw[if_pos hv,AV,he];rfl
   rw[ey]at h1
   have hhv:Dw (G3 G) m=true:=by rw[kD,decide_eq_true hv]
   by_cases hc:(m:Int)∈l.take i
   ·rw[decide_eq_true hc]at h2
    rw[ED hx (Lq (.inr hc))]
    (conv=>whnf)
    (repeat' ((first|refine Af ?_ ?_|refine A1 hxd rfl ?_|refine AR tab rfl h1 rfl ?_|refine EE rfl hi2 ?_|refine AR tab rfl h2 rfl ?_|refine nx ?_|refine Aw (λ_=>?_) (λ_=>?_)|exact A0)<;>conv=>whnf))
    exact rfl
   ·rw[decide_eq_false hc]at h2
    by_cases h0:i=0
    ·have hyes:Dc (G3 G) l i m=true:=by simp[Dc,hhv,h0]
     (conv=>whnf)
     (repeat' ((first|refine Af ?_ ?_|refine A1 hxd rfl ?_|refine AR tab rfl h1 rfl ?_|refine EE rfl hi2 ?_|refine AR tab rfl h2 rfl ?_|refine nx ?_|refine Aw (λ_=>?_) (λ_=>?_)|exact A0)<;>conv=>whnf))
     refine⟨i+1,_,_,⟨hlt,?_⟩,.refl _ _,⟨rfl,rfl,rfl,rfl,rfl,trivial⟩,⟨rfl,trivial⟩,by omega⟩
     intro j v hj hjv
     by_cases hji:j=i
     ·subst hji;rw[hx]at hjv;cases hjv;exact hyes
     ·exact hne j v (by omega) hjv
    ·have hpre:∀u∈l.take i,0<=u/\u<G.edges.length:=λu hu=>by
      obtain⟨j,hj,hju⟩:=AQ.1 hu
      have hj2:j<l.length:=by omega
      have h3:=hne j u (by omega) (by rw[Aa hj2,hju])
      by_cases hur:0<=u/\u<G.edges.length
      ·exact hur
      ·rw[Lq (.inl hur)]at h3;cases h3
     have h3:=OF (l.take i) 191 [.ref (dG G),.ref (.int .i64 m)] (λu=>FS G.edges u m) (λu _=>bP G m u)
     rw[JV,eU hml hc hpre]at h3
     have hla:Dc (G3 G) l i m=(l.take i).any (Fh (G3 G).edges m):=by unfold Dc;rw[hhv,decide_eq_false hc,decide_eq_false h0];simp
     cases hb:(l.take i).any (Fh (G3 G).edges m)with
     |
      true=>
      have hyes:=hla.trans hb
      rw[hb]at h3
      (conv=>whnf)
      (repeat' ((first|refine Af ?_ ?_|refine A1 hxd rfl ?_|refine AR tab rfl h1 rfl ?_|refine EE rfl hi2 ?_|refine AR tab rfl h2 rfl ?_|refine AR tab rfl h3 rfl ?_|refine nx ?_|refine Aw (λ_=>?_) (λ_=>?_)|exact A0)<;>conv=>whnf))
      refine⟨i+1,_,_,⟨hlt,?_⟩,.refl _ _,⟨rfl,rfl,rfl,rfl,rfl,trivial⟩,⟨rfl,trivial⟩,by omega⟩
      intro j v hj hjv
      by_cases hji:j=i
      ·subst hji;rw[hx]at hjv;cases hjv;exact hyes
      ·exact hne j v (by omega) hjv
     |
      false=>
      rw[hb]at h3
      rw[ED hx (hla.trans hb)]
      (conv=>whnf)
      (repeat' ((first|refine Af ?_ ?_|refine A1 hxd rfl ?_|refine AR tab rfl h1 rfl ?_|refine EE rfl hi2 ?_|refine AR tab rfl h2 rfl ?_|refine AR tab rfl h3 rfl ?_|refine nx ?_|refine Aw (λ_=>?_) (λ_=>?_)|exact A0)<;>conv=>whnf))
      exact rfl
  ·have ey:DU G.edges y=.tuple [dE ⟨0,0⟩,.bool false]:=by unfold DU;rw[if_neg hv]
   rw[ey]at h1
   rw[ED hx (Lq (.inl hv))]
   (conv=>whnf)
   (repeat' ((first|refine Af ?_ ?_|refine A1 hxd rfl ?_|refine AR tab rfl h1 rfl ?_|refine nx ?_|refine Aw (λ_=>?_) (λ_=>?_)|exact A0)<;>conv=>whnf))
   exact rfl
 ·have hie:i=l.length:=by omega
  subst hie
  rw[JD λj v hj=>hne j v (Ae.1 hj).1 hj]
  ((conv=>whnf);repeat' ((first|refine odw ?_|refine nx ?_|refine Aw (λ_=>?_) (λ_=>?_))<;>conv=>whnf))
  exact rfl
def iH:List (Nat×Plan):=[(6,.leaf [0,1,0,0,1,0,1,0,0,1,3] [0,2,5,7,1,3,4,6,8,9,10] [0,1,0,7,15,0,32,0,224,480,1023])]
def rA:List FuncId:=[28]
set_option maxHeartbeats 4000000 in
theorem Xu(p:Pt)(hme:p.edges.length<=9000000000000000000):Pure C1 37 [GE p,GE p] (λy=>y=.bool true):=by
 have hde:(p.edges.map dE).length=p.edges.length:=Ab _
 have hsm:=RK p.labels p.labels
 rw[decide_eq_true rfl]at hsm
 refine AK Tryz.func37 Tryz.ntmps37 rA iH ?_
 (conv=>whnf)
 (repeat' ((first|refine Af ?_ ?_|refine Ad rfl hsm ?_|refine nx ?_|refine Aw (λ_=>?_) (λ_=>?_)|exact A0)<;>conv=>whnf))
 refine AC (ι:=Nat) (λi=>i<=p.edges.length) (λi=>[(5,.d (.int .i64 i)),(3,.own 3),(2,.own 2)]) (λ_=>[(2,.cells 31 [.d (AS p.labels),.d (D0 p.edges)]),(3,.cells 35 [.d (AS p.labels),.d (D0 p.edges)])]) (λi=>p.edges.length-i) 0 (λ_=>rfl) (Aj _) (.refl _ _) ⟨rfl,rfl,rfl,trivial⟩ ⟨rfl,rfl,trivial⟩ ?_
 intro i hi
 refine Bj rA iH ?_
 by_cases hil:i<p.edges.length
 ·have hx:=Aa hil
  generalize p.edges[i]=x at hx
  have hxd:(p.edges.map dE)[i]? =some (.agg [.int .i64 x.a,.int .i64 x.b]):=by rw[Ac,hx];rfl
  (conv=>whnf)
  (repeat' ((first|refine Af ?_ ?_|refine A1 hxd rfl ?_|refine nx ?_|refine Aw (λ_=>?_) (λ_=>?_)|exact A0)<;>conv=>whnf))
  exact⟨i+1,_,_,by omega,.refl _ _,⟨rfl,rfl,rfl,trivial⟩,⟨rfl,rfl,trivial⟩,by omega⟩
 ·((conv=>whnf);repeat' ((first|refine odw ?_|refine nx ?_|refine Aw (λ_=>?_) (λ_=>?_))<;>conv=>whnf))
  exact rfl
def Tt:List (Nat×Plan):=[(5,.leaf [0,1,0,1,0,0,0,1,0,1,6,3,0,3] [0,2,4,5,6,1,3,7,8,9,10,11,12,13] [0,1,0,4,0,0,48,112,252,508,1020,2047,4095,8191]),
 (10,.leaf [0,0,1,0,0,0,1,0,1,6,3,0] [0,1,3,4,5,2,6,7,8,9,10,11] [0,0,2,0,0,24,56,126,254,510,1023,2047])]
def YS:List FuncId:=[134]
set_option maxHeartbeats 4000000 in
theorem YH(G:Gr)(V L:List Int)(hV:V.length<=1000)(hL:L.length<=1000)(_hGe:G.edges.length<=9000000000000000000)(hv:∀x∈V,0<=x/\x<G.labels.length)(hl:∀x∈L,0<=x/\x<G.edges.length):
  Pure C1 90 [dM G.labels G.edges,AS V,AS L] (λy=>y=GE ⟨V.map (C5 G),Hw (Bl G.edges L) V⟩):=by
 have hdL:(L.map dI).length=L.length:=Ab _
 have hdV:(V.map dI).length=V.length:=Ab _
 have hdG:(G.labels.map dI).length=G.labels.length:=Ab _
 have hdE:(G.edges.map dE).length=G.edges.length:=Ab _
 refine AK Tryz.func90 Tryz.ntmps90 YS Tt ?_
 ((conv=>whnf);repeat' ((first|refine odw ?_|refine nx ?_|refine Aw (λ_=>?_) (λ_=>?_))<;>conv=>whnf))
 refine AC (ι:=Nat) (λi=>i<=L.length) (λi=>[(8,.d (.int .i64 i)),(7,.own 7),(6,.own 6),(3,.own 3),(2,.d (AS L)),(1,.d (AS V))]) (λi=>[(3,.cells 59 [.d (AS G.labels),.d (D0 G.edges)]),(6,.cells 35 [.d .nils,.d .nils]),(7,.cells 35 [.d (AS G.labels),.own 300]),(300,.slice 137 2 ((Bl G.edges (L.take i)).map dE))]) (λi=>L.length-i) 0 (λ_=>rfl) (Aj _) (.ownc 7 300 137 2 rfl rfl (.there _ (.here _)) (.refl _ _)) ⟨rfl,rfl,rfl,rfl,rfl,rfl,trivial⟩ ⟨rfl,rfl,rfl,rfl,trivial⟩ ?_
 intro i hi
 refine Bj YS Tt ?_
 by_cases hil:i<L.length
 ·have hx:=Aa hil
  have hxv:=hl _ (AL hil)
  generalize L[i]=x at hx hxv
  obtain⟨v,rfl⟩:=Ax hxv.1
  have hvl:v<G.edges.length:=by omega
  have he:=Aa hvl
  generalize G.edges[v]=e at he
  have hxd:(L.map dI)[i]? =some (.int .i64 v):=by rw[Ac,hx];rfl
  have hed:(G.edges.map dE)[v]? =some (.agg [.int .i64 e.a,.int .i64 e.b]):=by rw[Ac,he];rfl
  have hll:(Bl G.edges (L.take i)).length<=1000:=BE (Fl _ _) (by rw[As];omega)
  (conv=>whnf)
  (repeat' ((first|refine Af ?_ ?_|refine A1 hxd rfl ?_|refine A1 hed rfl ?_|refine nx ?_|refine Aw (λ_=>?_) (λ_=>?_)|exact A0)<;>conv=>whnf))
  refine⟨i+1,_,_,by omega,.refl _ _,⟨rfl,rfl,rfl,rfl,rfl,rfl,trivial⟩,⟨rfl,rfl,rfl,AO ?_,trivial⟩,by omega⟩
  rw[Av,hx,B9,Nw he];simp[dE]
 ·have e:L.take i=L:=Ak (by omega)
  rw[e]
  have hle:=Fl G.edges L
  ((conv=>whnf);repeat' ((first|refine odw ?_|refine nx ?_|refine Aw (λ_=>?_) (λ_=>?_))<;>conv=>whnf))
  refine AC (ι:=Nat) (λj=>j<=V.length) (λj=>[(10,.d (.int .i64 j)),(9,.own 301),(7,.own 7),(6,.own 6),(3,.own 3),(1,.d (AS V))]) (λj=>[(3,.cells 59 [.d (AS G.labels),.d (D0 G.edges)]),(6,.cells 35 [.d .nils,.d .nils]),(7,.cells 35 [.d (AS G.labels),.d (D0 (Bl G.edges L))]),(301,.slice 3 1 (((V.take j).map (C5 G)).map dI))]) (λj=>V.length-j) 0 (λ_=>rfl) (Aj _) (.frz 300 rfl (.own 9 301 3 1 rfl rfl (.refl _ _))) ⟨rfl,rfl,rfl,rfl,rfl,rfl,trivial⟩ ⟨rfl,rfl,rfl,rfl,trivial⟩ ?_
  intro j hj
  refine Bj YS Tt ?_
  by_cases hjl:j<V.length
  ·have hx:=Aa hjl
   have hxv:=hv _ (AL hjl)
   generalize V[j]=x at hx hxv
   obtain⟨v,rfl⟩:=Ax hxv.1
   have hvl:v<G.labels.length:=by omega
   have hxd:(V.map dI)[j]? =some (.int .i64 v):=by rw[Ac,hx];rfl
   have hlv:(G.labels.map dI)[v]? =some (.int .i64 (C5 G v)):=by
    rw[Ac,Aa hvl]
    unfold C5
    rw[if_pos (by omega),AV,Aa hvl];rfl
   have hll:(((V.take j).map (C5 G)).map dI).length=j:=by simp only[Ab,As];omega
   (conv=>whnf)
   (repeat' ((first|refine Af ?_ ?_|refine A1 hxd rfl ?_|refine A1 hlv rfl ?_|refine nx ?_|refine Aw (λ_=>?_) (λ_=>?_)|exact A0)<;>conv=>whnf))
   refine⟨j+1,_,_,by omega,.refl _ _,⟨rfl,rfl,rfl,rfl,rfl,rfl,trivial⟩,⟨rfl,rfl,rfl,AO ?_,trivial⟩,by omega⟩
   rw[Av,hx];simp[dI]
  ·have e2:V.take j=V:=Ak (by omega)
   rw[e2]
   have hmd:=PO (V.map (C5 G)) ⟨G.labels,Bl G.edges L⟩ V hV (by show(Bl G.edges L).length<=_;omega)
   (conv=>whnf)
   (repeat' ((first|refine Af ?_ ?_|refine D3 301 rfl ?_|refine Ad rfl hmd ?_|refine nx ?_|refine Aw (λ_=>?_) (λ_=>?_)|exact A0)<;>conv=>whnf))
   exact rfl
end Go.Proofs.YtjejpdfldmempaaGreatDoor
end
section
namespace Go.Proofs.YtjejpdfldmempaaGreatDoor
open Go.Sx Go.RowKit Go.Reg Go.Gr
set_option maxRecDepth 100000
theorem Sq {G:Gr}(hG:G.Ok) {x:Int}(hx:0<=x/\x<G.labels.length):0<=C5 G x/\C5 G x<=255:=by
 obtain⟨m,rfl⟩:=Ax hx.1
 have hm:m<G.labels.length:=by omega
 unfold C5
 rw[if_pos hx,AV,Aa hm]
 exact hG.lab _ (AL hm)
theorem O0 {G:Gr}(hG:G.Ok) {v:List Int}(h8:v.length<=8)(hv:∀x∈v,0<=x/\x<G.labels.length):Ik (v.map (C5 G))=none:=by
 refine Pj (by rw[Ab];omega) (λk y hk hy=>?_)
 rw[Ac]at hy
 obtain⟨x,hx,rfl⟩:=Cg.1 hy
 have:=Sq hG (hv x (AB hx))
 unfold B4
 simp;omega
theorem IQ {G:Gr} {l:List Int}(h:BW G l=true):∀x∈l,0<=x/\x<G.labels.length:=by
 intro x hx
 obtain⟨i,hi⟩:=List.mem_iff_getElem?.1 hx
 have:=Sp h hi
 unfold Dc Dw at this
 simp only[Ai,decide_eq_true_eq]at this
 exact this.1
theorem Yb {G:Gr} {l:List Int}(h:BW G l=true):l.Nodup:=by
 rw[List.nodup_iff_pairwise_ne,AH]
 intro i j hi hj hij he
 have:=Sp h (Aa hj)
 unfold Dc at this
 simp only[Ai,B7,decide_eq_false_iff_not]at this
 exact this.2.1 (by rw[<-he];exact AQ.2 ⟨i,by omega,rfl⟩)
def Ob(G:Gr)(l:List Int):Pt:=⟨l.map (C5 G),Hw G.edges l⟩
theorem US(G:Gr)(hG:G.Ok)(l:List Int)(hm:l.length<=9000000000000000000):
  Pure C1 84 [dG G,AS l] (λy=>y=if 8<l.length then .tuple [qQ,dF 6 0 Jh]else if BW G l=false then .tuple [qQ,dF 2 0 Jh]else .tuple [GE (Ob G l),.nili]):=by
 refine X4 G hG l (Ob G l) (λh8 hl=>?_) hm
 have hlt:∀e∈G.edges,e.a<e.b:=λe he=>(hG.edge e he).2.1
 have hsq:l.length*l.length<=8*8:=CR h8 h8
 have hcl:=Nz (L1 G.edges l) l.length
 have:=PV (l.map (C5 G)) (O0 hG h8 (IQ hl)) (FO (L1 G.edges l) l.length) (by omega) (λe he=>?_) (by rw[Lx];exact O9 _ _)
 ·rw[cM hlt]at this;exact this
 ·obtain⟨k,i,h1,h2,_,rfl⟩:=Nm.1 he
  rw[Ab]
  refine⟨⟨?_,?_⟩,?_⟩<;>simp only<;>omega
theorem JR {E:List Edg} {l:List Int}:∀e∈Bl E l,e∈E:=λe he=>by
 obtain⟨m,_,h⟩:=XV.1 he
 exact AB h
theorem Y3 {E:List Edg}(hE:E.Nodup) {l:List Int}(hl:l.Nodup):(Bl E l).Nodup:=by
 unfold Bl
 refine List.Pairwise.filterMap _ ?_ hl
 intro x y hxy e he e2 he2 h
 subst h
 split at he
 ·rename_i h1
  split at he2
  ·rename_i h2
   obtain⟨m,rfl⟩:=Ax h1.1
   obtain⟨k,rfl⟩:=Ax h2.1
   simp only[AV]at he he2
   have hm:=(Ae.1 he).1
   have:=(List.getElem?_inj hm hE).1 (he.trans he2.symm)
   exact hxy (by rw[this])
  ·cases he2
 ·cases he
def QQ(G:Gr)(l:List Int):Pt:=⟨(Bq (Bl G.edges l)).map (C5 G),Hw (Bl G.edges l) (Bq (Bl G.edges l))⟩
def SB(G:Gr)(l:List Int):Da:=if BW (G3 G) l=false then .tuple [qQ,.nils,dF 2 0 Jh]else if 8<(Bq (Bl G.edges l)).length then .tuple [qQ,.nils,dF 6 0 Jh]else .tuple [GE (QQ G l),AS (Bq (Bl G.edges l)),.nili]
def iS:List (Nat×Plan):=[(10,.leaf [0,0,0,1,2,0,0,1,2,0,6,3,0] [0,1,2,5,6,3,7,4,8,9,10,11,12] [0,0,0,4,14,0,0,64,254,510,1022,2047,4095])]
def rK:List FuncId:=[125,126,127,128,130,129]
set_option maxHeartbeats 4000000 in
theorem X5(G:Gr)(hG:G.Ok)(l:List Int)(hm:l.length<=1000):Pure C1 83 [dG G,AS l] (λy=>y=SB G l):=by
 have hdl:(l.map dI).length=l.length:=Ab _
 have hlk:=Tp G l
 have hvs:=WW G l (by omega)
 have hen:=S8 G l (by omega)
 have hvl:=Jm (Bl G.edges l)
 have hel:=Fl G.edges l
 unfold SB
 refine AK Tryz.func83 Tryz.ntmps83 rK iS ?_
 cases hl:BW (G3 G) l with
 |
  false=>
  rw[hl]at hlk
  rw[if_pos rfl]
  (conv=>whnf)
  (repeat' ((first|refine Af ?_ ?_|refine Ad rfl hlk ?_|refine Ad rfl (Cj 2 0 Jh) ?_|refine nx ?_|refine Aw (λ_=>?_) (λ_=>?_)|exact A0)<;>conv=>whnf))
  exact rfl
 |
  true=>
  rw[hl]at hlk
  rw[if_neg (by decide)]
  have hlt:∀e∈Bl G.edges l,e.a<e.b:=λe he=>(hG.edge e (JR e he)).2.1
  have hEn:=Y3 hG.sorted.nodup (l:=l) (Yb hl)
  obtain⟨hVn,hVm⟩:=F3 (Bl G.edges l)
  have hin:∀e∈Bl G.edges l,e.a∈Bq (Bl G.edges l)/\e.b∈Bq (Bl G.edges l):=λe he=>⟨(hVm _).2 ⟨e,he,.inl rfl⟩,(hVm _).2 ⟨e,he,.inr rfl⟩⟩
  have hVr:∀x∈Bq (Bl G.edges l),0<=x/\x<G.labels.length:=λx hx=>by
   obtain⟨e,he,h⟩:=(hVm x).1 hx
   obtain⟨g1,g2,g3⟩:=hG.edge e (JR e he)
   rcases h with rfl|rfl<;>omega
  clear hVm
  unfold QQ
  generalize hE:Bl G.edges l=E at*
  generalize hV:Bq E=V at*
  have hdV:(V.map dI).length=V.length:=Ab _
  have hdE:(E.map dE).length=E.length:=Ab _
  by_cases h8:8<V.length
  ·rw[if_pos h8]
   (conv=>whnf)
   (repeat' ((first|refine Af ?_ ?_|refine Ad rfl hlk ?_|refine Ad rfl hvs ?_|refine Ad rfl (Cj 6 0 Jh) ?_|refine nx ?_|refine Aw (λ_=>?_) (λ_=>?_)|exact A0)<;>conv=>whnf))
   exact rfl
  ·rw[if_neg h8]
   (conv=>whnf)
   (repeat' ((first|refine Af ?_ ?_|refine Ad rfl hlk ?_|refine Ad rfl hvs ?_|refine Ad rfl hen ?_|refine nx ?_|refine Aw (λ_=>?_) (λ_=>?_)|exact A0)<;>conv=>whnf))
   obtain⟨hnd,hmade⟩:=jX hlt hEn V hVn hin
   have hql:=LS G V (by omega)
   have hmk:=PV (V.map (C5 G)) (O0 hG (by omega) hVr) (E.map (pT V)) (by rw[Ab];omega) (λe he=>by
    obtain⟨x,hx,rfl⟩:=Ar.1 he
    obtain⟨i,j,h1,h2,_,_,h5,h6⟩:=TO hVn (hlt x hx) (hin x hx).1 (hin x hx).2
    rw[h6,Ab]
    refine⟨⟨?_,?_⟩,?_⟩<;>simp only<;>omega) hnd
   rw[hmade]at hmk
   refine AC (ι:=Nat) (λi=>i<=E.length) (λi=>[(31,.d (.int .i64 i)),(30,.d (.int .i64 (E.map dE).length)),(29,.d (D0 E)),(8,.own 300),(7,.d (AS V)),(4,.own 4),(0,.d (dG G))]) (λi=>[(4,.cells 31 [.d .nils,.d .nils]),(300,.slice 103 2 (((E.take i).map (pT V)).map dE))]) (λi=>E.length-i) 0 (λ_=>rfl) (Aj _) (.own 8 300 103 2 rfl rfl (.refl _ _)) ⟨rfl,rfl,rfl,rfl,rfl,rfl,rfl,trivial⟩ ⟨rfl,rfl,trivial⟩ ?_
   intro i hi
   refine Bj rK iS ?_
   by_cases hil:i<E.length
   ·have hx:=Aa hil
    generalize E[i]=x at hx
    have hxd:(E.map dE)[i]? =some (.agg [.int .i64 x.a,.int .i64 x.b]):=by rw[Ac,hx];rfl
    have h1:=Ls V x.a
    have h2:=Ls V x.b
    (conv=>whnf)
    (repeat' ((first|refine Af ?_ ?_|refine A1 hxd rfl ?_|refine AR tab rfl h1 rfl ?_|refine AR tab rfl h2 rfl ?_|refine nx ?_|refine Aw (λ_=>?_) (λ_=>?_)|exact A0)<;>conv=>whnf))
    refine⟨i+1,_,_,by omega,.refl _ _,⟨rfl,rfl,rfl,rfl,rfl,rfl,rfl,trivial⟩,⟨rfl,AO ?_,trivial⟩,by omega⟩
    rw[Av,hx];simp[dE,pT]
   ·have e:E.take i=E:=Ak (by omega)
    rw[e]
    (conv=>whnf)
    (repeat' ((first|refine Af ?_ ?_|refine D3 300 rfl ?_|refine Ad rfl hql ?_|refine Ad rfl hmk ?_|refine nx ?_|refine Aw (λ_=>?_) (λ_=>?_)|exact A0)<;>conv=>whnf))
    exact rfl
end Go.Proofs.YtjejpdfldmempaaGreatDoor
end
section
namespace Go.Proofs.YtjejpdfldmempaaGreatDoor
open Go.Sx Go.RowKit Go.Reg Go.Gr
set_option maxRecDepth 100000
theorem LV(l:List Opp)(h16:l.length<=16)(hok:∀o∈l,D7 o=0):Pure C1 116 [Ja l] (λy=>y=.nili):=by
 have hl:(l.map dO).length=l.length:=Ab _
 refine AK Tryz.func116 Tryz.ntmps116 [] [] ?_
 ((conv=>whnf);repeat' ((first|refine odw ?_|refine nx ?_|refine Aw (λ_=>?_) (λ_=>?_))<;>conv=>whnf))
 refine AC (ι:=Nat) (λi=>i<=l.length) (λi=>[(12,.d (.int .i64 i)),(11,.d (.int .i64 (l.map dO).length)),(10,.d (Ja l))]) (λ_=>[]) (λi=>l.length-i) 0 (λ_=>rfl) (Aj _) (.refl _ _) ⟨rfl,rfl,rfl,trivial⟩ trivial ?_
 intro i hi
 refine Bj [] [] ?_
 by_cases hil:i<l.length
 ·have hx:=Aa hil
  have hoi:=hok _ (AL hil)
  generalize l[i]=o at hx hoi
  have hxd:(l.map dO)[i]? =some (.agg [.int .i64 o.kind,.int .i64 o.n]):=by rw[Ac,hx];rfl
  have hr:=LW o i
  unfold IF at hr
  rw[if_pos hoi]at hr
  (conv=>whnf)
  (repeat' ((first|refine Af ?_ ?_|refine A1 hxd rfl ?_|refine Ad rfl hr ?_|refine nx ?_|refine Aw (λ_=>?_) (λ_=>?_)|exact A0)<;>conv=>whnf))
  exact⟨i+1,_,_,hil,.refl _ _,⟨rfl,rfl,rfl,trivial⟩,trivial,by omega⟩
 ·((conv=>whnf);repeat' ((first|refine odw ?_|refine nx ?_|refine Aw (λ_=>?_) (λ_=>?_))<;>conv=>whnf))
  exact rfl
theorem TI(l:List Edg)(g:FuncId)(cs:List Da)(p:Edg->Bool)(hm:l.length<=9223372036854775807)(hp:∀x∈l,Pure C1 g (dE x::cs) (λy=>y=.bool (p x))):Pure C1 288 [D0 l,.func (.func g) [] cs] (λy=>y=.int .i64 (KA (l.findIdx? p))):=by
 have hl:(l.map dE).length=l.length:=Ab _
 refine AK Tryz.func288 Tryz.ntmps288 [] [] ?_
 ((conv=>whnf);repeat' ((first|refine odw ?_|refine nx ?_|refine Aw (λ_=>?_) (λ_=>?_))<;>conv=>whnf))
 refine AC (ι:=Nat) (λi=>i<=l.length/\∀y∈l.take i,p y=false) (λi=>[(8,.d (.int .i64 i)),(7,.d (.int .i64 (l.map dE).length)),(1,.d (.func (.func g) [] cs)),(0,.d (D0 l))]) (λ_=>[]) (λi=>l.length-i) 0 (λ_=>rfl) ⟨Aj _,by simp⟩ (.refl _ _) ⟨rfl,rfl,rfl,rfl,trivial⟩ trivial ?_
 rintro i ⟨hi,hne⟩
 refine Bj [] [] ?_
 by_cases hlt:i<l.length
 ·have hx:=Aa hlt
  generalize l[i]=y at hx
  have hxd:(l.map dE)[i]? =some (.agg [.int .i64 y.a,.int .i64 y.b]):=by rw[Ac,hx];rfl
  have hpy:=hp y (AB hx)
  cases hy:p y with
  |
   true=>
   rw[hy]at hpy
   rw[TD hx hy hne]
   (conv=>whnf)
   (repeat' ((first|refine Af ?_ ?_|refine A1 hxd rfl ?_|refine Ad (Ez _ _) hpy ?_|refine nx ?_|refine Aw (λ_=>?_) (λ_=>?_)|exact A0)<;>conv=>whnf))
   exact rfl
  |
   false=>
   rw[hy]at hpy
   (conv=>whnf)
   (repeat' ((first|refine Af ?_ ?_|refine A1 hxd rfl ?_|refine Ad (Ez _ _) hpy ?_|refine nx ?_|refine Aw (λ_=>?_) (λ_=>?_)|exact A0)<;>conv=>whnf))
   refine⟨i+1,_,_,⟨hlt,?_⟩,.refl _ _,⟨rfl,rfl,rfl,rfl,trivial⟩,trivial,by omega⟩
   intro z hz
   rw[Av,hx]at hz
   rcases Ag.1 hz with hz|hz
   ·exact hne z hz
   ·simp at hz;subst hz;exact hy
 ·have hii:l.take i=l:=Ak (by omega)
  rw[hii]at hne
  rw[Nt hne]
  ((conv=>whnf);repeat' ((first|refine odw ?_|refine nx ?_|refine Aw (λ_=>?_) (λ_=>?_))<;>conv=>whnf))
  exact rfl
theorem Z4 {α:Type}(l:List α)(p:α->Bool):0<=KA (l.findIdx? p)↔l.any p=true:=by
 cases h:l.findIdx? p with
 |
  none=>
  rw[AM]at h
  constructor
  ·intro h2;simp[KA]at h2
  ·intro h2
   obtain⟨x,hx,hpx⟩:=Bn.1 h2
   rw[h x hx]at hpx;cases hpx
 |
  some i=>
  obtain⟨h1,h2,_⟩:=AN.1 h
  constructor
  ·intro _;exact Bn.2 ⟨_,AL h1,h2⟩
  ·intro _;simp[KA]
def qF:List FuncId:=[288]
theorem OI(l:List Edg)(g:FuncId)(cs:List Da)(p:Edg->Bool)(hm:l.length<=9223372036854775807)(hp:∀x∈l,Pure C1 g (dE x::cs) (λy=>y=.bool (p x))):Pure C1 284 [D0 l,.func (.func g) [] cs] (λy=>y=.bool (l.any p)):=by
 refine AK Tryz.func284 Tryz.ntmps284 qF [] ?_
 (conv=>whnf)
 (repeat' ((first|refine Af ?_ ?_|refine Ad rfl (TI l g cs p hm hp) ?_|refine nx ?_|refine Aw (λ_=>?_) (λ_=>?_)|exact A0)<;>conv=>whnf))
 show Da.plain _=_
 have:=Z4 l p
 cases h:l.any p<;>simp[Da.plain,this,h]
def mK:List FuncId:=[286]
theorem ZZ(p:Pt)(e:Edg)(hm:p.labels.length<=9223372036854775807)(hme:p.edges.length<=9223372036854775807):Pure C1 285 [dE e,.ref (GE p)] (λy=>y=.bool ((List.range p.labels.length).any λv=>CN p.edges e.a v&&CN p.edges e.b v)):=by
 have hdl:(p.labels.map dI).length=p.labels.length:=Ab _
 refine AK Tryz.func285 Tryz.ntmps285 mK [] ?_
 ((conv=>whnf);repeat' ((first|refine odw ?_|refine nx ?_|refine Aw (λ_=>?_) (λ_=>?_))<;>conv=>whnf))
 refine AC (ι:=Nat) (λi=>i<=p.labels.length/\∀v,v<i->(CN p.edges e.a v&&CN p.edges e.b v)=false) (λi=>[(8,.d (.int .i64 i)),(7,.d (.int .i64 (p.labels.map dI).length)),(2,.own 2),(1,.d (.ref (GE p)))]) (λ_=>[(2,.cells 103 [.d (.int .i64 e.a),.d (.int .i64 e.b)])]) (λi=>p.labels.length-i) 0 (λ_=>rfl) ⟨Aj _,by intro v h;omega⟩ (.refl _ _) ⟨rfl,rfl,rfl,rfl,trivial⟩ ⟨rfl,trivial⟩ ?_
 rintro i ⟨hi,hne⟩
 refine Bj mK [] ?_
 by_cases hil:i<p.labels.length
 ·have h1:=RW p e.a i hme
  have h2:=RW p e.b i hme
  rw[show decide (turn ⟨e.a,(i:Int)⟩∈p.edges)=CN p.edges e.a i from rfl]at h1
  rw[show decide (turn ⟨e.b,(i:Int)⟩∈p.edges)=CN p.edges e.b i from rfl]at h2
  cases g1:CN p.edges e.a i<;>cases g2:CN p.edges e.b i<;>rw[g1]at h1<;>rw[g2]at h2
  ·(conv=>whnf)
   (repeat' ((first|refine Af ?_ ?_|refine Ad rfl h1 ?_|refine Ad rfl h2 ?_|refine nx ?_|refine Aw (λ_=>?_) (λ_=>?_)|exact A0)<;>conv=>whnf))
   exact⟨i+1,_,_,⟨hil,λv hv=>by rcases AP v i with g|g;exact hne v g;rw[show v=i by omega,g1];rfl⟩,.refl _ _,⟨rfl,rfl,rfl,rfl,trivial⟩,⟨rfl,trivial⟩,by omega⟩
  ·(conv=>whnf)
   (repeat' ((first|refine Af ?_ ?_|refine Ad rfl h1 ?_|refine Ad rfl h2 ?_|refine nx ?_|refine Aw (λ_=>?_) (λ_=>?_)|exact A0)<;>conv=>whnf))
   exact⟨i+1,_,_,⟨hil,λv hv=>by rcases AP v i with g|g;exact hne v g;rw[show v=i by omega,g1];rfl⟩,.refl _ _,⟨rfl,rfl,rfl,rfl,trivial⟩,⟨rfl,trivial⟩,by omega⟩
  ·(conv=>whnf)
   (repeat' ((first|refine Af ?_ ?_|refine Ad rfl h1 ?_|refine Ad rfl h2 ?_|refine nx ?_|refine Aw (λ_=>?_) (λ_=>?_)|exact A0)<;>conv=>whnf))
   exact⟨i+1,_,_,⟨hil,λv hv=>by rcases AP v i with g|g;exact hne v g;rw[show v=i by omega,g1,g2];rfl⟩,.refl _ _,⟨rfl,rfl,rfl,rfl,trivial⟩,⟨rfl,trivial⟩,by omega⟩
  ·have e1:((List.range p.labels.length).any λv=>CN p.edges e.a v&&CN p.edges e.b v)=true:=Bn.2 ⟨i,AJ.2 hil,by rw[g1,g2];rfl⟩
   rw[e1]
   (conv=>whnf)
   (repeat' ((first|refine Af ?_ ?_|refine Ad rfl h1 ?_|refine Ad rfl h2 ?_|refine nx ?_|refine Aw (λ_=>?_) (λ_=>?_)|exact A0)<;>conv=>whnf))
   exact rfl
 ·have e1:((List.range p.labels.length).any λv=>CN p.edges e.a v&&CN p.edges e.b v)=false:=by
   rw[Es]
   intro h
   obtain⟨v,hv,h⟩:=Bn.1 h
   rw[hne v (by have:=AJ.1 hv;omega)]at h;cases h
  rw[e1]
  ((conv=>whnf);repeat' ((first|refine odw ?_|refine nx ?_|refine Aw (λ_=>?_) (λ_=>?_))<;>conv=>whnf))
  exact rfl
def vM:List FuncId:=[284]
theorem Ro(p:Pt)(hm:p.labels.length<=9223372036854775807)(hme:p.edges.length<=9223372036854775807):Pure C1 275 [GE p] (λy=>y=.bool (ZY p)):=by
 have hc:=OI p.edges 285 [.ref (GE p)] (λe=>(List.range p.labels.length).any λv=>CN p.edges e.a v&&CN p.edges e.b v) hme (λe _=>ZZ p e hm hme)
 refine AK Tryz.func275 Tryz.ntmps275 vM [] ?_
 (conv=>whnf)
 (repeat' ((first|refine Af ?_ ?_|refine AR tab rfl hc rfl ?_|refine nx ?_|refine Aw (λ_=>?_) (λ_=>?_)|exact A0)<;>conv=>whnf))
 exact rfl
def rN:List FuncId:=[283]
theorem TL(p:Pt)(n:Int)(hm:p.labels.length<=9223372036854775807)(hme:p.edges.length<=4294967296):Pure C1 273 [GE p,.int .i64 n] (λy=>y=.bool (dZ p n)):=by
 have hdl:(p.labels.map dI).length=p.labels.length:=Ab _
 refine AK Tryz.func273 Tryz.ntmps273 rN [] ?_
 ((conv=>whnf);repeat' ((first|refine odw ?_|refine nx ?_|refine Aw (λ_=>?_) (λ_=>?_))<;>conv=>whnf))
 refine AC (ι:=Nat) (λi=>i<=p.labels.length/\∀v,v<i->((OJ p.edges (v:Int):Nat):Int)<=n) (λi=>[(9,.d (.int .i64 i)),(8,.d (.int .i64 (p.labels.map dI).length)),(2,.own 2),(1,.d (.int .i64 n))]) (λ_=>[(2,.cells 31 [.d (AS p.labels),.d (D0 p.edges)])]) (λi=>p.labels.length-i) 0 (λ_=>rfl) ⟨Aj _,by intro v h;omega⟩ (.refl _ _) ⟨rfl,rfl,rfl,rfl,trivial⟩ ⟨rfl,trivial⟩ ?_
 rintro i ⟨hi,hne⟩
 refine Bj rN [] ?_
 by_cases hil:i<p.labels.length
 ·have h1:=Tv p i hme
  by_cases hd:((OJ p.edges (i:Int):Nat):Int)<=n
  ·(conv=>whnf)
   (repeat' ((first|refine Af ?_ ?_|refine Ad rfl h1 ?_|refine nx ?_|refine Aw (λ_=>?_) (λ_=>?_)|exact A0)<;>conv=>whnf))
   exact⟨i+1,_,_,⟨hil,λv hv=>by rcases AP v i with g|g;exact hne v g;rw[show v=i by omega];exact hd⟩,.refl _ _,⟨rfl,rfl,rfl,rfl,trivial⟩,⟨rfl,trivial⟩,by omega⟩
  ·have e1:dZ p n=false:=by
    rw[Es]
    intro h
    exact hd (of_decide_eq_true (BY.1 h i (AJ.2 hil)))
   rw[e1]
   (conv=>whnf)
   (repeat' ((first|refine Af ?_ ?_|refine Ad rfl h1 ?_|refine nx ?_|refine Aw (λ_=>?_) (λ_=>?_)|exact A0)<;>conv=>whnf))
   exact rfl
 ·have e1:dZ p n=true:=BY.2 λv hv=>decide_eq_true (hne v (by have:=AJ.1 hv;omega))
  rw[e1]
  ((conv=>whnf);repeat' ((first|refine odw ?_|refine nx ?_|refine Aw (λ_=>?_) (λ_=>?_))<;>conv=>whnf))
  exact rfl
theorem VK(o:Opp)(l:Int):Pure C1 272 [.int .i64 l,.ref (dO o)] (λy=>y=.bool (decide (o.n<l))):=by
 refine AK Tryz.func272 Tryz.ntmps272 [] [] ?_
 ((conv=>whnf);repeat' ((first|refine odw ?_|refine nx ?_|refine Aw (λ_=>?_) (λ_=>?_))<;>conv=>whnf))
 exact rfl
theorem VJ(o:Opp)(l:Int):Pure C1 274 [.int .i64 l,.ref (dO o)] (λy=>y=.bool (decide (l≠o.n))):=by
 refine AK Tryz.func274 Tryz.ntmps274 [] [] ?_
 ((conv=>whnf);repeat' ((first|refine odw ?_|refine nx ?_|refine Aw (λ_=>?_) (λ_=>?_))<;>conv=>whnf))
 exact rfl
def vP:List FuncId:=[275,273]
theorem Yr(o:Opp)(p:Pt)(hk:1<=o.kind/\o.kind<=8)(hm:p.labels.length<=8)(hme:p.edges.length<=4294967296):Pure C1 255 [dO o,GE p] (λy=>y=.bool (C6 o p)):=by
 have hdl:(p.labels.map dI).length=p.labels.length:=Ab _
 have hde:(p.edges.map dE).length=p.edges.length:=Ab _
 have hc1:=Hd p.labels 272 [.ref (dO o)] (λl=>decide (o.n<l)) (λl _=>VK o l)
 have hc2:=Hd p.labels 274 [.ref (dO o)] (λl=>decide (l≠o.n)) (λl _=>VJ o l)
 have htr:=Ro p (by omega) (by omega)
 have hdg:=TL p o.n (by omega) hme
 have hvl:=Jn p.labels
 have hk8:o.kind=1\/o.kind=2\/o.kind=3\/o.kind=4\/o.kind=5\/o.kind=6\/o.kind=7\/o.kind=8:=by omega
 refine AK Tryz.func255 Tryz.ntmps255 vP [] ?_
 rcases hk8 with h|h|h|h|h|h|h|h
 ·have eh:C6 o p=decide (p.edges.length=p.labels.length*(p.labels.length-1)/2):=by unfold C6;simp[h]
  rw[eh]
  have hmul:∀N:Nat,N<=8->IntKind.i64.wrap ((N:Int)*((N:Int)-1))=((N*(N-1):Nat):Int):=by
   intro N hN
   have:N=0\/N=1\/N=2\/N=3\/N=4\/N=5\/N=6\/N=7\/N=8:=by omega
   rcases this with rfl|rfl|rfl|rfl|rfl|rfl|rfl|rfl|rfl<;>decide
  have hm2:=hmul (p.labels.map dI).length (by omega)
  have hdiv:∀N:Nat,N<=8->IntKind.i64.wrap (((N*(N-1):Nat):Int).tdiv 2)=((N*(N-1)/2:Nat):Int):=by
   intro N hN
   have:N=0\/N=1\/N=2\/N=3\/N=4\/N=5\/N=6\/N=7\/N=8:=by omega
   rcases this with rfl|rfl|rfl|rfl|rfl|rfl|rfl|rfl|rfl<;>decide
  have hm3:=hdiv (p.labels.map dI).length (by omega)
  ((conv=>whnf);repeat' ((first|refine odw ?_|refine nx ?_|refine Aw (λ_=>?_) (λ_=>?_))<;>conv=>whnf))
  refine⟨_,hm2,?_⟩
  ((conv=>whnf);repeat' ((first|refine odw ?_|refine nx ?_|refine Aw (λ_=>?_) (λ_=>?_))<;>conv=>whnf))
  refine⟨_,hm3,?_⟩
  ((conv=>whnf);repeat' ((first|refine odw ?_|refine nx ?_|refine Aw (λ_=>?_) (λ_=>?_))<;>conv=>whnf))
  exact congrArg Da.bool (by rw[BT,decide_eq_true_eq,decide_eq_true_eq,hde,hdl];exact Int.ofNat_inj)
 ·have eh:C6 o p=!p.labels.any λl=>decide (o.n<l):=by unfold C6;simp[h]
  rw[eh]
  (conv=>whnf)
  (repeat' ((first|refine Af ?_ ?_|refine AR tab rfl hc1 rfl ?_|refine nx ?_|refine Aw (λ_=>?_) (λ_=>?_)|exact A0)<;>conv=>whnf))
  exact rfl
 ·have eh:C6 o p=dZ p o.n:=by unfold C6;simp[h]
  rw[eh]
  (conv=>whnf)
  (repeat' ((first|refine Af ?_ ?_|refine Ad rfl hdg ?_|refine nx ?_|refine Aw (λ_=>?_) (λ_=>?_)|exact A0)<;>conv=>whnf))
  exact rfl
 ·have eh:C6 o p=decide ((p.labels.length:Int)<=o.n):=by unfold C6;simp[h]
  rw[eh,<-hdl]
  ((conv=>whnf);repeat' ((first|refine odw ?_|refine nx ?_|refine Aw (λ_=>?_) (λ_=>?_))<;>conv=>whnf))
  exact rfl
 ·have eh:C6 o p=decide ((p.edges.length:Int)<=o.n):=by unfold C6;simp[h]
  rw[eh,<-hde]
  ((conv=>whnf);repeat' ((first|refine odw ?_|refine nx ?_|refine Aw (λ_=>?_) (λ_=>?_))<;>conv=>whnf))
  exact rfl
 ·have eh:C6 o p=decide ((Cw p.labels).length=p.labels.length):=by unfold C6;simp[h]
  rw[eh]
  (conv=>whnf)
  (repeat' ((first|refine Af ?_ ?_|refine Ad rfl hvl ?_|refine nx ?_|refine Aw (λ_=>?_) (λ_=>?_)|exact A0)<;>conv=>whnf))
  refine EX 300 rfl rfl (Oe p.labels (by omega)) ?_;rintro ds rfl
  (conv=>whnf)
  refine Wu rfl rfl (O8 (p.labels.mergeSort λx y=>decide (x<=y)) (by rw[MC];omega)) ?_;rintro ds rfl
  ((conv=>whnf);repeat' ((first|refine odw ?_|refine nx ?_|refine Aw (λ_=>?_) (λ_=>?_))<;>conv=>whnf))
  exact congrArg Da.bool (by rw[BT,decide_eq_true_eq,decide_eq_true_eq,Ab,Ab];exact Int.ofNat_inj)
 ·have eh:C6 o p=!p.labels.any λl=>decide (l≠o.n):=by unfold C6;simp[h]
  rw[eh]
  (conv=>whnf)
  (repeat' ((first|refine Af ?_ ?_|refine AR tab rfl hc2 rfl ?_|refine nx ?_|refine Aw (λ_=>?_) (λ_=>?_)|exact A0)<;>conv=>whnf))
  exact rfl
 ·have eh:C6 o p=!ZY p:=by unfold C6;simp[h]
  rw[eh]
  (conv=>whnf)
  (repeat' ((first|refine Af ?_ ?_|refine Ad rfl htr ?_|refine nx ?_|refine Aw (λ_=>?_) (λ_=>?_)|exact A0)<;>conv=>whnf))
  exact rfl
theorem eG {o:Opp}(h:D7 o=0):1<=o.kind/\o.kind<=8:=by
 unfold D7 at h
 apply I6
 intro hn
 rw[if_pos (by omega)]at h
 omega
theorem HY {p:Pt}(h:FI p=none):p.labels.length<=8/\p.edges.length<=64:=by
 obtain⟨h1,h2,h3⟩:=GA h
 have h8:p.labels.length<=8:=by
  apply I6
  intro hn
  unfold Ik at h1
  rw[if_pos (by omega)]at h1
  cases h1
 have:=Nd h3.nodup (m:=mU p.labels.length) λe he=>Kv.2 (h2 e he)
 rw[Tq]at this
 have hm:p.labels.length*(p.labels.length-1)<=8*8:=CR h8 (by omega)
 omega
def uB:List FuncId:=[173,13,255]
theorem aD(o:Opp)(p:Pt)(hc:D7 o=0)(hp:FI p=none):Pure C1 235 [dO o,GE p] (λy=>y=.bool (C6 o p)):=by
 have hs:=HY hp
 have hr:=LW o 0
 unfold IF at hr
 rw[if_pos hc]at hr
 have hpr:=Hs p (by omega) (by omega)
 rw[Jy hp]at hpr
 have hh:=Yr o p (eG hc) hs.1 (by omega)
 refine AK Tryz.func235 Tryz.ntmps235 uB [] ?_
 (conv=>whnf)
 (repeat' ((first|refine Af ?_ ?_|refine AR tab rfl hr rfl ?_|refine AR tab rfl hpr rfl ?_|refine AR tab rfl hh rfl ?_|refine nx ?_|refine Aw (λ_=>?_) (λ_=>?_)|exact A0)<;>conv=>whnf))
 exact rfl
def uD:List FuncId:=[235]
theorem VX(o:Opp)(p:Pt)(hc:D7 o=0)(hp:FI p=none):Pure C1 234 [dO o,.ref (GE p)] (λy=>y=.bool (!C6 o p)):=by
 have ht:=aD o p hc hp
 refine AK Tryz.func234 Tryz.ntmps234 uD [] ?_
 (conv=>whnf)
 (repeat' ((first|refine Af ?_ ?_|refine AR tab rfl ht rfl ?_|refine nx ?_|refine Aw (λ_=>?_) (λ_=>?_)|exact A0)<;>conv=>whnf))
 exact rfl
theorem Tz(l:List Opp)(g:FuncId)(cs:List Da)(p:Opp->Bool)(hm:l.length<=9223372036854775807)(hp:∀x∈l,Pure C1 g (dO x::cs) (λy=>y=.bool (p x))):Pure C1 233 [Ja l,.func (.func g) [] cs] (λy=>y=.int .i64 (KA (l.findIdx? p))):=by
 have hl:(l.map dO).length=l.length:=Ab _
 refine AK Tryz.func233 Tryz.ntmps233 [] [] ?_
 ((conv=>whnf);repeat' ((first|refine odw ?_|refine nx ?_|refine Aw (λ_=>?_) (λ_=>?_))<;>conv=>whnf))
 refine AC (ι:=Nat) (λi=>i<=l.length/\∀y∈l.take i,p y=false) (λi=>[(8,.d (.int .i64 i)),(7,.d (.int .i64 (l.map dO).length)),(1,.d (.func (.func g) [] cs)),(0,.d (Ja l))]) (λ_=>[]) (λi=>l.length-i) 0 (λ_=>rfl) ⟨Aj _,by simp⟩ (.refl _ _) ⟨rfl,rfl,rfl,rfl,trivial⟩ trivial ?_
 rintro i ⟨hi,hne⟩
 refine Bj [] [] ?_
 by_cases hlt:i<l.length
 ·have hx:=Aa hlt
  generalize l[i]=y at hx
  have hxd:(l.map dO)[i]? =some (.agg [.int .i64 y.kind,.int .i64 y.n]):=by rw[Ac,hx];rfl
  have hpy:=hp y (AB hx)
  cases hy:p y with
  |
   true=>
   rw[hy]at hpy
   rw[TD hx hy hne]
   (conv=>whnf)
   (repeat' ((first|refine Af ?_ ?_|refine A1 hxd rfl ?_|refine Ad (Ez _ _) hpy ?_|refine nx ?_|refine Aw (λ_=>?_) (λ_=>?_)|exact A0)<;>conv=>whnf))
   exact rfl
  |
   false=>
   rw[hy]at hpy
   (conv=>whnf)
   (repeat' ((first|refine Af ?_ ?_|refine A1 hxd rfl ?_|refine Ad (Ez _ _) hpy ?_|refine nx ?_|refine Aw (λ_=>?_) (λ_=>?_)|exact A0)<;>conv=>whnf))
   refine⟨i+1,_,_,⟨hlt,?_⟩,.refl _ _,⟨rfl,rfl,rfl,rfl,trivial⟩,trivial,by omega⟩
   intro z hz
   rw[Av,hx]at hz
   rcases Ag.1 hz with hz|hz
   ·exact hne z hz
   ·simp at hz;subst hz;exact hy
 ·have hii:l.take i=l:=Ak (by omega)
  rw[hii]at hne
  rw[Nt hne]
  ((conv=>whnf);repeat' ((first|refine odw ?_|refine nx ?_|refine Aw (λ_=>?_) (λ_=>?_))<;>conv=>whnf))
  exact rfl
def vQ:List FuncId:=[233]
theorem Yz(l:List Opp)(p:Pt)(h16:l.length<=16)(hok:∀o∈l,D7 o=0)(hp:FI p=none):Pure C1 189 [Ja l,GE p] (λy=>y=.int .i64 (KA (l.findIdx? λo=>!C6 o p))):=by
 have hi:=Tz l 234 [.ref (GE p)] (λo=>!C6 o p) (by omega) (λo ho=>VX o p (hok o ho) hp)
 refine AK Tryz.func189 Tryz.ntmps189 vQ [] ?_
 (conv=>whnf)
 (repeat' ((first|refine Af ?_ ?_|refine AR tab rfl hi rfl ?_|refine nx ?_|refine Aw (λ_=>?_) (λ_=>?_)|exact A0)<;>conv=>whnf))
 exact rfl
def vO:List FuncId:=[116,13,189]
theorem Qy(l:List Opp)(p:Pt)(h16:l.length<=16)(hok:∀o∈l,D7 o=0)(hp:FI p=none):Pure C1 124 [Ja l,GE p] (λy=>y=.bool (l.all λo=>C6 o p)):=by
 have hs:=HY hp
 have hr:=LV l h16 hok
 have hpr:=Hs p (by omega) (by omega)
 rw[Jy hp]at hpr
 have hf:=Yz l p h16 hok hp
 have hia:=Z4 l λo=>!C6 o p
 refine AK Tryz.func124 Tryz.ntmps124 vO [] ?_
 (conv=>whnf)
 (repeat' ((first|refine Af ?_ ?_|refine AR tab rfl hr rfl ?_|refine AR tab rfl hpr rfl ?_|refine AR tab rfl hf rfl ?_|refine nx ?_|refine Aw (λ_=>?_) (λ_=>?_)|exact A0)<;>conv=>whnf))
 refine congrArg Da.bool ?_
 rw[BT,decide_eq_true_eq,<-Int.not_le,hia]
 simp
end Go.Proofs.YtjejpdfldmempaaGreatDoor
end
section
namespace Go.Proofs.YtjejpdfldmempaaGreatDoor
open Go.Gr
def pick:List Int->Nat->List Int
 |[],_=>[]
 |x::s,m=>(if m % 2=1 then[x]else[])++pick s (m/2)
theorem Ia:∀(s:List Int) (m:Nat),(pick s m).Sublist s
 |[],_=>.slnil
 |
  x::s,m=>by
  unfold pick
  split
  ·exact(Ia s _).cons_cons x
  ·exact(Ia s _).cons x
theorem J5:∀{s p:List Int},p.Sublist s->∃m,m<2^s.length/\pick s m=p
 |_,_,.slnil=>⟨0,by simp,rfl⟩
 |
  _,_,.cons x h=>by
  obtain⟨m,hm,hp⟩:=J5 h
  refine⟨2*m,?_,?_⟩
  ·rw[A4,Nat.pow_succ];omega
  ·unfold pick
   rw[if_neg (by omega),show 2*m/2=m by omega];exact hp
 |
  _,_,.cons_cons x h=>by
  obtain⟨m,hm,hp⟩:=J5 h
  refine⟨2*m+1,?_,?_⟩
  ·rw[A4,Nat.pow_succ];omega
  ·unfold pick
   rw[if_pos (by omega),show(2*m+1)/2=m by omega,hp];rfl
theorem UX:∀{s:List Int},s.Nodup->∀{m m':Nat},m<2^s.length->m'<2^s.length->pick s m=pick s m'->m=m'
 |
  [],_,m,m',h,h',_=>by
  simp only[Cb,Nat.pow_zero]at h h';omega
 |
  x::s,hn,m,m',h,h',e=>by
  obtain⟨hx,hs⟩:=Ck.1 hn
  rw[A4,Nat.pow_succ]at h h'
  have n1:∀k,x∉pick s k:=λk hk=>hx ((Ia s k).subset hk)
  have hi:=@UX s hs (m/2) (m'/2) (by omega) (by omega)
  unfold pick at e
  by_cases h1:m % 2=1
  ·by_cases h2:m' % 2=1
   ·rw[if_pos h1,if_pos h2]at e
    have:=hi (List.append_cancel_left e);omega
   ·rw[if_pos h1,if_neg h2,Ca]at e
    exact absurd (by rw[<-e];simp) (n1 (m'/2))
  ·by_cases h2:m' % 2=1
   ·rw[if_neg h1,if_pos h2,Ca]at e
    exact absurd (by rw[e];simp) (n1 (m/2))
   ·rw[if_neg h1,if_neg h2,Ca,Ca]at e
    have:=hi e;omega
theorem RV:∀(s:List Int) (x:Int) (m:Nat),pick (s++[x]) m=pick s m++(if m/2^s.length % 2=1 then[x]else[])
 |[],x,m=>by simp[pick]
 |
  y::s,x,m=>by
  rw[B2]
  unfold pick
  rw[RV s x (m/2),A4,Nat.pow_succ',<-Nat.div_div_eq_div_mul,Bk]
theorem PQ {s p:List Int}(hs:s.Pairwise (· < ·))(hp:p.Pairwise (· < ·))(h:∀x∈p,x∈s):p.Sublist s:=by
 have:p=s.filter (λx=>decide (x∈p)):=Ex hp (hs.sublist Cd) λx=>by
  rw[A5,decide_eq_true_eq];exact⟨λhx=>⟨h x hx,hx⟩,λhx=>hx.2⟩
 rw[this];exact Cd
def GO(s:List Int)(k M:Nat):List (List Int):=((List.range M).map (pick s)).filter λp=>decide (p.length=k)
theorem UW(s:List Int)(k M:Nat):GO s k (M+1)=GO s k M++(if(pick s M).length=k then[pick s M]else[]):=by
 unfold GO
 rw[BN,Ay,BJ]
 by_cases h:(pick s M).length=k
 ·simp[h]
 ·simp[h]
theorem Qp {s:List Int} {k:Nat}(hs:s.Pairwise (· < ·)) {p:List Int}:p∈GO s k (2^s.length)↔p.Pairwise (· < ·)/\(∀x∈p,x∈s)/\p.length=k:=by
 unfold GO
 rw[A5,Ar,decide_eq_true_eq]
 constructor
 ·rintro⟨⟨m,_,rfl⟩,h⟩
  exact⟨hs.sublist (Ia s m),λx hx=>(Ia s m).subset hx,h⟩
 ·rintro⟨h1,h2,h3⟩
  obtain⟨m,hm,hp⟩:=J5 (PQ hs h1 h2)
  exact⟨⟨m,AJ.2 hm,hp⟩,h3⟩
theorem Le {s:List Int}(h:s.Pairwise (· < ·)):s.Nodup:=h.imp λh=>by omega
theorem Tu {s:List Int} {k:Nat}(hs:s.Pairwise (· < ·)):(GO s k (2^s.length)).Nodup:=by
 refine List.Nodup.sublist Cd ?_
 unfold List.Nodup
 rw[B6]
 refine FD ?_ L3
 intro a b ha hb hab e
 have:=UX (Le hs) (AJ.1 ha) (AJ.1 hb) e
 omega
def Uy(G:Gr)(k:Nat)(P:List (List Int)):Prop:=P.Nodup/\∀p,p∈P↔(p.Pairwise (· < ·)/\(∀x∈p,x∈Fc G.labels.length)/\p.length=k)/\(Dg G p).isSome=true
theorem nR {G:Gr} {k:Nat} {P:List (List Int)}(hp:P.Perm (GO (Fc G.labels.length) k (2^G.labels.length))):Uy G k (P.filter λp=>(Dg G p).isSome):=by
 have hu:=Fq G.labels.length
 have hn:=Tu (k:=k) hu
 have hm:=λp=>Qp (k:=k) hu (p:=p)
 rw[E6]at hn hm
 refine⟨(hp.nodup_iff.2 hn).sublist Cd,λp=>?_⟩
 rw[A5,hp.mem_iff,hm]
def Hy(G:Gr)(l:List Int):List (List Int):=(Ha G l).map λx=>l++[x]
def OE(G:Gr):Nat->List (List Int)
 |0=>(Fc G.labels.length).map λv=>[v]
 |k+1=>(OE G k).flatMap (Hy G)
theorem SG(G:Gr)(v:Int):Cz G [v]=Dw G v:=by
 have:=Hf G [] v
 rw[Ca]at this
 rw[this]
 have h1:Cz G []=true:=Hg λi v h=>by simp at h
 rw[h1,FE];rfl
theorem GU {G:Gr}(hG:G.Ok):∀(k:Nat) {x:List Int},x∈OE G k↔Cz G x=true/\x.length=k+1
 |
  0,x=>by
  unfold OE
  rw[Ar]
  constructor
  ·rintro⟨v,hv,rfl⟩
   rw[SG]
   have:=Gm.1 hv
   exact⟨JJ this.1 this.2,rfl⟩
  ·rintro⟨h1,h2⟩
   obtain⟨v,rfl⟩:=Ch.1 h2
   rw[SG]at h1
   refine⟨v,Gm.2 ?_,rfl⟩
   unfold Dw at h1
   simpa using h1
 |
  k+1,x=>by
  unfold OE
  rw[AG]
  constructor
  ·rintro⟨l,hl,hx⟩
   obtain⟨h1,h2⟩:=(GU hG k).1 hl
   unfold Hy at hx
   obtain⟨v,hv,rfl⟩:=Ar.1 hx
   have:=(Mo hG).1 hv
   rw[Hf,this.1,this.2]
   exact⟨rfl,by rw[Ah,h2];rfl⟩
  ·rintro⟨h1,h2⟩
   have hne:x≠[]:=λe=>by rw[e]at h2;simp at h2
   have hx:=List.dropLast_concat_getLast hne
   generalize x.getLast hne=v at hx
   generalize x.dropLast=l at hx
   subst hx
   rw[Hf,Ai]at h1
   rw[Ah,BF]at h2
   refine⟨l,(GU hG k).2 ⟨h1.1,by omega⟩,?_⟩
   unfold Hy
   exact Ar.2 ⟨v,(Mo hG).2 h1,rfl⟩
theorem Ys(G:Gr)(l:List Int):(Ha G l).Nodup:=by
 unfold Ha
 split
 ·exact(Le (Nf G l)).sublist Cd
 ·exact List.nodup_nil
theorem PL {G:Gr}(hG:G.Ok):∀(k:Nat),(OE G k).Nodup
 |
  0=>by
  unfold OE List.Nodup
  rw[B6]
  refine(Fq G.labels.length).imp λh e=>?_
  have:=List.cons.inj e
  omega
 |
  k+1=>by
  unfold OE List.Nodup
  rw[qB]
  refine⟨λl hl=>?_,(PL hG k).imp λhne x hx y hy e=>?_⟩
  ·unfold Hy
   rw[B6]
   refine(Ys G l).imp λhne e=>hne ?_
   have:=List.append_cancel_left e
   exact(List.cons.inj this).1
  ·unfold Hy at hx hy
   obtain⟨v,_,rfl⟩:=Ar.1 hx
   obtain⟨u,_,rfl⟩:=Ar.1 hy
   exact hne (List.append_inj_left' e rfl)
theorem Ln(G:Gr)(x:List Int):Dg G (Cw x)=Dg G x:=V0 (Ba x).2
theorem Qt {G:Gr} {l:List Int}(h:BW G l=true) {x:Int}(hx:x∈l):Dw G x=true:=by
 obtain⟨i,hi,rfl⟩:=BX.1 hx
 exact(IR.1 (Lp h (Aa hi))).1
theorem aV {G:Gr}(hG:G.Ok) {k:Nat} {P:List (List Int)}(hP:Uy G (k+1) P):((OE G k).map Cw).Perm P:=by
 have hself:∀x∈OE G k,Dg G (Cw x)=some x:=λx hx=>by
  rw[Ln];exact Ii hG ((GU hG k).1 hx).1
 have hn:((OE G k).map Cw).Nodup:=by
  unfold List.Nodup
  rw[B6]
  refine FD ?_ (PL hG k)
  intro a b ha hb hne e
  have h1:=hself a ha
  rw[e,hself b hb]at h1
  exact hne (B5 h1).symm
 refine(TW hn hP.1).2 λp=>?_
 rw[hP.2,Ar]
 constructor
 ·rintro⟨x,hx,rfl⟩
  obtain⟨h1,h2⟩:=(GU hG k).1 hx
  have hlk:=EW hG h1
  refine⟨⟨(Ba x).1,λy hy=>?_,?_⟩,by rw[hself x hx];rfl⟩
  ·have:=Qt hlk ((Ba x).2 y|>.1 hy)
   unfold Dw at this
   exact Gm.2 (by simpa using this)
  ·rw[Ju (IP hlk)];exact h2
 ·rintro⟨⟨h1,h2,h3⟩,h4⟩
  obtain⟨r,hr⟩:=Option.isSome_iff_exists.1 h4
  obtain⟨g1,g2⟩:=Ga hr
  have hsp:Cw p=p:=Ex (Ba p).1 h1 (Ba p).2
  have hl:=g1.length_eq
  rw[hsp]at g1 hl
  exact⟨r,(GU hG k).2 ⟨g2,by omega⟩,Ex (Ba r).1 h1 λx=>by rw[(Ba r).2,g1.mem_iff]⟩
end Go.Proofs.YtjejpdfldmempaaGreatDoor
namespace Go.Proofs.YtjejpdfldmempaaGreatDoor
open Go.Gr
def Iy(E:List Edg)(l:List Int)(x:Int):Bool:=!decide (x∈l)&&Gk E l x
def DH(l z:List Int):List Int:=z.filter λx=>!decide (x∈l)
theorem S4(E:List Edg)(l z:List Int):z.find? (Iy E l)=(DH l z).find? (Gk E l):=by
 unfold DH
 rw[List.find?_filter]
 congr 1
 funext x
 unfold Iy
 rw[BT];simp
theorem bJ {l z:List Int}(hz:z.Pairwise (· < ·)) {i:Nat}(hi:i<(DH l z).length):DH (l++[(DH l z)[i]]) z=(DH l z).eraseIdx i:=by
 have hr:(DH l z).Pairwise (· < ·):=hz.sublist Cd
 refine Ex (hz.sublist Cd) (hr.sublist (MD _ _)) λx=>?_
 rw[IN (Le hr) hi]
 generalize (DH l z)[i]=y
 unfold DH
 simp only[A5,B7,decide_eq_false_iff_not,Ag,AA,not_or]
 exact⟨λh=>⟨⟨h.1,h.2.1⟩,h.2.2⟩,λh=>⟨h.1.1,h.1.2,h.2⟩⟩
theorem UL(z:List Int):DH [] z=z:=by
 unfold DH
 rw[E3];simp
theorem Xz {E:List Edg} {l z:List Int}(h:z.find? (Iy E l)=none) {n:Nat}(hn:(DH l z).length=n+1):FA E (DH l z).length l (DH l z)=none:=by
 rw[S4]at h
 rw[hn]
 unfold FA
 have:(DH l z).findIdx? (Gk E l)=none:=by
  rw[AM]
  intro x hx
  have:=List.find?_eq_none.1 h x hx
  simpa using this
 rw[this]
theorem Xy {E:List Edg} {l z:List Int}(hz:z.Pairwise (· < ·)) {x:Int}(h:z.find? (Iy E l)=some x) {n:Nat}(hn:(DH l z).length=n+1):(DH (l++[x]) z).length=n/\FA E (DH l z).length l (DH l z)=FA E (DH (l++[x]) z).length (l++[x]) (DH (l++[x]) z):=by
 rw[S4,List.find?_eq_some_iff_getElem]at h
 obtain⟨h1,i,hi,h2,h3⟩:=h
 have hf:(DH l z).findIdx? (Gk E l)=some i:=by
  rw[AN]
  exact⟨hi,by rw[h2];exact h1,λj hj=>by have:=h3 j hj;simpa using this⟩
 have hs:=bJ hz hi
 rw[h2]at hs
 have hl:((DH l z).eraseIdx i).length=n:=by rw[List.length_eraseIdx,if_pos hi];omega
 rw[hs,hl]
 refine⟨rfl,?_⟩
 conv=>lhs;rw[hn];unfold FA
 rw[hf]
 simp only
 rw[Aa hi,h2];rfl
theorem kF {G:Gr} {s:List Int}(h:(Cw s).any (λv=>!Dw G v)=false):Dg G s=FA G.edges (Cw s).length [] (Cw s):=by
 unfold Dg;rw[h];rfl
theorem cR {G:Gr} {s:List Int}(h:(Cw s).any (λv=>!Dw G v)=true):Dg G s=none:=by
 unfold Dg;rw[h];rfl
def PM(G:Gr)(l:List Int)(k:Nat):List Int:=(Fc k).filter λv=>decide (l=[])||candB G l v
where candB (G:Gr) (l:List Int) (v:Int):Bool:=!decide (v∈l)&&l.any (Fh G.edges v)
theorem gZ {G:Gr}(hG:G.Ok)(l:List Int):PM G l G.labels.length=FK G l:=by
 refine Ex ((Fq _).sublist Cd) (Nf G l) λx=>?_
 unfold PM
 rw[A5,Gm]
 by_cases hl:l=[]
 ·unfold FK
  rw[if_pos hl,Gm]
  simp[hl]
 ·rw[Vn hl]
  unfold PM.candB
  simp only[hl,decide_false,Bool.false_or,Ai,B7,decide_eq_false_iff_not,Pr]
  constructor
  ·rintro⟨h1,h2,u,hu,h3⟩
   have:=(QP hG h3).1
   unfold Dw at this
   exact⟨⟨u,hu,(Nl hG).2 ⟨by simpa using this,h1.1,h1.2,by rw[GJ];exact h3⟩⟩,h2⟩
  ·rintro⟨⟨u,hu,h3⟩,h2⟩
   obtain⟨g1,g2,g3,g4⟩:=(Nl hG).1 h3
   exact⟨⟨g2,g3⟩,h2,u,hu,by rw[GJ];exact g4⟩
end Go.Proofs.YtjejpdfldmempaaGreatDoor
end
section
namespace Go.Proofs.YtjejpdfldmempaaGreatDoor
open Go.Gr
def D4:List Int->List Int->Bool
 |[],[]=>false
 |[],_::_=>true
 |_::_,[]=>false
 |x::a,y::b=>decide (x<y)||(decide (x=y)&&D4 a b)
theorem Wy:∀{a b:List Int},a.length=b.length->D4 a b=true->∀(x y:List Int),D4 (a++x) (b++y)=true
 |[],[],_,h,_,_=>by simp[D4]at h
 |[],_::_,e,_,_,_=>by simp at e
 |_::_,[],e,_,_,_=>by simp at e
 |
  p::a,q::b,e,h,x,y=>by
  simp only[D4,B2,CA,Ai,decide_eq_true_eq]at h⊢
  rcases h with h|⟨h1,h2⟩
  ·exact .inl h
  ·exact .inr ⟨h1,Wy (by simpa using e) h2 x y⟩
theorem Wz:∀(a:List Int) {x y:Int},x<y->D4 (a++[x]) (a++[y])=true
 |[],x,y,h=>by simp[D4,h]
 |
  p::a,x,y,h=>by
  simp only[D4,B2,CA,Ai,decide_eq_true_eq]
  exact .inr ⟨trivial,Wz a h⟩
def Fx(G:Gr)(ps:List Int->Bool)(l:List Int):List (List Int):=(Hy G l).filter ps
def Bx(G:Gr)(ps:List Int->Bool):Nat->List (List Int)
 |0=>(OE G 0).filter ps
 |k+1=>(Bx G ps k).flatMap (Fx G ps)
def Ka(ps:List Int->Bool)(l:List Int):Bool:=(List.range l.length).all λn=>ps (l.take (n+1))
theorem SM(ps:List Int->Bool)(l:List Int)(v:Int):Ka ps (l++[v])=(Ka ps l&&ps (l++[v])):=by
 unfold Ka
 rw[Ah,BF,BN,List.all_append,List.all_cons,List.all_nil,Bool.and_true]
 congr 1
 ·rw[BT,BY,BY]
  have h:∀n∈List.range l.length,(l++[v]).take (n+1)=l.take (n+1):=λn hn=>Bg (by have:=AJ.1 hn;omega)
  exact⟨λg n hn=>by rw[<-h n hn];exact g n hn,λg n hn=>by rw[h n hn];exact g n hn⟩
 ·rw[Ak (by simp)]
theorem El {G:Gr}(hG:G.Ok) {ps:List Int->Bool}:∀(k:Nat) {x:List Int},x∈Bx G ps k↔Cz G x=true/\x.length=k+1/\Ka ps x=true
 |
  0,x=>by
  unfold Bx
  rw[A5,GU hG]
  constructor
  ·rintro⟨⟨h1,h2⟩,h3⟩
   obtain⟨v,rfl⟩:=Ch.1 h2
   exact⟨h1,h2,by simpa[Ka]using h3⟩
  ·rintro⟨h1,h2,h3⟩
   obtain⟨v,rfl⟩:=Ch.1 h2
   exact⟨⟨h1,h2⟩,by simpa[Ka]using h3⟩
 |
  k+1,x=>by
  unfold Bx
  rw[AG]
  unfold Fx Hy
  constructor
  ·rintro⟨l,hl,hx⟩
   obtain⟨h1,h2,h3⟩:=(El hG k).1 hl
   obtain⟨hx,hp⟩:=A5.1 hx
   obtain⟨v,hv,rfl⟩:=Ar.1 hx
   have:=(Mo hG).1 hv
   rw[Hf,this.1,this.2,SM,h3,hp]
   exact⟨rfl,by rw[Ah,h2];rfl,rfl⟩
  ·rintro⟨h1,h2,h3⟩
   have hne:x≠[]:=λe=>by rw[e]at h2;simp at h2
   have hx:=List.dropLast_concat_getLast hne
   generalize x.getLast hne=v at hx
   generalize x.dropLast=l at hx
   subst hx
   rw[Hf,Ai]at h1
   rw[SM,Ai]at h3
   rw[Ah,BF]at h2
   exact⟨l,(El hG k).2 ⟨h1.1,by omega,h3.1⟩,A5.2 ⟨Ar.2 ⟨v,(Mo hG).2 h1,rfl⟩,h3.2⟩⟩
theorem dH(G:Gr)(l:List Int):(Ha G l).Pairwise (· < ·):=by
 unfold Ha
 split
 ·exact(Nf G l).sublist Cd
 ·exact .nil
theorem Yt(G:Gr)(ps:List Int->Bool)(l:List Int):(Fx G ps l).Pairwise λa b=>D4 a b=true:=by
 unfold Fx Hy
 refine qD Cd ?_
 rw[B6]
 exact(dH G l).imp λh=>Wz l h
theorem MV {G:Gr}(hG:G.Ok)(ps:List Int->Bool):∀k,(Bx G ps k).Pairwise λa b=>D4 a b=true
 |
  0=>by
  unfold Bx OE
  refine qD Cd ?_
  rw[B6]
  exact(Fq _).imp λh=>by simp[D4,h]
 |
  k+1=>by
  unfold Bx
  rw[qB]
  refine⟨λl _=>Yt G ps l,?_⟩
  refine FD ?_ (MV hG ps k)
  intro a b ha hb hab x hx y hy
  unfold Fx Hy at hx hy
  obtain⟨v,_,rfl⟩:=Ar.1 (A5.1 hx).1
  obtain⟨u,_,rfl⟩:=Ar.1 (A5.1 hy).1
  exact Wy (by rw[((El hG k).1 ha).2.1,((El hG k).1 hb).2.1]) hab _ _
theorem lO {a b:List Int}(h:D4 a b=true):a≠b:=by
 rintro rfl
 induction a with
 |nil=>simp[D4]at h
 |cons x a ih=>simp[D4]at h;exact ih h
theorem bA {G:Gr}(hG:G.Ok) {ps:List Int->Bool} {k:Nat} {a b:List Int}(ha:a∈Bx G ps k)(hb:b∈Bx G ps k)(e:Cw a=Cw b):a=b:=by
 have h1:=Ii hG ((El hG k).1 ha).1
 have h2:=Ii hG ((El hG k).1 hb).1
 rw[<-Ln]at h1 h2
 rw[e,h2]at h1
 exact(B5 h1).symm
theorem Ql {α:Type}:∀{l m:List α},l.Nodup->(∀x∈l,x∈m)->l.length<=m.length
 |[],_,_,_=>Aj _
 |
  x::l,m,hn,hs=>by
  obtain⟨a,b,rfl⟩:=List.append_of_mem (hs x CT)
  rw[Ck]at hn
  have:=Ql (l:=l) (m:=a++b) hn.2 λy hy=>by
   have h:=hs y (AE _ hy)
   rw[Ag,An]at h
   rw[Ag]
   rcases h with h|h|h
   ·exact .inl h
   ·exact absurd (h▸hy) hn.1
   ·exact .inr h
  rw[Ah]at this
  rw[A4,Ah,A4]
  omega
theorem LO {G:Gr}(hG:G.Ok)(ps:List Int->Bool)(k:Nat):(Bx G ps k).length<=2^G.labels.length:=by
 have hs:((Bx G ps k).map Cw).Nodup:=by
  unfold List.Nodup
  rw[B6]
  refine FD ?_ (MV hG ps k)
  exactλha hb hab e=>lO hab (bA hG ha hb e)
 have hl:=Ql hs (m:=(List.range (2^G.labels.length)).map (pick (Fc G.labels.length))) λp hp=>by
  obtain⟨x,hx,rfl⟩:=Ar.1 hp
  have hc:=((El hG k).1 hx).1
  have hlk:=EW hG hc
  have hsub:=PQ (Fq G.labels.length) (Ba x).1 λy hy=>by
   have:=Qt hlk ((Ba x).2 y|>.1 hy)
   unfold Dw at this
   exact Gm.2 (by simpa using this)
  obtain⟨m,hm,he⟩:=J5 hsub
  rw[E6]at hm
  exact Ar.2 ⟨m,AJ.2 hm,he⟩
 simpa using hl
theorem Lb {G:Gr} {ps:List Int->Bool} {k:Nat}(h:Bx G ps k=[]):∀m,k<=m->Bx G ps m=[]:=by
 intro m hm
 induction m with
 |zero=>rw[show k=0 by omega]at h;exact h
 |
  succ m ih=>
  rcases AP m k with hk|hk
  ·rw[show m+1=k by omega];exact h
  ·unfold Bx;rw[ih hk];rfl
def CZ(G:Gr)(ps:List Int->Bool):Nat->List (List (List Int))
 |0=>[]
 |d+1=>if Bx G ps d=[]then CZ G ps d else CZ G ps d++[Bx G ps d]
theorem DK {G:Gr} {ps:List Int->Bool}:∀{d:Nat},(∀k,k<d->Bx G ps k≠[])->CZ G ps d=(List.range d).map (Bx G ps)
 |0,_=>rfl
 |
  d+1,h=>by
  unfold CZ
  rw[if_neg (h d (by omega)),DK λk hk=>h k (by omega),BN,Ay];rfl
theorem ID {G:Gr} {ps:List Int->Bool} {k:Nat}(h:Bx G ps k=[]):∀{d:Nat},k<=d->CZ G ps d=CZ G ps k:=by
 intro d hd
 induction d with
 |zero=>rw[show k=0 by omega]
 |
  succ d ih=>
  rcases AP d k with hk|hk
  ·rw[show d+1=k by omega]
  ·conv=>lhs;unfold CZ
   rw[if_pos (Lb h d hk),ih hk]
theorem PI(G:Gr)(ps:List Int->Bool)(d:Nat):∃m,m<=d/\CZ G ps d=(List.range m).map (Bx G ps)/\(∀k,k<m->Bx G ps k≠[])/\(m<d->Bx G ps m=[]):=by
 by_cases h:∃k,k<d/\Bx G ps k=[]
 ·obtain⟨k,hk,he⟩:=h
  let q:Nat->Bool:=λk=>decide (Bx G ps k=[])
  have hx:∃m,Bx G ps m=[]/\m<=k/\∀j,j<m->Bx G ps j≠[]:=by
   clear hk
   induction k with
   |zero=>exact⟨0,he,Az _,λj hj=>absurd hj (Ev _)⟩
   |
    succ k ih=>
    by_cases hz:∃j,j<=k/\Bx G ps j=[]
    ·obtain⟨j,hj,hz⟩:=hz
     have hz':=Lb hz k hj
     obtain⟨m,h1,h2,h3⟩:=ih hz'
     exact⟨m,h1,by omega,h3⟩
    ·exact⟨k+1,he,Az _,λj hj e=>hz ⟨j,by omega,e⟩⟩
  obtain⟨m,h1,h2,h3⟩:=hx
  exact⟨m,by omega,by rw[ID h1 (show m<=d by omega),DK h3],h3,λ_=>h1⟩
 ·exact⟨d,Az _,DK λk hk e=>h ⟨k,hk,e⟩,λk hk e=>h ⟨k,hk,e⟩,λh=>absurd h (Nat.lt_irrefl _)⟩
end Go.Proofs.YtjejpdfldmempaaGreatDoor
end
section
namespace Go.Proofs.YtjejpdfldmempaaGreatDoor
open Go.Gr
theorem Pq:∀(a:List Int),¬D4 a a=true
 |[],h=>by simp[D4]at h
 |_::a,h=>by simp[D4]at h;exact Pq a h
theorem YG:∀{a b c:List Int},D4 a b=true->D4 b c=true->D4 a c=true
 |[],[],_,h,_=>by simp[D4]at h
 |_::_,[],_,h,_=>by simp[D4]at h
 |_,_::_,[],_,h=>by simp[D4]at h
 |[],_::_,_::_,_,_=>rfl
 |
  x::a,y::b,z::c,h1,h2=>by
  simp only[D4,CA,Ai,decide_eq_true_eq]at h1 h2⊢
  rcases h1 with h1|⟨h1,g1⟩<;>rcases h2 with h2|⟨h2,g2⟩
  ·exact .inl (by omega)
  ·exact .inl (by omega)
  ·exact .inl (by omega)
  ·exact .inr ⟨by omega,YG g1 g2⟩
theorem ZE:∀(a b:List Int),D4 a b=true\/a=b\/D4 b a=true
 |[],[]=>.inr (.inl rfl)
 |[],_::_=>.inl rfl
 |_::_,[]=>.inr (.inr rfl)
 |
  x::a,y::b=>by
  simp only[D4,CA,Ai,decide_eq_true_eq,CX]
  rcases Int.lt_trichotomy x y with h|h|h
  ·exact .inl (.inl h)
  ·rcases ZE a b with g|g|g
   ·exact .inl (.inr ⟨h,g⟩)
   ·exact .inr (.inl ⟨h,g⟩)
   ·exact .inr (.inr (.inr ⟨h.symm,g⟩))
  ·exact .inr (.inr (.inl h))
theorem RO:∀{P Q:List (List Int)},P.Pairwise (λa b=>D4 a b=true)->Q.Pairwise (λa b=>D4 a b=true)->(∀x,x∈P↔x∈Q)->P=Q
 |[],[],_,_,_=>rfl
 |[],y::Q,_,_,h=>absurd ((h y).2 CT) I3
 |x::P,[],_,_,h=>absurd ((h x).1 CT) I3
 |
  x::P,y::Q,hP,hQ,h=>by
  rw[BA]at hP hQ
  have hxy:x=y:=by
   rcases An.1 ((h x).1 CT)with e|e
   ·exact e
   ·rcases An.1 ((h y).2 CT)with f|f
    ·exact f.symm
    ·exact absurd (YG (hP.1 y f) (hQ.1 x e)) (Pq x)
  subst hxy
  rw[RO hP.2 hQ.2 λz=>?_]
  constructor
  ·intro hz
   rcases An.1 ((h z).1 (AE _ hz))with e|e
   ·exact absurd (e▸hP.1 z hz) (Pq _)
   ·exact e
  ·intro hz
   rcases An.1 ((h z).2 (AE _ hz))with e|e
   ·exact absurd (e▸hQ.1 z hz) (Pq _)
   ·exact e
theorem kJ {P:List (List Int)}(hP:P.Pairwise λa b=>D4 a b=true) {l:List Int}(hl:l∉P) {k:Nat}(hk:k<=P.length)(h1:∀x∈P.drop k,D4 l x=true)(h2:∀y,k≠0->P[k-1]? =some y->D4 l y=false):(P.take k++l::P.drop k).Pairwise λa b=>D4 a b=true:=by
 have hs:=hP
 rw[<-BZ k P,Ct]at hs
 rw[Ct,BA]
 have key:∀x∈P.take k,D4 x l=true:=by
  intro x hx
  have h0:k≠0:=λe=>by rw[e]at hx;simp at hx
  obtain⟨i,hi,rfl⟩:=BX.1 hx
  rw[As]at hi
  have hy:=Aa (show k-1<P.length by omega)
  have hb:=h2 _ h0 hy
  have hbl:D4 (P[k-1]'(by omega)) l=true:=by
   rcases ZE l (P[k-1]'(by omega))with g|g|g
   ·rw[hb]at g;cases g
   ·exact absurd (g▸AL (show k-1<P.length by omega)) hl
   ·exact g
  rw[List.getElem_take]
  rcases AP i (k-1)with g|g
  ·exact YG (AH.1 hP i (k-1) (by omega) (by omega) g) hbl
  ·have:i=k-1:=by omega
   subst this;exact hbl
 refine⟨hs.1,⟨h1,hs.2.1⟩,λx hx y hy=>?_⟩
 rcases An.1 hy with e|e
 ·subst e;exact key x hx
 ·exact hs.2.2 x hx y e
theorem oN {P:List (List Int)} {l x:List Int}(k:Nat):x∈P.take k++l::P.drop k↔x=l\/x∈P:=by
 have h:x∈P↔x∈P.take k\/x∈P.drop k:=by
  conv=>lhs;rw[<-BZ k P]
  exact Ag
 rw[Ag,An,h]
 constructor<;>rintro(h|h|h)<;>simp[h]
def Kc(G:Gr)(ps:List Int->Bool)(S:List (List Int))(P:List (List Int)):Prop:=P.Pairwise (λa b=>D4 a b=true)/\∀x,x∈P↔∃s∈S,Dg G s=some x/\Ka ps x=true
theorem bL {G:Gr}(hG:G.Ok) {ps:List Int->Bool} {k:Nat} {S P:List (List Int)}(hS:Uy G (k+1) S)(hP:Kc G ps S P):P=Bx G ps k:=by
 refine RO hP.1 (MV hG ps k) λx=>?_
 rw[hP.2,El hG]
 constructor
 ·rintro⟨s,hs,hl,ha⟩
  obtain⟨⟨h1,h2,h3⟩,h4⟩:=(hS.2 s).1 hs
  obtain⟨g1,g2⟩:=Ga hl
  have hsp:Cw s=s:=Ex (Ba s).1 h1 (Ba s).2
  rw[hsp]at g1
  exact⟨g2,by rw[g1.length_eq,h3],ha⟩
 ·rintro⟨h1,h2,h3⟩
  have hr:=(GU hG k).2 ⟨h1,h2⟩
  have hm:=(aV hG hS).mem_iff.1 (C2 (f:=Cw) hr)
  exact⟨Cw x,hm,by rw[Ln];exact Ii hG h1,h3⟩
theorem X1(G:Gr)(ps:List Int->Bool):Kc G ps [] []:=⟨.nil,λx=>by simp⟩
theorem bK {G:Gr} {ps:List Int->Bool} {S P:List (List Int)}(h:Kc G ps S P) {s:List Int}(hs:∀x,Dg G s=some x->Ka ps x=false):Kc G ps (S++[s]) P:=by
 refine⟨h.1,λx=>?_⟩
 rw[h.2]
 constructor
 ·rintro⟨t,ht,g⟩;exact⟨t,A2 _ ht,g⟩
 ·rintro⟨t,ht,g1,g2⟩
  rcases Ag.1 ht with ht|ht
  ·exact⟨t,ht,g1,g2⟩
  ·rw[AA]at ht
   subst ht
   rw[hs x g1]at g2;cases g2
theorem X0 {G:Gr} {ps:List Int->Bool} {S P:List (List Int)}(h:Kc G ps S P) {s l:List Int}(hl:Dg G s=some l)(hp:Ka ps l=true)(hn:∀t∈S,Dg G t≠some l) {k:Nat}(hk:k<=P.length)(h1:∀x∈P.drop k,D4 l x=true)(h2:∀y,k≠0->P[k-1]? =some y->D4 l y=false):Kc G ps (S++[s]) (P.take k++l::P.drop k):=by
 refine⟨kJ h.1 (λhx=>?_) hk h1 h2,λx=>?_⟩
 ·obtain⟨t,ht,g,_⟩:=(h.2 l).1 hx
  exact hn t ht g
 ·rw[oN,h.2]
  constructor
  ·rintro(rfl|⟨t,ht,g⟩)
   ·exact⟨s,by simp,hl,hp⟩
   ·exact⟨t,A2 _ ht,g⟩
  ·rintro⟨t,ht,g1,g2⟩
   rcases Ag.1 ht with ht|ht
   ·exact .inr ⟨t,ht,g1,g2⟩
   ·rw[AA]at ht
    subst ht
    rw[hl,Aq]at g1
    exact .inl g1.symm
theorem Xm {G:Gr} {k:Nat} {S:List (List Int)}(hS:Uy G k S) {i j:Nat} {s t l:List Int}(hi:S[i]? =some s)(hj:S[j]? =some t)(hij:i≠j)(h1:Dg G s=some l):Dg G t≠some l:=by
 intro h2
 have hs:=((hS.2 s).1 (AB hi)).1.1
 have ht:=((hS.2 t).1 (AB hj)).1.1
 have e1:Cw s=s:=Ex (Ba s).1 hs (Ba s).2
 have e2:Cw t=t:=Ex (Ba t).1 ht (Ba t).2
 have p1:=(Ga h1).1
 have p2:=(Ga h2).1
 rw[e1]at p1
 rw[e2]at p2
 have hp:=p1.symm.trans p2
 have:s=t:=Ex hs ht λx=>hp.mem_iff
 subst this
 have hil:i<S.length:=by
  rcases AP i S.length with h|h
  ·exact h
  ·rw[Bh h]at hi;cases hi
 have hjl:j<S.length:=by
  rcases AP j S.length with h|h
  ·exact h
  ·rw[Bh h]at hj;cases hj
 rw[Aa hil,Aq]at hi
 rw[Aa hjl,Aq]at hj
 have hq:=AH.1 hS.1
 rcases AP i j with g|g
 ·exact hq i j hil hjl g (by rw[hi,hj])
 ·exact hq j i hjl hil (by omega) (by rw[hi,hj])
end Go.Proofs.YtjejpdfldmempaaGreatDoor
end
section
namespace Go.Proofs.YtjejpdfldmempaaGreatDoor
open Go.Gr
def BQ(G:Gr)(e:Bool):Gr:=if e=true then G3 G else G
theorem GI {G:Gr}(hG:G.Ok)(hn:G.labels.length<=10)(hm:G.edges.length<=30)(e:Bool):(BQ G e).Ok:=by
 unfold BQ
 split
 ·have:=Oo hG hn hm
  exact oQ hG (by omega) (by omega)
 ·exact hG
theorem ZU(G:Gr)(e:Bool):(BQ G e).labels.length=if e=true then G.edges.length else G.labels.length:=by
 unfold BQ
 cases e with
 |true=>rw[if_pos rfl,if_pos rfl];exact Bu
 |false=>rfl
theorem ZT {G:Gr}(hG:G.Ok)(hn:G.labels.length<=10)(hm:G.edges.length<=30):Vy G=.tuple [dG (BQ G true),.nili]:=XZ hG hn hm
def Nq(l:List Opp)(p:Pt):Bool:=(FI p).isNone&&l.all λo=>C6 o p
def II(G:Gr)(e:Bool)(l:List Opp)(x:List Int):Bool:=BW (BQ G e) x&&if e=true then decide ((Bq (Bl G.edges x)).length<=8)&&Nq l (QQ G x)else decide (x.length<=8)&&Nq l (Ob G x)
def F4(G:Gr)(ps:List Int->Bool)(m:Nat):Nat:=((List.range m).map λk=>(Bx G ps k).length).sum
theorem FV(G:Gr)(ps:List Int->Bool)(m:Nat):F4 G ps (m+1)=F4 G ps m+(Bx G ps m).length:=by
 unfold F4
 rw[BN,Ay,List.sum_append];simp
theorem YZ {G:Gr}(hG:G.Ok)(ps:List Int->Bool):∀m,F4 G ps m<=m*2^G.labels.length
 |0=>by simp[F4]
 |
  m+1=>by
  rw[FV,Nat.succ_mul]
  have:=YZ hG ps m
  have:=LO hG ps m
  omega
theorem aI(G:Gr)(ps:List Int->Bool) {m d:Nat}(h:m<=d):F4 G ps m<=F4 G ps d:=by
 induction d with
 |zero=>rw[show m=0 by omega];exact Az _
 |
  succ d ih=>
  rw[FV]
  rcases AP d m with g|g
  ·rw[show m=d+1 by omega,FV];exact Az _
  ·have:=ih g;omega
theorem Ur {G:Gr}(hG:G.Ok)(ps:List Int->Bool)(hn:G.labels.length<=8) {m:Nat}(hm:m<=8):F4 G ps m<=2048:=by
 have h1:=YZ hG ps m
 have h2:2^G.labels.length<=256:=BE (HK (by decide) hn) (by decide)
 have h3:m*2^G.labels.length<=8*256:=CR hm h2
 omega
theorem nW {G:Gr} {ps:List Int->Bool} {d k:Nat} {R:List (List Int)}(h:(CZ G ps d)[k]? =some R):R=Bx G ps k:=by
 obtain⟨m,_,e,_,_⟩:=PI G ps d
 rw[e,Ac]at h
 rcases AP k m with g|g
 ·rw[E2 g]at h;exact(B5 h).symm
 ·rw[Bh (by rw[Bv];exact g)]at h;cases h
theorem gU(G:Gr)(ps:List Int->Bool)(d:Nat):(CZ G ps d).length<=d:=by
 obtain⟨m,h,e,_,_⟩:=PI G ps d
 rw[e,Ab,Bv];exact h
def V8(G:Gr)(ps:List Int->Bool)(l:List Int):Bool:=decide (l≠[])&&Cz G l&&Ka ps l
theorem cY {l:List Opp} {p:Pt} {n:Nat}(hp:PtOk n p)(hl:∀o∈l,D7 o=0):(l.all λo=>HG o p)=l.all λo=>C6 o p:=by
 induction l with
 |nil=>rfl
 |
  cons o l ih=>
  rw[List.all_cons,List.all_cons,ih λx hx=>hl x (AE _ hx)]
  have h0:=hl o CT
  unfold D7 at h0
  rw[dD hp]
  ·apply I6;intro h;rw[if_pos (.inl (by omega))]at h0;omega
  ·apply I6;intro h;rw[if_pos (.inr (by omega))]at h0;omega
end Go.Proofs.YtjejpdfldmempaaGreatDoor
end
section
namespace Go.Proofs.YtjejpdfldmempaaGreatDoor
open Go.Sx Go.RowKit Go.Reg Go.Gr
set_option maxRecDepth 100000
def dJ(G:Gr)(e:Bool)(d:Int)(l:List Opp):Da:=.agg [dG G,.bool e,.int .i64 d,Ja l]
structure JobOk(G:Gr)(e:Bool)(d:Int)(l:List Opp):Prop where
 ok:G.Ok
 n:G.labels.length<=7
 m:G.edges.length<=30
 me:e=true->G.edges.length<=8
 d:1<=d/\d<=8
 l16:l.length<=16
 lok:∀o∈l,D7 o=0
theorem oT {n:Nat} {p:Pt}(hp:PtOk n p)(h8:n<=8)(hl:∀x∈p.labels,0<=x/\x<=255):FI p=none:=by
 unfold FI
 have h1:Ik p.labels=none:=by
  refine Pj (by rw[hp.len];omega) λk y hk hy=>?_
  have:=hl y (AB hy)
  unfold B4
  simp;omega
 rw[h1]
 refine JQ λi hi=>?_
 have hx:=Aa hi
 have he:=hp.edge _ (AL hi)
 generalize hE:p.edges[i]=e at hx he
 unfold SE
 rw[hx]
 simp only
 rw[Option.map_eq_none_iff]
 unfold TK
 rw[if_neg (by rw[hp.len];simp;omega),if_neg (by omega)]
 by_cases h0:i=0
 ·rw[if_pos h0]
 ·rw[if_neg h0]
  have hj:i-1<p.edges.length:=by omega
  rw[Aa hj]
  simp only
  rw[if_pos]
  have:=AH.1 hp.strict (i-1) i hj hi (by omega)
  rwa [hE]at this
section
variable {G:Gr} {e:Bool} {d:Int} {l:List Opp}
def sM:List (Nat×Plan):=[]
def rO:List FuncId:=[116,117]
theorem KU(h:JobOk G e d l):Pure C1 75 [dJ G e d l] (λy=>y=.tuple [dG (BQ G e),.nili]):=by
 have hp:=LV l h.l16 h.lok
 have hlo:=kC G h.ok (by have:=h.m;omega)
 rw[ZT h.ok (by have:=h.n;omega) h.m]at hlo
 have h1:=h.d.1
 have h2:=h.d.2
 refine AK Tryz.func75 Tryz.ntmps75 rO [] ?_
 cases e with
 |
  true=>
  (conv=>whnf)
  (repeat' ((first|refine Af ?_ ?_|refine Ad rfl hp ?_|refine Ad rfl hlo ?_|refine nx ?_|refine Aw (λ_=>?_) (λ_=>?_)|exact A0)<;>conv=>whnf))
  exact rfl
 |
  false=>
  (conv=>whnf)
  (repeat' ((first|refine Af ?_ ?_|refine Ad rfl hp ?_|refine Ad rfl hlo ?_|refine nx ?_|refine Aw (λ_=>?_) (λ_=>?_)|exact A0)<;>conv=>whnf))
  exact rfl
def sN:List (Nat×Plan):=[]
def vU:List FuncId:=[]
theorem Vx(h:JobOk G e d l):Pure C1 25 [dJ G e d l] (λy=>y=.nili):=by
 have hw:=KU h
 refine AK Tryz.func25 Tryz.ntmps25 [] [] ?_
 (conv=>whnf)
 (repeat' ((first|refine Af ?_ ?_|refine Ad rfl hw ?_|refine nx ?_|refine Aw (λ_=>?_) (λ_=>?_)|exact A0)<;>conv=>whnf))
 exact rfl
theorem VA(x:Int)(X:List Int)(hl:(x::X).length<=2000000000):Pure C1 60 [AS (x::X)] (λy=>y=AS (x::X)):=by
 have hlm:((x::X).map dI).length=(x::X).length:=Ab _
 refine AK Tryz.func60 Tryz.ntmps60 Ub PY ?_
 have hlm2:(([]:List Da).length+((x::X).map dI).length)<=4294967296:=by rw[hlm];simp at hl⊢;omega
 ((conv=>whnf);repeat' ((first|refine odw ?_|refine nx ?_|refine Aw (λ_=>?_) (λ_=>?_))<;>conv=>whnf))
 all_goals first|exact rfl|(refine Hv hlm2 ?_;((conv=>whnf);repeat' ((first|refine odw ?_|refine nx ?_|refine Aw (λ_=>?_) (λ_=>?_))<;>conv=>whnf));exact rfl)
theorem cZ {X:List Int}(h0:X≠[])(hl:X.length<=1000):Pure C1 60 [AS X] (λy=>y=AS X):=by
 cases X with
 |nil=>exact absurd rfl h0
 |cons x X=>exact VA x X (by omega)
def XI(G:Gr)(e:Bool)(x:List Int):Da:=if e=true then SB G x else if 8<x.length then .tuple [qQ,.nils,dF 6 0 Jh]else if BW G x=false then .tuple [qQ,.nils,dF 2 0 Jh]else .tuple [GE (Ob G x),AS x,.nili]
def sO:List (Nat×Plan):=[(9,.split 0 2 (.leaf [1,0,3,3,0,0] [1,0,2,3,4,5] [0,0,3,7,15,31]) (.leaf [1,0,3,3,0,0] [1,2,0,3,4,5] [6,0,2,7,15,31]))]
def vV:List FuncId:=[25,83,84]
theorem KO(h:JobOk G e d l)(X:List Int)(h0:X≠[])(hx:X.length<=1000):Pure C1 34 [dJ G e d l,AS X] (λz=>z=XI G e X):=by
 have hr:=Vx h
 have hcl:=cZ h0 hx
 have hq:=X5 G h.ok X hx
 have hv:=US G h.ok X (by omega)
 refine AK Tryz.func34 Tryz.ntmps34 vV sO ?_
 cases e with
 |
  true=>
  unfold XI
  rw[if_pos rfl]
  unfold SB at hq⊢
  by_cases h1:BW (G3 G) X=false
  ·rw[if_pos h1]at hq⊢
   (conv=>whnf)
   (repeat' ((first|refine Af ?_ ?_|refine AR tab rfl hr rfl ?_|refine Ad rfl hq ?_|refine nx ?_|refine Aw (λ_=>?_) (λ_=>?_)|exact A0)<;>conv=>whnf))
   exact rfl
  ·rw[if_neg h1]at hq⊢
   by_cases h2:8<(Bq (Bl G.edges X)).length
   ·rw[if_pos h2]at hq⊢
    (conv=>whnf)
    (repeat' ((first|refine Af ?_ ?_|refine AR tab rfl hr rfl ?_|refine Ad rfl hq ?_|refine nx ?_|refine Aw (λ_=>?_) (λ_=>?_)|exact A0)<;>conv=>whnf))
    exact rfl
   ·rw[if_neg h2]at hq⊢
    (conv=>whnf)
    (repeat' ((first|refine Af ?_ ?_|refine AR tab rfl hr rfl ?_|refine Ad rfl hq ?_|refine nx ?_|refine Aw (λ_=>?_) (λ_=>?_)|exact A0)<;>conv=>whnf))
    exact rfl
 |
  false=>
  unfold XI
  rw[if_neg (by decide)]
  by_cases h1:8<X.length
  ·rw[if_pos h1]at hv⊢
   (conv=>whnf)
   (repeat' ((first|refine Af ?_ ?_|refine AR tab rfl hr rfl ?_|refine Ad rfl hv ?_|refine nx ?_|refine Aw (λ_=>?_) (λ_=>?_)|exact A0)<;>conv=>whnf))
   exact rfl
  ·rw[if_neg h1]at hv⊢
   by_cases h2:BW G X=false
   ·rw[if_pos h2]at hv⊢
    (conv=>whnf)
    (repeat' ((first|refine Af ?_ ?_|refine AR tab rfl hr rfl ?_|refine Ad rfl hv ?_|refine nx ?_|refine Aw (λ_=>?_) (λ_=>?_)|exact A0)<;>conv=>whnf))
    exact rfl
   ·rw[if_neg h2]at hv⊢
    (conv=>whnf)
    (repeat' ((first|refine Af ?_ ?_|refine AR tab rfl hr rfl ?_|refine Ad rfl hv ?_|refine Ad rfl hcl ?_|refine nx ?_|refine Aw (λ_=>?_) (λ_=>?_)|exact A0)<;>conv=>whnf))
    exact rfl
theorem Kn(h:JobOk G e d l):(BQ G e).labels.length<=8:=by
 rw[ZU]
 split
 ·exact h.me (by assumption)
 ·have:=h.n;omega
theorem kI(hG:G.Ok) {E:List Edg} {V:List Int}(h8:V.length<=8)(hr:∀x∈V,0<=x/\x<(G.labels.length:Int)):FI ⟨V.map (C5 G),Hw E V⟩=none:=by
 refine oT (n:=V.length) ⟨Ab _,λe he=>?_,IE _ _ _⟩ h8 λx hx=>?_
 ·obtain⟨j,x,hj,hx,hjx,_,rfl⟩:=Nk.1 he
  simp only;omega
 ·obtain⟨y,hy,rfl⟩:=Ar.1 hx
  exact Sq hG (hr y hy)
theorem St(hG:G.Ok) {X:List Int}(h8:(Bq (Bl G.edges X)).length<=8):FI (QQ G X)=none:=by
 refine kI hG h8 λx hx=>?_
 obtain⟨e,he,hxe⟩:=((F3 _).2 x).1 hx
 have:=hG.edge e (JR e he)
 omega
theorem Ns(hG:G.Ok) {X:List Int}(h8:X.length<=8)(hl:BW G X=true):FI (Ob G X)=none:=kI hG h8 (IQ hl)
def vT:List FuncId:=[34,124]
theorem Va(h:JobOk G e d l)(X:List Int)(h0:X≠[])(hx:X.length<=1000):Pure C1 82 [dJ G e d l,AS X] (λz=>z=.bool (II G e l X)):=by
 have hp:=KO h X h0 hx
 refine AK Tryz.func82 Tryz.ntmps82 vT [] ?_
 cases e with
 |
  true=>
  unfold XI at hp
  rw[if_pos rfl]at hp
  unfold SB at hp
  unfold II
  rw[show BQ G true=G3 G from rfl,if_pos rfl]
  by_cases h1:BW (G3 G) X=false
  ·rw[if_pos h1]at hp
   rw[h1]
   (conv=>whnf)
   (repeat' ((first|refine Af ?_ ?_|refine Ad rfl hp ?_|refine nx ?_|refine Aw (λ_=>?_) (λ_=>?_)|exact A0)<;>conv=>whnf))
   exact rfl
  ·rw[if_neg h1]at hp
   rw[Bool.not_eq_false]at h1
   rw[h1]
   by_cases h2:8<(Bq (Bl G.edges X)).length
   ·rw[if_pos h2]at hp
    rw[decide_eq_false (by omega)]
    (conv=>whnf)
    (repeat' ((first|refine Af ?_ ?_|refine Ad rfl hp ?_|refine nx ?_|refine Aw (λ_=>?_) (λ_=>?_)|exact A0)<;>conv=>whnf))
    exact rfl
   ·rw[if_neg h2]at hp
    rw[decide_eq_true (by omega)]
    have he:=St (X:=X) h.ok (by omega)
    have hk:=Qy l (QQ G X) h.l16 h.lok he
    unfold Nq
    rw[he]
    (conv=>whnf)
    (repeat' ((first|refine Af ?_ ?_|refine Ad rfl hp ?_|refine AR tab rfl hk rfl ?_|refine nx ?_|refine Aw (λ_=>?_) (λ_=>?_)|exact A0)<;>conv=>whnf))
    exact congrArg Da.bool (by simp)
 |
  false=>
  unfold XI at hp
  rw[if_neg (by decide)]at hp
  unfold II
  rw[show BQ G false=G from rfl,if_neg (by decide)]
  by_cases h2:8<X.length
  ·rw[if_pos h2]at hp
   rw[decide_eq_false (show¬X.length<=8 by omega),L4,Bool.and_false]
   (conv=>whnf)
   (repeat' ((first|refine Af ?_ ?_|refine Ad rfl hp ?_|refine nx ?_|refine Aw (λ_=>?_) (λ_=>?_)|exact A0)<;>conv=>whnf))
   exact rfl
  ·rw[if_neg h2]at hp
   by_cases h1:BW G X=false
   ·rw[if_pos h1]at hp
    rw[h1]
    (conv=>whnf)
    (repeat' ((first|refine Af ?_ ?_|refine Ad rfl hp ?_|refine nx ?_|refine Aw (λ_=>?_) (λ_=>?_)|exact A0)<;>conv=>whnf))
    exact rfl
   ·rw[if_neg h1]at hp
    rw[Bool.not_eq_false]at h1
    rw[h1,decide_eq_true (show X.length<=8 by omega)]
    have he:=Ns h.ok (by omega) h1
    have hk:=Qy l (Ob G X) h.l16 h.lok he
    unfold Nq
    rw[he]
    (conv=>whnf)
    (repeat' ((first|refine Af ?_ ?_|refine Ad rfl hp ?_|refine AR tab rfl hk rfl ?_|refine nx ?_|refine Aw (λ_=>?_) (λ_=>?_)|exact A0)<;>conv=>whnf))
    exact congrArg Da.bool (by simp)
def vW:List FuncId:=[82]
theorem Yk(h:JobOk G e d l)(X:List Int)(h0:X≠[])(hx:X.length<=1000):Pure C1 136 [AS X,.ref (dJ G e d l)] (λz=>z=.bool (!II G e l X)):=by
 have hp:=Va h X h0 hx
 refine AK Tryz.func136 Tryz.ntmps136 vW [] ?_
 (conv=>whnf)
 (repeat' ((first|refine Af ?_ ?_|refine AR tab rfl hp rfl ?_|refine nx ?_|refine Aw (λ_=>?_) (λ_=>?_)|exact A0)<;>conv=>whnf))
 exact rfl
end
end Go.Proofs.YtjejpdfldmempaaGreatDoor
end
