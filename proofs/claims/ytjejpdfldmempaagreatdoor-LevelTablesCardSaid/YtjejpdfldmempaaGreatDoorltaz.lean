/- Merged: Qta Qtb Pgx Vpl Lvp Lvs Lvj Lvw Dlg Vof Vta Vtc. -/
import Derived.Test.YtjejpdfldmempaaGreatDoorltay
import Derived.Test.YtjejpdfldmempaaGreatDoorltax
import Derived.Test.YtjejpdfldmempaaGreatDoorltaw
section
namespace Go.Proofs.YtjejpdfldmempaaGreatDoor
open Go.Sx Go.RowKit Go.Reg Go.Gr
set_option maxRecDepth 100000
theorem Zg {G:Gr} {u m:Nat}(hu:u<G.edges.length)(hm:m<G.edges.length)(h:u≠m):Ga G.edges u m=Gd (Gq G).edges m u:=by
 rw[Wo]
 unfold Gd Gq
 rw[Cg,decide_eq_true_eq]
 exact(Zb h hu hm).symm
theorem bP {G:Gr} {t:List Int} {m:Nat}(hm:m<G.edges.length)(hn:¬(m:Int)∈t)(ht:∀u∈t,0<=u/\u<G.edges.length):t.any (λu=>Ga G.edges u m)=t.any (Gd (Gq G).edges m):=by
 rw[Cg,BM,BM]
 have key:∀u∈t,Ga G.edges u m=Gd (Gq G).edges m u:=λu hu=>by
  obtain⟨h1,h2⟩:=ht u hu
  obtain⟨k,rfl⟩:=A1 h1
  exact Zg (by omega) hm (λe=>hn (by subst e;exact hu))
 constructor
 ·rintro⟨u,hu,h⟩;exact⟨u,hu,by rw[<-key u hu];exact h⟩
 ·rintro⟨u,hu,h⟩;exact⟨u,hu,by rw[key u hu];exact h⟩
def rE:List FuncId:=[231]
theorem O0(l:List Int)(g:FuncId)(cs:List Da)(p:Int->Bool)(hp:∀x∈l,Pure C1 g (.int .i64 x::cs) (λy=>y=.bool (p x))):Pure C1 187 [Bx l,.func (.func g) [] cs] (λy=>y=.bool (l.any p)):=by
 refine AT Tryz.func187 Tryz.ntmps187 rE [] ?_
 (conv=>whnf)
 (repeat' ((first|refine Ai ?_ ?_|refine Aj rfl (GX l g cs p hp) ?_|refine nx ?_|refine A5 (λ_=>?_) (λ_=>?_)|exact AA)<;>conv=>whnf))
 show Da.plain _=_
 have:=Mq l p
 cases h:l.any p<;>simp[Da.plain,this,h]
def rF:List FuncId:=[192]
theorem ZF(G:Gr)(id u:Int):Pure C1 191 [.int .i64 u,.ref (dG G),.ref (.int .i64 id)] (λy=>y=.bool (Ga G.edges u id)):=by
 refine AT Tryz.func191 Tryz.ntmps191 rF [] ?_
 (conv=>whnf)
 (repeat' ((first|refine Ai ?_ ?_|refine Aj rfl (Wn G u id) ?_|refine nx ?_|refine A5 (λ_=>?_) (λ_=>?_)|exact AA)<;>conv=>whnf))
 exact rfl
def fD:List (Nat×Plan):=[(5,.leaf [0,0,0,0,0,0,1,2,0] [0,1,2,3,4,5,6,7,8] [0,1,3,7,7,31,7,127,255])]
def oP:List FuncId:=[190,186,187]
set_option maxHeartbeats 4000000 in
theorem S9(G:Gr)(l:List Int):Pure C1 125 [dG G,Bx l] (λy=>y=.bool (BK (Gq G) l)):=by
 refine Pure.assume (λO w us hr=>by obtain⟨v,vs,rfl,h1,h2⟩:=Cb hr;obtain⟨v2,vs2,rfl,h3,_⟩:=Cb h2;exact Jv h3) λhm=>?_
 have hl:(l.map dI).length=l.length:=Ac _
 refine AT Tryz.func125 Tryz.ntmps125 oP fD ?_
 ((conv=>whnf);repeat' ((first|refine odw ?_|refine nx ?_|refine A5 (λ_=>?_) (λ_=>?_))<;>conv=>whnf))
 refine AN (ι:=Nat) (λi=>i<=l.length/\∀(j:Nat) (v:Int),j<i->l[j]? =some v->CQ (Gq G) l j v=true) (λi=>[(11,.d (.int .i64 i)),(10,.d (.int .i64 (l.map dI).length)),(9,.d (Bx l)),(2,.own 2),(1,.d (Bx l))]) (λ_=>[(2,.cells 54 [.d (dG G)])]) (λi=>l.length-i) 0 (λ_=>rfl) ⟨As _,by intro j v h;omega⟩ (.refl _ _) ⟨rfl,rfl,rfl,rfl,rfl,trivial⟩ ⟨rfl,trivial⟩ ?_
 rintro i ⟨hi,hne⟩
 refine BV oP fD ?_
 by_cases hlt:i<l.length
 ·have hx:=Ab hlt
  generalize l[i]=y at hx
  have hxd:(l.map dI)[i]? =some (.int .i64 y):=by rw[Af,hx];rfl
  have h1:=HV G y
  have h2:=FT (l.take i) y
  rw[M5]at h2
  have hi2:i<=(l.map dI).length:=by omega
  by_cases hv:0<=y/\y<G.edges.length
  ·obtain⟨m,rfl⟩:=A1 hv.1
   have hml:m<G.edges.length:=by omega
   have he:=Ab hml
   generalize G.edges[m]=x at he
   have ey:DK G.edges m=.tuple [dE x,.bool true]:=by unfold DK;rw[if_pos hv,Be,he];rfl
   rw[ey]at h1
   have hhv:E0 (Gq G) m=true:=by rw[gO,decide_eq_true hv]
   by_cases hc:(m:Int)∈l.take i
   ·rw[decide_eq_true hc]at h2
    rw[Ez hx (Lb (.inr hc))]
    (conv=>whnf)
    (repeat' ((first|refine Ai ?_ ?_|refine AM hxd rfl ?_|refine Bc tab rfl h1 rfl ?_|refine Jy rfl hi2 ?_|refine Bc tab rfl h2 rfl ?_|refine nx ?_|refine A5 (λ_=>?_) (λ_=>?_)|exact AA)<;>conv=>whnf))
    exact rfl
   ·rw[decide_eq_false hc]at h2
    by_cases h0:i=0
    ·have hyes:CQ (Gq G) l i m=true:=by simp[CQ,hhv,h0]
     (conv=>whnf)
     (repeat' ((first|refine Ai ?_ ?_|refine AM hxd rfl ?_|refine Bc tab rfl h1 rfl ?_|refine Jy rfl hi2 ?_|refine Bc tab rfl h2 rfl ?_|refine nx ?_|refine A5 (λ_=>?_) (λ_=>?_)|exact AA)<;>conv=>whnf))
     refine⟨i+1,_,_,⟨hlt,?_⟩,.refl _ _,⟨rfl,rfl,rfl,rfl,rfl,trivial⟩,⟨rfl,trivial⟩,by omega⟩
     intro j v hj hjv
     by_cases hji:j=i
     ·subst hji;rw[hx]at hjv;cases hjv;exact hyes
     ·exact hne j v (by omega) hjv
    ·have hpre:∀u∈l.take i,0<=u/\u<G.edges.length:=λu hu=>by
      obtain⟨j,hj,hju⟩:=AU.1 hu
      have hj2:j<l.length:=by omega
      have h3:=hne j u (by omega) (by rw[Ab hj2,hju])
      by_cases hur:0<=u/\u<G.edges.length
      ·exact hur
      ·rw[Lb (.inl hur)]at h3;cases h3
     have h3:=O0 (l.take i) 191 [.ref (dG G),.ref (.int .i64 m)] (λu=>Ga G.edges u m) (λu _=>ZF G m u)
     rw[M5,bP hml hc hpre]at h3
     have hla:CQ (Gq G) l i m=(l.take i).any (Gd (Gq G).edges m):=by unfold CQ;rw[hhv,decide_eq_false hc,decide_eq_false h0];simp
     cases hb:(l.take i).any (Gd (Gq G).edges m)with
     |
      true=>
      have hyes:=hla.trans hb
      rw[hb]at h3
      (conv=>whnf)
      (repeat' ((first|refine Ai ?_ ?_|refine AM hxd rfl ?_|refine Bc tab rfl h1 rfl ?_|refine Jy rfl hi2 ?_|refine Bc tab rfl h2 rfl ?_|refine Bc tab rfl h3 rfl ?_|refine nx ?_|refine A5 (λ_=>?_) (λ_=>?_)|exact AA)<;>conv=>whnf))
      refine⟨i+1,_,_,⟨hlt,?_⟩,.refl _ _,⟨rfl,rfl,rfl,rfl,rfl,trivial⟩,⟨rfl,trivial⟩,by omega⟩
      intro j v hj hjv
      by_cases hji:j=i
      ·subst hji;rw[hx]at hjv;cases hjv;exact hyes
      ·exact hne j v (by omega) hjv
     |
      false=>
      rw[hb]at h3
      rw[Ez hx (hla.trans hb)]
      (conv=>whnf)
      (repeat' ((first|refine Ai ?_ ?_|refine AM hxd rfl ?_|refine Bc tab rfl h1 rfl ?_|refine Jy rfl hi2 ?_|refine Bc tab rfl h2 rfl ?_|refine Bc tab rfl h3 rfl ?_|refine nx ?_|refine A5 (λ_=>?_) (λ_=>?_)|exact AA)<;>conv=>whnf))
      exact rfl
  ·have ey:DK G.edges y=.tuple [dE ⟨0,0⟩,.bool false]:=by unfold DK;rw[if_neg hv]
   rw[ey]at h1
   rw[Ez hx (Lb (.inl hv))]
   (conv=>whnf)
   (repeat' ((first|refine Ai ?_ ?_|refine AM hxd rfl ?_|refine Bc tab rfl h1 rfl ?_|refine nx ?_|refine A5 (λ_=>?_) (λ_=>?_)|exact AA)<;>conv=>whnf))
   exact rfl
 ·have hie:i=l.length:=by omega
  subst hie
  rw[Jq λj v hj=>hne j v (Ad.1 hj).1 hj]
  ((conv=>whnf);repeat' ((first|refine odw ?_|refine nx ?_|refine A5 (λ_=>?_) (λ_=>?_))<;>conv=>whnf))
  exact rfl
end Go.Proofs.YtjejpdfldmempaaGreatDoor
end
section
namespace Go.Proofs.YtjejpdfldmempaaGreatDoor
open Go.Sx Go.RowKit Go.Reg Go.Gr
set_option maxRecDepth 100000
theorem RE {G:Gr}(hG:G.Ok) {x:Int}(hx:0<=x/\x<G.labels.length):0<=Ei G x/\Ei G x<=255:=by
 obtain⟨m,rfl⟩:=A1 hx.1
 have hm:m<G.labels.length:=by omega
 unfold Ei
 rw[if_pos hx,Be,Ab hm]
 exact hG.lab _ (Bi hm)
theorem Oi {G:Gr}(hG:G.Ok) {v:List Int}(h8:v.length<=8)(hv:∀x∈v,0<=x/\x<G.labels.length):Jr (v.map (Ei G))=none:=by
 refine SU (by rw[Ac];omega) (λk y hk hy=>?_)
 rw[Af]at hy
 obtain⟨x,hx,rfl⟩:=BR.1 hy
 have:=RE hG (hv x (AD hx))
 unfold Bt
 simp;omega
theorem La {G:Gr} {l:List Int}(h:BK G l=true):∀x∈l,0<=x/\x<G.labels.length:=by
 intro x hx
 obtain⟨i,hi⟩:=List.mem_iff_getElem?.1 hx
 have:=RC h hi
 unfold CQ E0 at this
 simp only[Ah,decide_eq_true_eq]at this
 exact this.1
theorem PS {G:Gr} {l:List Int}(h:BK G l=true):l.Nodup:=by
 rw[List.nodup_iff_pairwise_ne,AI]
 intro i j hi hj hij he
 have:=RC h (Ab hj)
 unfold CQ at this
 simp only[Ah,BC,decide_eq_false_iff_not]at this
 exact this.2.1 (by rw[<-he];exact AU.2 ⟨i,by omega,rfl⟩)
def NP(G:Gr)(l:List Int):Pt:=⟨l.map (Ei G),Mj G.edges l⟩
theorem Ui(G:Gr)(hG:G.Ok)(l:List Int)(hm:l.length<=9000000000000000000):
  Pure C1 84 [dG G,Bx l] (λy=>y=if 8<l.length then .tuple [oE,dF 6 0 II]else if BK G l=false then .tuple [oE,dF 2 0 II]else .tuple [L3 (NP G l),.nili]):=by
 refine WG G hG l (NP G l) (λh8 hl=>?_) hm
 have hlt:∀e∈G.edges,e.a<e.b:=λe he=>(hG.edge e he).2.1
 have hsq:l.length*l.length<=8*8:=D2 h8 h8
 have hcl:=N7 (Lx G.edges l) l.length
 have:=P4 (l.map (Ei G)) (Oi hG h8 (La hl)) (F4 (Lx G.edges l) l.length) (by omega) (λe he=>?_) (by rw[Li];exact Ov _ _)
 ·rw[ZZ hlt]at this;exact this
 ·obtain⟨k,i,h1,h2,_,rfl⟩:=Nu.1 he
  rw[Ac]
  refine⟨⟨?_,?_⟩,?_⟩<;>simp only<;>omega
theorem M0 {E:List Edg} {l:List Int}:∀e∈BJ E l,e∈E:=λe he=>by
 obtain⟨m,_,h⟩:=Xe.1 he
 exact AD h
theorem Qs {E:List Edg}(hE:E.Nodup) {l:List Int}(hl:l.Nodup):(BJ E l).Nodup:=by
 unfold BJ
 refine List.Pairwise.filterMap _ ?_ hl
 intro x y hxy e he e2 he2 h
 subst h
 split at he
 ·rename_i h1
  split at he2
  ·rename_i h2
   obtain⟨m,rfl⟩:=A1 h1.1
   obtain⟨k,rfl⟩:=A1 h2.1
   simp only[Be]at he he2
   have hm:=(Ad.1 he).1
   have:=(List.getElem?_inj hm hE).1 (he.trans he2.symm)
   exact hxy (by rw[this])
  ·cases he2
 ·cases he
def Qx(G:Gr)(l:List Int):Pt:=⟨(BN (BJ G.edges l)).map (Ei G),Mj (BJ G.edges l) (BN (BJ G.edges l))⟩
def RV(G:Gr)(l:List Int):Da:=if BK (Gq G) l=false then .tuple [oE,.nils,dF 2 0 II]else if 8<(BN (BJ G.edges l)).length then .tuple [oE,.nils,dF 6 0 II]else .tuple [L3 (Qx G l),Bx (BN (BJ G.edges l)),.nili]
def fE:List (Nat×Plan):=[(10,.leaf [0,0,0,1,2,0,0,1,2,0,6,3,0] [0,1,2,5,6,3,7,4,8,9,10,11,12] [0,0,0,4,14,0,0,64,254,510,1022,2047,4095])]
def oR:List FuncId:=[125,126,127,128,130,129]
set_option maxHeartbeats 4000000 in
theorem WH(G:Gr)(hG:G.Ok)(l:List Int)(hm:l.length<=1000):Pure C1 83 [dG G,Bx l] (λy=>y=RV G l):=by
 have hdl:(l.map dI).length=l.length:=Ac _
 have hlk:=S9 G l
 have hvs:=Wh G l (by omega)
 have hen:=RS G l (by omega)
 have hvl:=NO (BJ G.edges l)
 have hel:=Lh G.edges l
 unfold RV
 refine AT Tryz.func83 Tryz.ntmps83 oR fE ?_
 cases hl:BK (Gq G) l with
 |
  false=>
  rw[hl]at hlk
  rw[if_pos rfl]
  (conv=>whnf)
  (repeat' ((first|refine Ai ?_ ?_|refine Aj rfl hlk ?_|refine Aj rfl (BU 2 0 II) ?_|refine nx ?_|refine A5 (λ_=>?_) (λ_=>?_)|exact AA)<;>conv=>whnf))
  exact rfl
 |
  true=>
  rw[hl]at hlk
  rw[if_neg (by decide)]
  have hlt:∀e∈BJ G.edges l,e.a<e.b:=λe he=>(hG.edge e (M0 e he)).2.1
  have hEn:=Qs hG.sorted.nodup (l:=l) (PS hl)
  obtain⟨hVn,hVm⟩:=Il (BJ G.edges l)
  have hin:∀e∈BJ G.edges l,e.a∈BN (BJ G.edges l)/\e.b∈BN (BJ G.edges l):=λe he=>⟨(hVm _).2 ⟨e,he,.inl rfl⟩,(hVm _).2 ⟨e,he,.inr rfl⟩⟩
  have hVr:∀x∈BN (BJ G.edges l),0<=x/\x<G.labels.length:=λx hx=>by
   obtain⟨e,he,h⟩:=(hVm x).1 hx
   obtain⟨g1,g2,g3⟩:=hG.edge e (M0 e he)
   rcases h with rfl|rfl<;>omega
  clear hVm
  unfold Qx
  generalize hE:BJ G.edges l=E at*
  generalize hV:BN E=V at*
  have hdV:(V.map dI).length=V.length:=Ac _
  have hdE:(E.map dE).length=E.length:=Ac _
  by_cases h8:8<V.length
  ·rw[if_pos h8]
   (conv=>whnf)
   (repeat' ((first|refine Ai ?_ ?_|refine Aj rfl hlk ?_|refine Aj rfl hvs ?_|refine Aj rfl (BU 6 0 II) ?_|refine nx ?_|refine A5 (λ_=>?_) (λ_=>?_)|exact AA)<;>conv=>whnf))
   exact rfl
  ·rw[if_neg h8]
   (conv=>whnf)
   (repeat' ((first|refine Ai ?_ ?_|refine Aj rfl hlk ?_|refine Aj rfl hvs ?_|refine Aj rfl hen ?_|refine nx ?_|refine A5 (λ_=>?_) (λ_=>?_)|exact AA)<;>conv=>whnf))
   obtain⟨hnd,hmade⟩:=UF hlt hEn V hVn hin
   have hql:=LS G V (by omega)
   have hmk:=P4 (V.map (Ei G)) (Oi hG (by omega) hVr) (E.map (nK V)) (by rw[Ac];omega) (λe he=>by
    obtain⟨x,hx,rfl⟩:=Aq.1 he
    obtain⟨i,j,h1,h2,_,_,h5,h6⟩:=Tq hVn (hlt x hx) (hin x hx).1 (hin x hx).2
    rw[h6,Ac]
    refine⟨⟨?_,?_⟩,?_⟩<;>simp only<;>omega) hnd
   rw[hmade]at hmk
   refine AN (ι:=Nat) (λi=>i<=E.length) (λi=>[(31,.d (.int .i64 i)),(30,.d (.int .i64 (E.map dE).length)),(29,.d (Er E)),(8,.own 300),(7,.d (Bx V)),(4,.own 4),(0,.d (dG G))]) (λi=>[(4,.cells 31 [.d .nils,.d .nils]),(300,.slice 103 2 (((E.take i).map (nK V)).map dE))]) (λi=>E.length-i) 0 (λ_=>rfl) (As _) (.own 8 300 103 2 rfl rfl (.refl _ _)) ⟨rfl,rfl,rfl,rfl,rfl,rfl,rfl,trivial⟩ ⟨rfl,rfl,trivial⟩ ?_
   intro i hi
   refine BV oR fE ?_
   by_cases hil:i<E.length
   ·have hx:=Ab hil
    generalize E[i]=x at hx
    have hxd:(E.map dE)[i]? =some (.agg [.int .i64 x.a,.int .i64 x.b]):=by rw[Af,hx];rfl
    have h1:=Ld V x.a
    have h2:=Ld V x.b
    (conv=>whnf)
    (repeat' ((first|refine Ai ?_ ?_|refine AM hxd rfl ?_|refine Bc tab rfl h1 rfl ?_|refine Bc tab rfl h2 rfl ?_|refine nx ?_|refine A5 (λ_=>?_) (λ_=>?_)|exact AA)<;>conv=>whnf))
    refine⟨i+1,_,_,by omega,.refl _ _,⟨rfl,rfl,rfl,rfl,rfl,rfl,rfl,trivial⟩,⟨rfl,Bj ?_,trivial⟩,by omega⟩
    rw[A2,hx];simp[dE,nK]
   ·have e:E.take i=E:=Ao (by omega)
    rw[e]
    (conv=>whnf)
    (repeat' ((first|refine Ai ?_ ?_|refine Du 300 rfl ?_|refine Aj rfl hql ?_|refine Aj rfl hmk ?_|refine nx ?_|refine A5 (λ_=>?_) (λ_=>?_)|exact AA)<;>conv=>whnf))
    exact rfl
end Go.Proofs.YtjejpdfldmempaaGreatDoor
end
section
namespace Go.Proofs.YtjejpdfldmempaaGreatDoor
open Go.Sx Go.RowKit Go.Reg Go.Gr
set_option maxRecDepth 100000
theorem LX(l:List Opp)(h16:l.length<=16)(hok:∀o∈l,DR o=0):Pure C1 116 [N6 l] (λy=>y=.nili):=by
 have hl:(l.map dO).length=l.length:=Ac _
 refine AT Tryz.func116 Tryz.ntmps116 [] [] ?_
 ((conv=>whnf);repeat' ((first|refine odw ?_|refine nx ?_|refine A5 (λ_=>?_) (λ_=>?_))<;>conv=>whnf))
 refine AN (ι:=Nat) (λi=>i<=l.length) (λi=>[(12,.d (.int .i64 i)),(11,.d (.int .i64 (l.map dO).length)),(10,.d (N6 l))]) (λ_=>[]) (λi=>l.length-i) 0 (λ_=>rfl) (As _) (.refl _ _) ⟨rfl,rfl,rfl,trivial⟩ trivial ?_
 intro i hi
 refine BV [] [] ?_
 by_cases hil:i<l.length
 ·have hx:=Ab hil
  have hoi:=hok _ (Bi hil)
  generalize l[i]=o at hx hoi
  have hxd:(l.map dO)[i]? =some (.agg [.int .i64 o.kind,.int .i64 o.n]):=by rw[Af,hx];rfl
  have hr:=LY o i
  unfold Iv at hr
  rw[if_pos hoi]at hr
  (conv=>whnf)
  (repeat' ((first|refine Ai ?_ ?_|refine AM hxd rfl ?_|refine Aj rfl hr ?_|refine nx ?_|refine A5 (λ_=>?_) (λ_=>?_)|exact AA)<;>conv=>whnf))
  exact⟨i+1,_,_,hil,.refl _ _,⟨rfl,rfl,rfl,trivial⟩,trivial,by omega⟩
 ·((conv=>whnf);repeat' ((first|refine odw ?_|refine nx ?_|refine A5 (λ_=>?_) (λ_=>?_))<;>conv=>whnf))
  exact rfl
theorem Ti(l:List Edg)(g:FuncId)(cs:List Da)(p:Edg->Bool)(hm:l.length<=9223372036854775807)(hp:∀x∈l,Pure C1 g (dE x::cs) (λy=>y=.bool (p x))):Pure C1 288 [Er l,.func (.func g) [] cs] (λy=>y=.int .i64 (Ka (l.findIdx? p))):=by
 have hl:(l.map dE).length=l.length:=Ac _
 refine AT Tryz.func288 Tryz.ntmps288 [] [] ?_
 ((conv=>whnf);repeat' ((first|refine odw ?_|refine nx ?_|refine A5 (λ_=>?_) (λ_=>?_))<;>conv=>whnf))
 refine AN (ι:=Nat) (λi=>i<=l.length/\∀y∈l.take i,p y=false) (λi=>[(8,.d (.int .i64 i)),(7,.d (.int .i64 (l.map dE).length)),(1,.d (.func (.func g) [] cs)),(0,.d (Er l))]) (λ_=>[]) (λi=>l.length-i) 0 (λ_=>rfl) ⟨As _,by simp⟩ (.refl _ _) ⟨rfl,rfl,rfl,rfl,trivial⟩ trivial ?_
 rintro i ⟨hi,hne⟩
 refine BV [] [] ?_
 by_cases hlt:i<l.length
 ·have hx:=Ab hlt
  generalize l[i]=y at hx
  have hxd:(l.map dE)[i]? =some (.agg [.int .i64 y.a,.int .i64 y.b]):=by rw[Af,hx];rfl
  have hpy:=hp y (AD hx)
  cases hy:p y with
  |
   true=>
   rw[hy]at hpy
   rw[Tc hx hy hne]
   (conv=>whnf)
   (repeat' ((first|refine Ai ?_ ?_|refine AM hxd rfl ?_|refine Aj (Em _ _) hpy ?_|refine nx ?_|refine A5 (λ_=>?_) (λ_=>?_)|exact AA)<;>conv=>whnf))
   exact rfl
  |
   false=>
   rw[hy]at hpy
   (conv=>whnf)
   (repeat' ((first|refine Ai ?_ ?_|refine AM hxd rfl ?_|refine Aj (Em _ _) hpy ?_|refine nx ?_|refine A5 (λ_=>?_) (λ_=>?_)|exact AA)<;>conv=>whnf))
   refine⟨i+1,_,_,⟨hlt,?_⟩,.refl _ _,⟨rfl,rfl,rfl,rfl,trivial⟩,trivial,by omega⟩
   intro z hz
   rw[A2,hx]at hz
   rcases Ag.1 hz with hz|hz
   ·exact hne z hz
   ·simp at hz;subst hz;exact hy
 ·have hii:l.take i=l:=Ao (by omega)
  rw[hii]at hne
  rw[N1 hne]
  ((conv=>whnf);repeat' ((first|refine odw ?_|refine nx ?_|refine A5 (λ_=>?_) (λ_=>?_))<;>conv=>whnf))
  exact rfl
theorem YE {α:Type}(l:List α)(p:α->Bool):0<=Ka (l.findIdx? p)↔l.any p=true:=by
 cases h:l.findIdx? p with
 |
  none=>
  rw[AK]at h
  constructor
  ·intro h2;simp[Ka]at h2
  ·intro h2
   obtain⟨x,hx,hpx⟩:=BM.1 h2
   rw[h x hx]at hpx;cases hpx
 |
  some i=>
  obtain⟨h1,h2,_⟩:=AJ.1 h
  constructor
  ·intro _;exact BM.2 ⟨_,Bi h1,h2⟩
  ·intro _;simp[Ka]
def nV:List FuncId:=[288]
theorem O2(l:List Edg)(g:FuncId)(cs:List Da)(p:Edg->Bool)(hm:l.length<=9223372036854775807)(hp:∀x∈l,Pure C1 g (dE x::cs) (λy=>y=.bool (p x))):Pure C1 284 [Er l,.func (.func g) [] cs] (λy=>y=.bool (l.any p)):=by
 refine AT Tryz.func284 Tryz.ntmps284 nV [] ?_
 (conv=>whnf)
 (repeat' ((first|refine Ai ?_ ?_|refine Aj rfl (Ti l g cs p hm hp) ?_|refine nx ?_|refine A5 (λ_=>?_) (λ_=>?_)|exact AA)<;>conv=>whnf))
 show Da.plain _=_
 have:=YE l p
 cases h:l.any p<;>simp[Da.plain,this,h]
def jO:List FuncId:=[286]
theorem Zf(p:Pt)(e:Edg)(hm:p.labels.length<=9223372036854775807)(hme:p.edges.length<=9223372036854775807):Pure C1 285 [dE e,.ref (L3 p)] (λy=>y=.bool ((List.range p.labels.length).any λv=>ET p.edges e.a v&&ET p.edges e.b v)):=by
 have hdl:(p.labels.map dI).length=p.labels.length:=Ac _
 refine AT Tryz.func285 Tryz.ntmps285 jO [] ?_
 ((conv=>whnf);repeat' ((first|refine odw ?_|refine nx ?_|refine A5 (λ_=>?_) (λ_=>?_))<;>conv=>whnf))
 refine AN (ι:=Nat) (λi=>i<=p.labels.length/\∀v,v<i->(ET p.edges e.a v&&ET p.edges e.b v)=false) (λi=>[(8,.d (.int .i64 i)),(7,.d (.int .i64 (p.labels.map dI).length)),(2,.own 2),(1,.d (.ref (L3 p)))]) (λ_=>[(2,.cells 103 [.d (.int .i64 e.a),.d (.int .i64 e.b)])]) (λi=>p.labels.length-i) 0 (λ_=>rfl) ⟨As _,by intro v h;omega⟩ (.refl _ _) ⟨rfl,rfl,rfl,rfl,trivial⟩ ⟨rfl,trivial⟩ ?_
 rintro i ⟨hi,hne⟩
 refine BV jO [] ?_
 by_cases hil:i<p.labels.length
 ·have h1:=Rr p e.a i hme
  have h2:=Rr p e.b i hme
  rw[show decide (turn ⟨e.a,(i:Int)⟩∈p.edges)=ET p.edges e.a i from rfl]at h1
  rw[show decide (turn ⟨e.b,(i:Int)⟩∈p.edges)=ET p.edges e.b i from rfl]at h2
  cases g1:ET p.edges e.a i<;>cases g2:ET p.edges e.b i<;>rw[g1]at h1<;>rw[g2]at h2
  ·(conv=>whnf)
   (repeat' ((first|refine Ai ?_ ?_|refine Aj rfl h1 ?_|refine Aj rfl h2 ?_|refine nx ?_|refine A5 (λ_=>?_) (λ_=>?_)|exact AA)<;>conv=>whnf))
   exact⟨i+1,_,_,⟨hil,λv hv=>by rcases Bu v i with g|g;exact hne v g;rw[show v=i by omega,g1];rfl⟩,.refl _ _,⟨rfl,rfl,rfl,rfl,trivial⟩,⟨rfl,trivial⟩,by omega⟩
  ·(conv=>whnf)
   (repeat' ((first|refine Ai ?_ ?_|refine Aj rfl h1 ?_|refine Aj rfl h2 ?_|refine nx ?_|refine A5 (λ_=>?_) (λ_=>?_)|exact AA)<;>conv=>whnf))
   exact⟨i+1,_,_,⟨hil,λv hv=>by rcases Bu v i with g|g;exact hne v g;rw[show v=i by omega,g1];rfl⟩,.refl _ _,⟨rfl,rfl,rfl,rfl,trivial⟩,⟨rfl,trivial⟩,by omega⟩
  ·(conv=>whnf)
   (repeat' ((first|refine Ai ?_ ?_|refine Aj rfl h1 ?_|refine Aj rfl h2 ?_|refine nx ?_|refine A5 (λ_=>?_) (λ_=>?_)|exact AA)<;>conv=>whnf))
   exact⟨i+1,_,_,⟨hil,λv hv=>by rcases Bu v i with g|g;exact hne v g;rw[show v=i by omega,g1,g2];rfl⟩,.refl _ _,⟨rfl,rfl,rfl,rfl,trivial⟩,⟨rfl,trivial⟩,by omega⟩
  ·have e1:((List.range p.labels.length).any λv=>ET p.edges e.a v&&ET p.edges e.b v)=true:=BM.2 ⟨i,AO.2 hil,by rw[g1,g2];rfl⟩
   rw[e1]
   (conv=>whnf)
   (repeat' ((first|refine Ai ?_ ?_|refine Aj rfl h1 ?_|refine Aj rfl h2 ?_|refine nx ?_|refine A5 (λ_=>?_) (λ_=>?_)|exact AA)<;>conv=>whnf))
   exact rfl
 ·have e1:((List.range p.labels.length).any λv=>ET p.edges e.a v&&ET p.edges e.b v)=false:=by
   rw[L2]
   intro h
   obtain⟨v,hv,h⟩:=BM.1 h
   rw[hne v (by have:=AO.1 hv;omega)]at h;cases h
  rw[e1]
  ((conv=>whnf);repeat' ((first|refine odw ?_|refine nx ?_|refine A5 (λ_=>?_) (λ_=>?_))<;>conv=>whnf))
  exact rfl
def sV:List FuncId:=[284]
theorem QH(p:Pt)(hm:p.labels.length<=9223372036854775807)(hme:p.edges.length<=9223372036854775807):Pure C1 275 [L3 p] (λy=>y=.bool (Ze p)):=by
 have hc:=O2 p.edges 285 [.ref (L3 p)] (λe=>(List.range p.labels.length).any λv=>ET p.edges e.a v&&ET p.edges e.b v) hme (λe _=>Zf p e hm hme)
 refine AT Tryz.func275 Tryz.ntmps275 sV [] ?_
 (conv=>whnf)
 (repeat' ((first|refine Ai ?_ ?_|refine Bc tab rfl hc rfl ?_|refine nx ?_|refine A5 (λ_=>?_) (λ_=>?_)|exact AA)<;>conv=>whnf))
 exact rfl
def oU:List FuncId:=[283]
theorem Tn(p:Pt)(n:Int)(hm:p.labels.length<=9223372036854775807)(hme:p.edges.length<=4294967296):Pure C1 273 [L3 p,.int .i64 n] (λy=>y=.bool (bA p n)):=by
 have hdl:(p.labels.map dI).length=p.labels.length:=Ac _
 refine AT Tryz.func273 Tryz.ntmps273 oU [] ?_
 ((conv=>whnf);repeat' ((first|refine odw ?_|refine nx ?_|refine A5 (λ_=>?_) (λ_=>?_))<;>conv=>whnf))
 refine AN (ι:=Nat) (λi=>i<=p.labels.length/\∀v,v<i->((O3 p.edges (v:Int):Nat):Int)<=n) (λi=>[(9,.d (.int .i64 i)),(8,.d (.int .i64 (p.labels.map dI).length)),(2,.own 2),(1,.d (.int .i64 n))]) (λ_=>[(2,.cells 31 [.d (Bx p.labels),.d (Er p.edges)])]) (λi=>p.labels.length-i) 0 (λ_=>rfl) ⟨As _,by intro v h;omega⟩ (.refl _ _) ⟨rfl,rfl,rfl,rfl,trivial⟩ ⟨rfl,trivial⟩ ?_
 rintro i ⟨hi,hne⟩
 refine BV oU [] ?_
 by_cases hil:i<p.labels.length
 ·have h1:=SD p i hme
  by_cases hd:((O3 p.edges (i:Int):Nat):Int)<=n
  ·(conv=>whnf)
   (repeat' ((first|refine Ai ?_ ?_|refine Aj rfl h1 ?_|refine nx ?_|refine A5 (λ_=>?_) (λ_=>?_)|exact AA)<;>conv=>whnf))
   exact⟨i+1,_,_,⟨hil,λv hv=>by rcases Bu v i with g|g;exact hne v g;rw[show v=i by omega];exact hd⟩,.refl _ _,⟨rfl,rfl,rfl,rfl,trivial⟩,⟨rfl,trivial⟩,by omega⟩
  ·have e1:bA p n=false:=by
    rw[L2]
    intro h
    exact hd (of_decide_eq_true (Cr.1 h i (AO.2 hil)))
   rw[e1]
   (conv=>whnf)
   (repeat' ((first|refine Ai ?_ ?_|refine Aj rfl h1 ?_|refine nx ?_|refine A5 (λ_=>?_) (λ_=>?_)|exact AA)<;>conv=>whnf))
   exact rfl
 ·have e1:bA p n=true:=Cr.2 λv hv=>decide_eq_true (hne v (by have:=AO.1 hv;omega))
  rw[e1]
  ((conv=>whnf);repeat' ((first|refine odw ?_|refine nx ?_|refine A5 (λ_=>?_) (λ_=>?_))<;>conv=>whnf))
  exact rfl
theorem Vd(o:Opp)(l:Int):Pure C1 272 [.int .i64 l,.ref (dO o)] (λy=>y=.bool (decide (o.n<l))):=by
 refine AT Tryz.func272 Tryz.ntmps272 [] [] ?_
 ((conv=>whnf);repeat' ((first|refine odw ?_|refine nx ?_|refine A5 (λ_=>?_) (λ_=>?_))<;>conv=>whnf))
 exact rfl
theorem Vc(o:Opp)(l:Int):Pure C1 274 [.int .i64 l,.ref (dO o)] (λy=>y=.bool (decide (l≠o.n))):=by
 refine AT Tryz.func274 Tryz.ntmps274 [] [] ?_
 ((conv=>whnf);repeat' ((first|refine odw ?_|refine nx ?_|refine A5 (λ_=>?_) (λ_=>?_))<;>conv=>whnf))
 exact rfl
def sY:List FuncId:=[275,273]
theorem X3(o:Opp)(p:Pt)(hk:1<=o.kind/\o.kind<=8)(hm:p.labels.length<=8)(hme:p.edges.length<=4294967296):Pure C1 255 [dO o,L3 p] (λy=>y=.bool (Co o p)):=by
 have hdl:(p.labels.map dI).length=p.labels.length:=Ac _
 have hde:(p.edges.map dE).length=p.edges.length:=Ac _
 have hc1:=GG p.labels 272 [.ref (dO o)] (λl=>decide (o.n<l)) (λl _=>Vd o l)
 have hc2:=GG p.labels 274 [.ref (dO o)] (λl=>decide (l≠o.n)) (λl _=>Vc o l)
 have htr:=QH p (by omega) (by omega)
 have hdg:=Tn p o.n (by omega) hme
 have hvl:=IT p.labels
 have hk8:o.kind=1\/o.kind=2\/o.kind=3\/o.kind=4\/o.kind=5\/o.kind=6\/o.kind=7\/o.kind=8:=by omega
 refine AT Tryz.func255 Tryz.ntmps255 sY [] ?_
 rcases hk8 with h|h|h|h|h|h|h|h
 ·have eh:Co o p=decide (p.edges.length=p.labels.length*(p.labels.length-1)/2):=by unfold Co;simp[h]
  rw[eh]
  have hmul:∀N:Nat,N<=8->IntKind.i64.wrap ((N:Int)*((N:Int)-1))=((N*(N-1):Nat):Int):=by
   intro N hN
   have:N=0\/N=1\/N=2\/N=3\/N=4\/N=5\/N=6\/N=7\/N=8:=by omega
   rcases this with rfl|rfl|rfl|rfl|rfl|rfl|rfl|rfl|rfl<;>decide
  have hm2:=hmul (p.labels.map dI).length (by omega)
  have hdiv:∀N:Nat,N<=8->IntKind.i64.wrap (((N*(N-1):Nat):Int).tdiv 2)=((N*(N-1)/2:Nat):Int):=by
   intro N hN
   have:N=0\/N=1\/N=2\/N=3\/N=4\/N=5\/N=6\/N=7\/N=8:=by omega
   rcases this with rfl|rfl|rfl|rfl|rfl|rfl|rfl|rfl|rfl<;>decide
  have hm3:=hdiv (p.labels.map dI).length (by omega)
  ((conv=>whnf);repeat' ((first|refine odw ?_|refine nx ?_|refine A5 (λ_=>?_) (λ_=>?_))<;>conv=>whnf))
  refine⟨_,hm2,?_⟩
  ((conv=>whnf);repeat' ((first|refine odw ?_|refine nx ?_|refine A5 (λ_=>?_) (λ_=>?_))<;>conv=>whnf))
  refine⟨_,hm3,?_⟩
  ((conv=>whnf);repeat' ((first|refine odw ?_|refine nx ?_|refine A5 (λ_=>?_) (λ_=>?_))<;>conv=>whnf))
  exact congrArg Da.bool (by rw[Cg,decide_eq_true_eq,decide_eq_true_eq,hde,hdl];exact Int.ofNat_inj)
 ·have eh:Co o p=!p.labels.any λl=>decide (o.n<l):=by unfold Co;simp[h]
  rw[eh]
  (conv=>whnf)
  (repeat' ((first|refine Ai ?_ ?_|refine Bc tab rfl hc1 rfl ?_|refine nx ?_|refine A5 (λ_=>?_) (λ_=>?_)|exact AA)<;>conv=>whnf))
  exact rfl
 ·have eh:Co o p=bA p o.n:=by unfold Co;simp[h]
  rw[eh]
  (conv=>whnf)
  (repeat' ((first|refine Ai ?_ ?_|refine Aj rfl hdg ?_|refine nx ?_|refine A5 (λ_=>?_) (λ_=>?_)|exact AA)<;>conv=>whnf))
  exact rfl
 ·have eh:Co o p=decide ((p.labels.length:Int)<=o.n):=by unfold Co;simp[h]
  rw[eh,<-hdl]
  ((conv=>whnf);repeat' ((first|refine odw ?_|refine nx ?_|refine A5 (λ_=>?_) (λ_=>?_))<;>conv=>whnf))
  exact rfl
 ·have eh:Co o p=decide ((p.edges.length:Int)<=o.n):=by unfold Co;simp[h]
  rw[eh,<-hde]
  ((conv=>whnf);repeat' ((first|refine odw ?_|refine nx ?_|refine A5 (λ_=>?_) (λ_=>?_))<;>conv=>whnf))
  exact rfl
 ·have eh:Co o p=decide ((Dx p.labels).length=p.labels.length):=by unfold Co;simp[h]
  rw[eh]
  (conv=>whnf)
  (repeat' ((first|refine Ai ?_ ?_|refine Aj rfl hvl ?_|refine nx ?_|refine A5 (λ_=>?_) (λ_=>?_)|exact AA)<;>conv=>whnf))
  refine Ee 300 rfl rfl (NS p.labels (by omega)) ?_;rintro ds rfl
  (conv=>whnf)
  refine JC rfl rfl (Ou (p.labels.mergeSort λx y=>decide (x<=y)) (by rw[ML];omega)) ?_;rintro ds rfl
  ((conv=>whnf);repeat' ((first|refine odw ?_|refine nx ?_|refine A5 (λ_=>?_) (λ_=>?_))<;>conv=>whnf))
  exact congrArg Da.bool (by rw[Cg,decide_eq_true_eq,decide_eq_true_eq,Ac,Ac];exact Int.ofNat_inj)
 ·have eh:Co o p=!p.labels.any λl=>decide (l≠o.n):=by unfold Co;simp[h]
  rw[eh]
  (conv=>whnf)
  (repeat' ((first|refine Ai ?_ ?_|refine Bc tab rfl hc2 rfl ?_|refine nx ?_|refine A5 (λ_=>?_) (λ_=>?_)|exact AA)<;>conv=>whnf))
  exact rfl
 ·have eh:Co o p=!Ze p:=by unfold Co;simp[h]
  rw[eh]
  (conv=>whnf)
  (repeat' ((first|refine Ai ?_ ?_|refine Aj rfl htr ?_|refine nx ?_|refine A5 (λ_=>?_) (λ_=>?_)|exact AA)<;>conv=>whnf))
  exact rfl
theorem bI {o:Opp}(h:DR o=0):1<=o.kind/\o.kind<=8:=by
 unfold DR at h
 apply Ik
 intro hn
 rw[if_pos (by omega)]at h
 omega
theorem LW {p:Pt}(h:Hj p=none):p.labels.length<=8/\p.edges.length<=64:=by
 obtain⟨h1,h2,h3⟩:=H5 h
 have h8:p.labels.length<=8:=by
  apply Ik
  intro hn
  unfold Jr at h1
  rw[if_pos (by omega)]at h1
  cases h1
 have:=Nk h3.nodup (m:=jY p.labels.length) λe he=>JT.2 (h2 e he)
 rw[SA]at this
 have hm:p.labels.length*(p.labels.length-1)<=8*8:=D2 h8 (by omega)
 omega
def rG:List FuncId:=[173,13,255]
theorem Zj(o:Opp)(p:Pt)(hc:DR o=0)(hp:Hj p=none):Pure C1 235 [dO o,L3 p] (λy=>y=.bool (Co o p)):=by
 have hs:=LW hp
 have hr:=LY o 0
 unfold Iv at hr
 rw[if_pos hc]at hr
 have hpr:=GS p (by omega) (by omega)
 rw[Jd hp]at hpr
 have hh:=X3 o p (bI hc) hs.1 (by omega)
 refine AT Tryz.func235 Tryz.ntmps235 rG [] ?_
 (conv=>whnf)
 (repeat' ((first|refine Ai ?_ ?_|refine Bc tab rfl hr rfl ?_|refine Bc tab rfl hpr rfl ?_|refine Bc tab rfl hh rfl ?_|refine nx ?_|refine A5 (λ_=>?_) (λ_=>?_)|exact AA)<;>conv=>whnf))
 exact rfl
def rI:List FuncId:=[235]
theorem Vp(o:Opp)(p:Pt)(hc:DR o=0)(hp:Hj p=none):Pure C1 234 [dO o,.ref (L3 p)] (λy=>y=.bool (!Co o p)):=by
 have ht:=Zj o p hc hp
 refine AT Tryz.func234 Tryz.ntmps234 rI [] ?_
 (conv=>whnf)
 (repeat' ((first|refine Ai ?_ ?_|refine Bc tab rfl ht rfl ?_|refine nx ?_|refine A5 (λ_=>?_) (λ_=>?_)|exact AA)<;>conv=>whnf))
 exact rfl
theorem SI(l:List Opp)(g:FuncId)(cs:List Da)(p:Opp->Bool)(hm:l.length<=9223372036854775807)(hp:∀x∈l,Pure C1 g (dO x::cs) (λy=>y=.bool (p x))):Pure C1 233 [N6 l,.func (.func g) [] cs] (λy=>y=.int .i64 (Ka (l.findIdx? p))):=by
 have hl:(l.map dO).length=l.length:=Ac _
 refine AT Tryz.func233 Tryz.ntmps233 [] [] ?_
 ((conv=>whnf);repeat' ((first|refine odw ?_|refine nx ?_|refine A5 (λ_=>?_) (λ_=>?_))<;>conv=>whnf))
 refine AN (ι:=Nat) (λi=>i<=l.length/\∀y∈l.take i,p y=false) (λi=>[(8,.d (.int .i64 i)),(7,.d (.int .i64 (l.map dO).length)),(1,.d (.func (.func g) [] cs)),(0,.d (N6 l))]) (λ_=>[]) (λi=>l.length-i) 0 (λ_=>rfl) ⟨As _,by simp⟩ (.refl _ _) ⟨rfl,rfl,rfl,rfl,trivial⟩ trivial ?_
 rintro i ⟨hi,hne⟩
 refine BV [] [] ?_
 by_cases hlt:i<l.length
 ·have hx:=Ab hlt
  generalize l[i]=y at hx
  have hxd:(l.map dO)[i]? =some (.agg [.int .i64 y.kind,.int .i64 y.n]):=by rw[Af,hx];rfl
  have hpy:=hp y (AD hx)
  cases hy:p y with
  |
   true=>
   rw[hy]at hpy
   rw[Tc hx hy hne]
   (conv=>whnf)
   (repeat' ((first|refine Ai ?_ ?_|refine AM hxd rfl ?_|refine Aj (Em _ _) hpy ?_|refine nx ?_|refine A5 (λ_=>?_) (λ_=>?_)|exact AA)<;>conv=>whnf))
   exact rfl
  |
   false=>
   rw[hy]at hpy
   (conv=>whnf)
   (repeat' ((first|refine Ai ?_ ?_|refine AM hxd rfl ?_|refine Aj (Em _ _) hpy ?_|refine nx ?_|refine A5 (λ_=>?_) (λ_=>?_)|exact AA)<;>conv=>whnf))
   refine⟨i+1,_,_,⟨hlt,?_⟩,.refl _ _,⟨rfl,rfl,rfl,rfl,trivial⟩,trivial,by omega⟩
   intro z hz
   rw[A2,hx]at hz
   rcases Ag.1 hz with hz|hz
   ·exact hne z hz
   ·simp at hz;subst hz;exact hy
 ·have hii:l.take i=l:=Ao (by omega)
  rw[hii]at hne
  rw[N1 hne]
  ((conv=>whnf);repeat' ((first|refine odw ?_|refine nx ?_|refine A5 (λ_=>?_) (λ_=>?_))<;>conv=>whnf))
  exact rfl
def sZ:List FuncId:=[233]
theorem XA(l:List Opp)(p:Pt)(h16:l.length<=16)(hok:∀o∈l,DR o=0)(hp:Hj p=none):Pure C1 189 [N6 l,L3 p] (λy=>y=.int .i64 (Ka (l.findIdx? λo=>!Co o p))):=by
 have hi:=SI l 234 [.ref (L3 p)] (λo=>!Co o p) (by omega) (λo ho=>Vp o p (hok o ho) hp)
 refine AT Tryz.func189 Tryz.ntmps189 sZ [] ?_
 (conv=>whnf)
 (repeat' ((first|refine Ai ?_ ?_|refine Bc tab rfl hi rfl ?_|refine nx ?_|refine A5 (λ_=>?_) (λ_=>?_)|exact AA)<;>conv=>whnf))
 exact rfl
def sX:List FuncId:=[116,13,189]
theorem PW(l:List Opp)(p:Pt)(h16:l.length<=16)(hok:∀o∈l,DR o=0)(hp:Hj p=none):Pure C1 124 [N6 l,L3 p] (λy=>y=.bool (l.all λo=>Co o p)):=by
 have hs:=LW hp
 have hr:=LX l h16 hok
 have hpr:=GS p (by omega) (by omega)
 rw[Jd hp]at hpr
 have hf:=XA l p h16 hok hp
 have hia:=YE l λo=>!Co o p
 refine AT Tryz.func124 Tryz.ntmps124 sX [] ?_
 (conv=>whnf)
 (repeat' ((first|refine Ai ?_ ?_|refine Bc tab rfl hr rfl ?_|refine Bc tab rfl hpr rfl ?_|refine Bc tab rfl hf rfl ?_|refine nx ?_|refine A5 (λ_=>?_) (λ_=>?_)|exact AA)<;>conv=>whnf))
 refine congrArg Da.bool ?_
 rw[Cg,decide_eq_true_eq,<-Int.not_le,hia]
 simp
end Go.Proofs.YtjejpdfldmempaaGreatDoor
end
section
namespace Go.Proofs.YtjejpdfldmempaaGreatDoor
open Go.Gr
def pick:List Int->Nat->List Int
 |[],_=>[]
 |x::s,m=>(if m % 2=1 then[x]else[])++pick s (m/2)
theorem P8:∀{s p:List Int},p.Sublist s->∃m,m<2^s.length/\pick s m=p
 |_,_,.slnil=>⟨0,by simp,rfl⟩
 |
  _,_,.cons x h=>by
  obtain⟨m,hm,hp⟩:=P8 h
  refine⟨2*m,?_,?_⟩
  ·rw[Ax,Nat.pow_succ];omega
  ·unfold pick
   rw[if_neg (by omega),show 2*m/2=m by omega];exact hp
 |
  _,_,.cons_cons x h=>by
  obtain⟨m,hm,hp⟩:=P8 h
  refine⟨2*m+1,?_,?_⟩
  ·rw[Ax,Nat.pow_succ];omega
  ·unfold pick
   rw[if_pos (by omega),show(2*m+1)/2=m by omega,hp];rfl
theorem eL {s p:List Int}(hs:s.Pairwise (· < ·))(hp:p.Pairwise (· < ·))(h:∀x∈p,x∈s):p.Sublist s:=by
 have:p=s.filter (λx=>decide (x∈p)):=LO hp (hs.sublist D7) λx=>by
  rw[A3,decide_eq_true_eq];exact⟨λhx=>⟨h x hx,hx⟩,λhx=>hx.2⟩
 rw[this];exact D7
def IJ(G:Gr)(l:List Int):List (List Int):=(HO G l).map λx=>l++[x]
def Z4(G:Gr):Nat->List (List Int)
 |0=>(Gk G.labels.length).map λv=>[v]
 |k+1=>(Z4 G k).flatMap (IJ G)
theorem RX(G:Gr)(v:Int):Dk G [v]=E0 G v:=by
 have:=GH G [] v
 rw[CN]at this
 rw[this]
 have h1:Dk G []=true:=IC λi v h=>by simp at h
 rw[h1,Bool.true_and];rfl
theorem PN {G:Gr}(hG:G.Ok):∀(k:Nat) {x:List Int},x∈Z4 G k↔Dk G x=true/\x.length=k+1
 |
  0,x=>by
  unfold Z4
  rw[Aq]
  constructor
  ·rintro⟨v,hv,rfl⟩
   rw[RX]
   have:=H8.1 hv
   exact⟨Mr this.1 this.2,rfl⟩
  ·rintro⟨h1,h2⟩
   obtain⟨v,rfl⟩:=BS.1 h2
   rw[RX]at h1
   refine⟨v,H8.2 ?_,rfl⟩
   unfold E0 at h1
   simpa using h1
 |
  k+1,x=>by
  unfold Z4
  rw[A9]
  constructor
  ·rintro⟨l,hl,hx⟩
   obtain⟨h1,h2⟩:=(PN hG k).1 hl
   unfold IJ at hx
   obtain⟨v,hv,rfl⟩:=Aq.1 hx
   have:=(Mu hG).1 hv
   rw[GH,this.1,this.2]
   exact⟨rfl,by rw[Ae,h2];rfl⟩
  ·rintro⟨h1,h2⟩
   have hne:x≠[]:=λe=>by rw[e]at h2;simp at h2
   have hx:=List.dropLast_concat_getLast hne
   generalize x.getLast hne=v at hx
   generalize x.dropLast=l at hx
   subst hx
   rw[GH,Ah]at h1
   rw[Ae,CB]at h2
   refine⟨l,(PN hG k).2 ⟨h1.1,by omega⟩,?_⟩
   unfold IJ
   exact Aq.2 ⟨v,(Mu hG).2 h1,rfl⟩
theorem Xk(G:Gr)(x:List Int):PQ G (Dx x)=PQ G x:=UK (BT x).2
theorem Xl {G:Gr} {l:List Int}(h:BK G l=true) {x:Int}(hx:x∈l):E0 G x=true:=by
 obtain⟨i,hi,rfl⟩:=Cu.1 hx
 exact(I3.1 (KZ h (Ab hi))).1
end Go.Proofs.YtjejpdfldmempaaGreatDoor
namespace Go.Proofs.YtjejpdfldmempaaGreatDoor
open Go.Gr
def Px(G:Gr)(l:List Int)(k:Nat):List Int:=(Gk k).filter λv=>decide (l=[])||candB G l v
where candB (G:Gr) (l:List Int) (v:Int):Bool:=!decide (v∈l)&&l.any (Gd G.edges v)
theorem eK {G:Gr}(hG:G.Ok)(l:List Int):Px G l G.labels.length=F0 G l:=by
 refine LO ((JG _).sublist D7) (R0 G l) λx=>?_
 unfold Px
 rw[A3,H8]
 by_cases hl:l=[]
 ·unfold F0
  rw[if_pos hl,H8]
  simp[hl]
 ·rw[U5 hl]
  unfold Px.candB
  simp only[hl,decide_false,Bool.false_or,Ah,BC,decide_eq_false_iff_not,OM]
  constructor
  ·rintro⟨h1,h2,u,hu,h3⟩
   have:=(Qw hG h3).1
   unfold E0 at this
   exact⟨⟨u,hu,(Nt hG).2 ⟨by simpa using this,h1.1,h1.2,by rw[G1];exact h3⟩⟩,h2⟩
  ·rintro⟨⟨u,hu,h3⟩,h2⟩
   obtain⟨g1,g2,g3,g4⟩:=(Nt hG).1 h3
   exact⟨⟨g2,g3⟩,h2,u,hu,by rw[G1];exact g4⟩
end Go.Proofs.YtjejpdfldmempaaGreatDoor
end
section
namespace Go.Proofs.YtjejpdfldmempaaGreatDoor
open Go.Gr
def MF:List Int->List Int->Bool
 |[],[]=>false
 |[],_::_=>true
 |_::_,[]=>false
 |x::a,y::b=>decide (x<y)||(decide (x=y)&&MF a b)
theorem VH:∀{a b:List Int},a.length=b.length->MF a b=true->∀(x y:List Int),MF (a++x) (b++y)=true
 |[],[],_,h,_,_=>by simp[MF]at h
 |[],_::_,e,_,_,_=>by simp at e
 |_::_,[],e,_,_,_=>by simp at e
 |
  p::a,q::b,e,h,x,y=>by
  simp only[MF,Bo,Di,Ah,decide_eq_true_eq]at h⊢
  rcases h with h|⟨h1,h2⟩
  ·exact .inl h
  ·exact .inr ⟨h1,VH (by simpa using e) h2 x y⟩
theorem VI:∀(a:List Int) {x y:Int},x<y->MF (a++[x]) (a++[y])=true
 |[],x,y,h=>by simp[MF,h]
 |
  p::a,x,y,h=>by
  simp only[MF,Bo,Di,Ah,decide_eq_true_eq]
  exact .inr ⟨trivial,VI a h⟩
def Fh(G:Gr)(ps:List Int->Bool)(l:List Int):List (List Int):=(IJ G l).filter ps
def Bv(G:Gr)(ps:List Int->Bool):Nat->List (List Int)
 |0=>(Z4 G 0).filter ps
 |k+1=>(Bv G ps k).flatMap (Fh G ps)
def XT(ps:List Int->Bool)(l:List Int):Bool:=(List.range l.length).all λn=>ps (l.take (n+1))
theorem Sc(ps:List Int->Bool)(l:List Int)(v:Int):XT ps (l++[v])=(XT ps l&&ps (l++[v])):=by
 unfold XT
 rw[Ae,CB,Cn,List.all_append,List.all_cons,List.all_nil,Bool.and_true]
 congr 1
 ·rw[Cg,Cr,Cr]
  have h:∀n∈List.range l.length,(l++[v]).take (n+1)=l.take (n+1):=λn hn=>Br (by have:=AO.1 hn;omega)
  exact⟨λg n hn=>by rw[<-h n hn];exact g n hn,λg n hn=>by rw[h n hn];exact g n hn⟩
 ·rw[Ao (by simp)]
theorem Fv {G:Gr}(hG:G.Ok) {ps:List Int->Bool}:∀(k:Nat) {x:List Int},x∈Bv G ps k↔Dk G x=true/\x.length=k+1/\XT ps x=true
 |
  0,x=>by
  unfold Bv
  rw[A3,PN hG]
  constructor
  ·rintro⟨⟨h1,h2⟩,h3⟩
   obtain⟨v,rfl⟩:=BS.1 h2
   exact⟨h1,h2,by simpa[XT]using h3⟩
  ·rintro⟨h1,h2,h3⟩
   obtain⟨v,rfl⟩:=BS.1 h2
   exact⟨⟨h1,h2⟩,by simpa[XT]using h3⟩
 |
  k+1,x=>by
  unfold Bv
  rw[A9]
  unfold Fh IJ
  constructor
  ·rintro⟨l,hl,hx⟩
   obtain⟨h1,h2,h3⟩:=(Fv hG k).1 hl
   obtain⟨hx,hp⟩:=A3.1 hx
   obtain⟨v,hv,rfl⟩:=Aq.1 hx
   have:=(Mu hG).1 hv
   rw[GH,this.1,this.2,Sc,h3,hp]
   exact⟨rfl,by rw[Ae,h2];rfl,rfl⟩
  ·rintro⟨h1,h2,h3⟩
   have hne:x≠[]:=λe=>by rw[e]at h2;simp at h2
   have hx:=List.dropLast_concat_getLast hne
   generalize x.getLast hne=v at hx
   generalize x.dropLast=l at hx
   subst hx
   rw[GH,Ah]at h1
   rw[Sc,Ah]at h3
   rw[Ae,CB]at h2
   exact⟨l,(Fv hG k).2 ⟨h1.1,by omega,h3.1⟩,A3.2 ⟨Aq.2 ⟨v,(Mu hG).2 h1,rfl⟩,h3.2⟩⟩
theorem aO(G:Gr)(l:List Int):(HO G l).Pairwise (· < ·):=by
 unfold HO
 split
 ·exact(R0 G l).sublist D7
 ·exact .nil
theorem X4(G:Gr)(ps:List Int->Bool)(l:List Int):(Fh G ps l).Pairwise λa b=>MF a b=true:=by
 unfold Fh IJ
 refine nT D7 ?_
 rw[BL]
 exact(aO G l).imp λh=>VI l h
theorem Rm {G:Gr}(hG:G.Ok)(ps:List Int->Bool):∀k,(Bv G ps k).Pairwise λa b=>MF a b=true
 |
  0=>by
  unfold Bv Z4
  refine nT D7 ?_
  rw[BL]
  exact(JG _).imp λh=>by simp[MF,h]
 |
  k+1=>by
  unfold Bv
  rw[List.pairwise_flatMap]
  refine⟨λl _=>X4 G ps l,?_⟩
  refine XZ ?_ (Rm hG ps k)
  intro a b ha hb hab x hx y hy
  unfold Fh IJ at hx hy
  obtain⟨v,_,rfl⟩:=Aq.1 (A3.1 hx).1
  obtain⟨u,_,rfl⟩:=Aq.1 (A3.1 hy).1
  exact VH (by rw[((Fv hG k).1 ha).2.1,((Fv hG k).1 hb).2.1]) hab _ _
theorem qX {a b:List Int}(h:MF a b=true):a≠b:=by
 rintro rfl
 induction a with
 |nil=>simp[MF]at h
 |cons x a ih=>simp[MF]at h;exact ih h
theorem Z7 {G:Gr}(hG:G.Ok) {ps:List Int->Bool} {k:Nat} {a b:List Int}(ha:a∈Bv G ps k)(hb:b∈Bv G ps k)(e:Dx a=Dx b):a=b:=by
 have h1:=RB hG ((Fv hG k).1 ha).1
 have h2:=RB hG ((Fv hG k).1 hb).1
 rw[<-Xk]at h1 h2
 rw[e,h2]at h1
 exact(BG h1).symm
theorem gF {α:Type}:∀{l m:List α},l.Nodup->(∀x∈l,x∈m)->l.length<=m.length
 |[],_,_,_=>As _
 |
  x::l,m,hn,hs=>by
  obtain⟨a,b,rfl⟩:=List.append_of_mem (hs x Gf)
  rw[Ce]at hn
  have:=gF (l:=l) (m:=a++b) hn.2 λy hy=>by
   have h:=hs y (AB _ hy)
   rw[Ag,Ar]at h
   rw[Ag]
   rcases h with h|h|h
   ·exact .inl h
   ·exact absurd (h▸hy) hn.1
   ·exact .inr h
  rw[Ae]at this
  rw[Ax,Ae,Ax]
  omega
theorem Pw {G:Gr}(hG:G.Ok)(ps:List Int->Bool)(k:Nat):(Bv G ps k).length<=2^G.labels.length:=by
 have hs:((Bv G ps k).map Dx).Nodup:=by
  unfold List.Nodup
  rw[BL]
  refine XZ ?_ (Rm hG ps k)
  exactλha hb hab e=>qX hab (Z7 hG ha hb e)
 have hl:=gF hs (m:=(List.range (2^G.labels.length)).map (pick (Gk G.labels.length))) λp hp=>by
  obtain⟨x,hx,rfl⟩:=Aq.1 hp
  have hc:=((Fv hG k).1 hx).1
  have hlk:=Gu hG hc
  have hsub:=eL (JG G.labels.length) (BT x).1 λy hy=>by
   have:=Xl hlk ((BT x).2 y|>.1 hy)
   unfold E0 at this
   exact H8.2 (by simpa using this)
  obtain⟨m,hm,he⟩:=P8 hsub
  rw[Ho]at hm
  exact Aq.2 ⟨m,AO.2 hm,he⟩
 simpa using hl
theorem KQ {G:Gr} {ps:List Int->Bool} {k:Nat}(h:Bv G ps k=[]):∀m,k<=m->Bv G ps m=[]:=by
 intro m hm
 induction m with
 |zero=>rw[show k=0 by omega]at h;exact h
 |
  succ m ih=>
  rcases Bu m k with hk|hk
  ·rw[show m+1=k by omega];exact h
  ·unfold Bv;rw[ih hk];rfl
def DI(G:Gr)(ps:List Int->Bool):Nat->List (List (List Int))
 |0=>[]
 |d+1=>if Bv G ps d=[]then DI G ps d else DI G ps d++[Bv G ps d]
theorem FC {G:Gr} {ps:List Int->Bool}:∀{d:Nat},(∀k,k<d->Bv G ps k≠[])->DI G ps d=(List.range d).map (Bv G ps)
 |0,_=>rfl
 |
  d+1,h=>by
  unfold DI
  rw[if_neg (h d (by omega)),FC λk hk=>h k (by omega),Cn,AF];rfl
theorem Ps {G:Gr} {ps:List Int->Bool} {k:Nat}(h:Bv G ps k=[]):∀{d:Nat},k<=d->DI G ps d=DI G ps k:=by
 intro d hd
 induction d with
 |zero=>rw[show k=0 by omega]
 |
  succ d ih=>
  rcases Bu d k with hk|hk
  ·rw[show d+1=k by omega]
  ·conv=>lhs;unfold DI
   rw[if_pos (KQ h d hk),ih hk]
theorem Pu(G:Gr)(ps:List Int->Bool)(d:Nat):∃m,m<=d/\DI G ps d=(List.range m).map (Bv G ps)/\(∀k,k<m->Bv G ps k≠[])/\(m<d->Bv G ps m=[]):=by
 by_cases h:∃k,k<d/\Bv G ps k=[]
 ·obtain⟨k,hk,he⟩:=h
  let q:Nat->Bool:=λk=>decide (Bv G ps k=[])
  have hx:∃m,Bv G ps m=[]/\m<=k/\∀j,j<m->Bv G ps j≠[]:=by
   clear hk
   induction k with
   |zero=>exact⟨0,he,Av _,λj hj=>absurd hj (Nat.not_lt_zero _)⟩
   |
    succ k ih=>
    by_cases hz:∃j,j<=k/\Bv G ps j=[]
    ·obtain⟨j,hj,hz⟩:=hz
     have hz':=KQ hz k hj
     obtain⟨m,h1,h2,h3⟩:=ih hz'
     exact⟨m,h1,by omega,h3⟩
    ·exact⟨k+1,he,Av _,λj hj e=>hz ⟨j,by omega,e⟩⟩
  obtain⟨m,h1,h2,h3⟩:=hx
  exact⟨m,by omega,by rw[Ps h1 (show m<=d by omega),FC h3],h3,λ_=>h1⟩
 ·exact⟨d,Av _,FC λk hk e=>h ⟨k,hk,e⟩,λk hk e=>h ⟨k,hk,e⟩,λh=>absurd h (Nat.lt_irrefl _)⟩
end Go.Proofs.YtjejpdfldmempaaGreatDoor
end
section
namespace Go.Proofs.YtjejpdfldmempaaGreatDoor
open Go.Gr
def Ck(G:Gr)(e:Bool):Gr:=if e=true then Gq G else G
theorem IS {G:Gr}(hG:G.Ok)(hn:G.labels.length<=10)(hm:G.edges.length<=30)(e:Bool):(Ck G e).Ok:=by
 unfold Ck
 split
 ·have:=Oa hG hn hm
  exact mA hG (by omega) (by omega)
 ·exact hG
theorem YZ(G:Gr)(e:Bool):(Ck G e).labels.length=if e=true then G.edges.length else G.labels.length:=by
 unfold Ck
 cases e with
 |true=>rw[if_pos rfl,if_pos rfl];exact Bm
 |false=>rfl
theorem YY {G:Gr}(hG:G.Ok)(hn:G.labels.length<=10)(hm:G.edges.length<=30):UI G=.tuple [dG (Ck G true),.nili]:=Xi hG hn hm
def Ny(l:List Opp)(p:Pt):Bool:=(Hj p).isNone&&l.all λo=>Co o p
def KS(G:Gr)(e:Bool)(l:List Opp)(x:List Int):Bool:=BK (Ck G e) x&&if e=true then decide ((BN (BJ G.edges x)).length<=8)&&Ny l (Qx G x)else decide (x.length<=8)&&Ny l (NP G x)
def Hf(G:Gr)(ps:List Int->Bool)(m:Nat):Nat:=((List.range m).map λk=>(Bv G ps k).length).sum
theorem Hs(G:Gr)(ps:List Int->Bool)(m:Nat):Hf G ps (m+1)=Hf G ps m+(Bv G ps m).length:=by
 unfold Hf
 rw[Cn,AF,List.sum_append];simp
theorem Yi {G:Gr}(hG:G.Ok)(ps:List Int->Bool):∀m,Hf G ps m<=m*2^G.labels.length
 |0=>by simp[Hf]
 |
  m+1=>by
  rw[Hs,Nat.succ_mul]
  have:=Yi hG ps m
  have:=Pw hG ps m
  omega
theorem Zr(G:Gr)(ps:List Int->Bool) {m d:Nat}(h:m<=d):Hf G ps m<=Hf G ps d:=by
 induction d with
 |zero=>rw[show m=0 by omega];exact Av _
 |
  succ d ih=>
  rw[Hs]
  rcases Bu d m with g|g
  ·rw[show m=d+1 by omega,Hs];exact Av _
  ·have:=ih g;omega
theorem TF {G:Gr}(hG:G.Ok)(ps:List Int->Bool)(hn:G.labels.length<=8) {m:Nat}(hm:m<=8):Hf G ps m<=2048:=by
 have h1:=Yi hG ps m
 have h2:2^G.labels.length<=256:=Cv (Nat.pow_le_pow_right (by decide) hn) (by decide)
 have h3:m*2^G.labels.length<=8*256:=D2 hm h2
 omega
theorem lJ {G:Gr} {ps:List Int->Bool} {d k:Nat} {R:List (List Int)}(h:(DI G ps d)[k]? =some R):R=Bv G ps k:=by
 obtain⟨m,_,e,_,_⟩:=Pu G ps d
 rw[e,Af]at h
 rcases Bu k m with g|g
 ·rw[Ep g]at h;exact(BG h).symm
 ·rw[BB (by rw[CX];exact g)]at h;cases h
theorem eD(G:Gr)(ps:List Int->Bool)(d:Nat):(DI G ps d).length<=d:=by
 obtain⟨m,h,e,_,_⟩:=Pu G ps d
 rw[e,Ac,CX];exact h
theorem aJ {l:List Opp} {p:Pt} {n:Nat}(hp:PtOk n p)(hl:∀o∈l,DR o=0):(l.all λo=>P2 o p)=l.all λo=>Co o p:=by
 induction l with
 |nil=>rfl
 |
  cons o l ih=>
  rw[List.all_cons,List.all_cons,ih λx hx=>hl x (AB _ hx)]
  have h0:=hl o Gf
  unfold DR at h0
  rw[aN hp]
  ·apply Ik;intro h;rw[if_pos (.inl (by omega))]at h0;omega
  ·apply Ik;intro h;rw[if_pos (.inr (by omega))]at h0;omega
end Go.Proofs.YtjejpdfldmempaaGreatDoor
end
section
namespace Go.Proofs.YtjejpdfldmempaaGreatDoor
open Go.Sx Go.RowKit Go.Reg Go.Gr
set_option maxRecDepth 100000
def dJ(G:Gr)(e:Bool)(d:Int)(l:List Opp):Da:=.agg [dG G,.bool e,.int .i64 d,N6 l]
structure JobOk(G:Gr)(e:Bool)(d:Int)(l:List Opp):Prop where
 ok:G.Ok
 n:G.labels.length<=7
 m:G.edges.length<=30
 me:e=true->G.edges.length<=8
 d:1<=d/\d<=8
 l16:l.length<=16
 lok:∀o∈l,DR o=0
theorem mE {n:Nat} {p:Pt}(hp:PtOk n p)(h8:n<=8)(hl:∀x∈p.labels,0<=x/\x<=255):Hj p=none:=by
 unfold Hj
 have h1:Jr p.labels=none:=by
  refine SU (by rw[hp.len];omega) λk y hk hy=>?_
  have:=hl y (AD hy)
  unfold Bt
  simp;omega
 rw[h1]
 refine J5 λi hi=>?_
 have hx:=Ab hi
 have he:=hp.edge _ (Bi hi)
 generalize hE:p.edges[i]=e at hx he
 unfold Tm
 rw[hx]
 simp only
 rw[Option.map_eq_none_iff]
 unfold Tl
 rw[if_neg (by rw[hp.len];simp;omega),if_neg (by omega)]
 by_cases h0:i=0
 ·rw[if_pos h0]
 ·rw[if_neg h0]
  have hj:i-1<p.edges.length:=by omega
  rw[Ab hj]
  simp only
  rw[if_pos]
  have:=AI.1 hp.strict (i-1) i hj hi (by omega)
  rwa [hE]at this
section
variable {G:Gr} {e:Bool} {d:Int} {l:List Opp}
def pT:List (Nat×Plan):=[]
def oV:List FuncId:=[116,117]
theorem KK(h:JobOk G e d l):Pure C1 75 [dJ G e d l] (λy=>y=.tuple [dG (Ck G e),.nili]):=by
 have hp:=LX l h.l16 h.lok
 have hlo:=gN G h.ok (by have:=h.m;omega)
 rw[YY h.ok (by have:=h.n;omega) h.m]at hlo
 have h1:=h.d.1
 have h2:=h.d.2
 refine AT Tryz.func75 Tryz.ntmps75 oV [] ?_
 cases e with
 |
  true=>
  (conv=>whnf)
  (repeat' ((first|refine Ai ?_ ?_|refine Aj rfl hp ?_|refine Aj rfl hlo ?_|refine nx ?_|refine A5 (λ_=>?_) (λ_=>?_)|exact AA)<;>conv=>whnf))
  exact rfl
 |
  false=>
  (conv=>whnf)
  (repeat' ((first|refine Ai ?_ ?_|refine Aj rfl hp ?_|refine Aj rfl hlo ?_|refine nx ?_|refine A5 (λ_=>?_) (λ_=>?_)|exact AA)<;>conv=>whnf))
  exact rfl
def pU:List (Nat×Plan):=[]
def tF:List FuncId:=[]
theorem UH(h:JobOk G e d l):Pure C1 25 [dJ G e d l] (λy=>y=.nili):=by
 have hw:=KK h
 refine AT Tryz.func25 Tryz.ntmps25 [] [] ?_
 (conv=>whnf)
 (repeat' ((first|refine Ai ?_ ?_|refine Aj rfl hw ?_|refine nx ?_|refine A5 (λ_=>?_) (λ_=>?_)|exact AA)<;>conv=>whnf))
 exact rfl
theorem US(x:Int)(X:List Int)(hl:(x::X).length<=2000000000):Pure C1 60 [Bx (x::X)] (λy=>y=Bx (x::X)):=by
 have hlm:((x::X).map dI).length=(x::X).length:=Ac _
 refine AT Tryz.func60 Tryz.ntmps60 Tz P7 ?_
 have hlm2:(([]:List Da).length+((x::X).map dI).length)<=4294967296:=by rw[hlm];simp at hl⊢;omega
 ((conv=>whnf);repeat' ((first|refine odw ?_|refine nx ?_|refine A5 (λ_=>?_) (λ_=>?_))<;>conv=>whnf))
 all_goals first|exact rfl|(refine GW hlm2 ?_;((conv=>whnf);repeat' ((first|refine odw ?_|refine nx ?_|refine A5 (λ_=>?_) (λ_=>?_))<;>conv=>whnf));exact rfl)
theorem aK {X:List Int}(h0:X≠[])(hl:X.length<=1000):Pure C1 60 [Bx X] (λy=>y=Bx X):=by
 cases X with
 |nil=>exact absurd rfl h0
 |cons x X=>exact US x X (by omega)
def WR(G:Gr)(e:Bool)(x:List Int):Da:=if e=true then RV G x else if 8<x.length then .tuple [oE,.nils,dF 6 0 II]else if BK G x=false then .tuple [oE,.nils,dF 2 0 II]else .tuple [L3 (NP G x),Bx x,.nili]
def pV:List (Nat×Plan):=[(9,.split 0 2 (.leaf [1,0,3,3,0,0] [1,0,2,3,4,5] [0,0,3,7,15,31]) (.leaf [1,0,3,3,0,0] [1,2,0,3,4,5] [6,0,2,7,15,31]))]
def tG:List FuncId:=[25,83,84]
theorem KB(h:JobOk G e d l)(X:List Int)(h0:X≠[])(hx:X.length<=1000):Pure C1 34 [dJ G e d l,Bx X] (λz=>z=WR G e X):=by
 have hr:=UH h
 have hcl:=aK h0 hx
 have hq:=WH G h.ok X hx
 have hv:=Ui G h.ok X (by omega)
 refine AT Tryz.func34 Tryz.ntmps34 tG pV ?_
 cases e with
 |
  true=>
  unfold WR
  rw[if_pos rfl]
  unfold RV at hq⊢
  by_cases h1:BK (Gq G) X=false
  ·rw[if_pos h1]at hq⊢
   (conv=>whnf)
   (repeat' ((first|refine Ai ?_ ?_|refine Bc tab rfl hr rfl ?_|refine Aj rfl hq ?_|refine nx ?_|refine A5 (λ_=>?_) (λ_=>?_)|exact AA)<;>conv=>whnf))
   exact rfl
  ·rw[if_neg h1]at hq⊢
   by_cases h2:8<(BN (BJ G.edges X)).length
   ·rw[if_pos h2]at hq⊢
    (conv=>whnf)
    (repeat' ((first|refine Ai ?_ ?_|refine Bc tab rfl hr rfl ?_|refine Aj rfl hq ?_|refine nx ?_|refine A5 (λ_=>?_) (λ_=>?_)|exact AA)<;>conv=>whnf))
    exact rfl
   ·rw[if_neg h2]at hq⊢
    (conv=>whnf)
    (repeat' ((first|refine Ai ?_ ?_|refine Bc tab rfl hr rfl ?_|refine Aj rfl hq ?_|refine nx ?_|refine A5 (λ_=>?_) (λ_=>?_)|exact AA)<;>conv=>whnf))
    exact rfl
 |
  false=>
  unfold WR
  rw[if_neg (by decide)]
  by_cases h1:8<X.length
  ·rw[if_pos h1]at hv⊢
   (conv=>whnf)
   (repeat' ((first|refine Ai ?_ ?_|refine Bc tab rfl hr rfl ?_|refine Aj rfl hv ?_|refine nx ?_|refine A5 (λ_=>?_) (λ_=>?_)|exact AA)<;>conv=>whnf))
   exact rfl
  ·rw[if_neg h1]at hv⊢
   by_cases h2:BK G X=false
   ·rw[if_pos h2]at hv⊢
    (conv=>whnf)
    (repeat' ((first|refine Ai ?_ ?_|refine Bc tab rfl hr rfl ?_|refine Aj rfl hv ?_|refine nx ?_|refine A5 (λ_=>?_) (λ_=>?_)|exact AA)<;>conv=>whnf))
    exact rfl
   ·rw[if_neg h2]at hv⊢
    (conv=>whnf)
    (repeat' ((first|refine Ai ?_ ?_|refine Bc tab rfl hr rfl ?_|refine Aj rfl hv ?_|refine Aj rfl hcl ?_|refine nx ?_|refine A5 (λ_=>?_) (λ_=>?_)|exact AA)<;>conv=>whnf))
    exact rfl
theorem MU(h:JobOk G e d l):(Ck G e).labels.length<=8:=by
 rw[YZ]
 split
 ·exact h.me (by assumption)
 ·have:=h.n;omega
theorem gV(hG:G.Ok) {E:List Edg} {V:List Int}(h8:V.length<=8)(hr:∀x∈V,0<=x/\x<(G.labels.length:Int)):Hj ⟨V.map (Ei G),Mj E V⟩=none:=by
 refine mE (n:=V.length) ⟨Ac _,λe he=>?_,Iu _ _ _⟩ h8 λx hx=>?_
 ·obtain⟨j,x,hj,hx,hjx,_,rfl⟩:=Ns.1 he
  simp only;omega
 ·obtain⟨y,hy,rfl⟩:=Aq.1 hx
  exact RE hG (hr y hy)
theorem RG(hG:G.Ok) {X:List Int}(h8:(BN (BJ G.edges X)).length<=8):Hj (Qx G X)=none:=by
 refine gV hG h8 λx hx=>?_
 obtain⟨e,he,hxe⟩:=((Il _).2 x).1 hx
 have:=hG.edge e (M0 e he)
 omega
theorem N0(hG:G.Ok) {X:List Int}(h8:X.length<=8)(hl:BK G X=true):Hj (NP G X)=none:=gV hG h8 (La hl)
def tE:List FuncId:=[34,124]
theorem Ur(h:JobOk G e d l)(X:List Int)(h0:X≠[])(hx:X.length<=1000):Pure C1 82 [dJ G e d l,Bx X] (λz=>z=.bool (KS G e l X)):=by
 have hp:=KB h X h0 hx
 refine AT Tryz.func82 Tryz.ntmps82 tE [] ?_
 cases e with
 |
  true=>
  unfold WR at hp
  rw[if_pos rfl]at hp
  unfold RV at hp
  unfold KS
  rw[show Ck G true=Gq G from rfl,if_pos rfl]
  by_cases h1:BK (Gq G) X=false
  ·rw[if_pos h1]at hp
   rw[h1]
   (conv=>whnf)
   (repeat' ((first|refine Ai ?_ ?_|refine Aj rfl hp ?_|refine nx ?_|refine A5 (λ_=>?_) (λ_=>?_)|exact AA)<;>conv=>whnf))
   exact rfl
  ·rw[if_neg h1]at hp
   rw[Bool.not_eq_false]at h1
   rw[h1]
   by_cases h2:8<(BN (BJ G.edges X)).length
   ·rw[if_pos h2]at hp
    rw[decide_eq_false (by omega)]
    (conv=>whnf)
    (repeat' ((first|refine Ai ?_ ?_|refine Aj rfl hp ?_|refine nx ?_|refine A5 (λ_=>?_) (λ_=>?_)|exact AA)<;>conv=>whnf))
    exact rfl
   ·rw[if_neg h2]at hp
    rw[decide_eq_true (by omega)]
    have he:=RG (X:=X) h.ok (by omega)
    have hk:=PW l (Qx G X) h.l16 h.lok he
    unfold Ny
    rw[he]
    (conv=>whnf)
    (repeat' ((first|refine Ai ?_ ?_|refine Aj rfl hp ?_|refine Bc tab rfl hk rfl ?_|refine nx ?_|refine A5 (λ_=>?_) (λ_=>?_)|exact AA)<;>conv=>whnf))
    exact congrArg Da.bool (by simp)
 |
  false=>
  unfold WR at hp
  rw[if_neg (by decide)]at hp
  unfold KS
  rw[show Ck G false=G from rfl,if_neg (by decide)]
  by_cases h2:8<X.length
  ·rw[if_pos h2]at hp
   rw[decide_eq_false (show¬X.length<=8 by omega),Bool.false_and,Bool.and_false]
   (conv=>whnf)
   (repeat' ((first|refine Ai ?_ ?_|refine Aj rfl hp ?_|refine nx ?_|refine A5 (λ_=>?_) (λ_=>?_)|exact AA)<;>conv=>whnf))
   exact rfl
  ·rw[if_neg h2]at hp
   by_cases h1:BK G X=false
   ·rw[if_pos h1]at hp
    rw[h1]
    (conv=>whnf)
    (repeat' ((first|refine Ai ?_ ?_|refine Aj rfl hp ?_|refine nx ?_|refine A5 (λ_=>?_) (λ_=>?_)|exact AA)<;>conv=>whnf))
    exact rfl
   ·rw[if_neg h1]at hp
    rw[Bool.not_eq_false]at h1
    rw[h1,decide_eq_true (show X.length<=8 by omega)]
    have he:=N0 h.ok (by omega) h1
    have hk:=PW l (NP G X) h.l16 h.lok he
    unfold Ny
    rw[he]
    (conv=>whnf)
    (repeat' ((first|refine Ai ?_ ?_|refine Aj rfl hp ?_|refine Bc tab rfl hk rfl ?_|refine nx ?_|refine A5 (λ_=>?_) (λ_=>?_)|exact AA)<;>conv=>whnf))
    exact congrArg Da.bool (by simp)
def tH:List FuncId:=[82]
theorem Xt(h:JobOk G e d l)(X:List Int)(h0:X≠[])(hx:X.length<=1000):Pure C1 136 [Bx X,.ref (dJ G e d l)] (λz=>z=.bool (!KS G e l X)):=by
 have hp:=Ur h X h0 hx
 refine AT Tryz.func136 Tryz.ntmps136 tH [] ?_
 (conv=>whnf)
 (repeat' ((first|refine Ai ?_ ?_|refine Bc tab rfl hp rfl ?_|refine nx ?_|refine A5 (λ_=>?_) (λ_=>?_)|exact AA)<;>conv=>whnf))
 exact rfl
end
end Go.Proofs.YtjejpdfldmempaaGreatDoor
end
section
namespace Go.Reg
open Go Go.RowKit Go.Sort Go.Proofs
abbrev encV(v:Value):List Value:=[v]
theorem Gw(l:List Value):l.flatMap encV=l:=by induction l with
 |nil=>rfl
 |cons v l ih=>rw[AZ,ih];rfl
abbrev KW:Value:=.slice none 0 0
theorem Sl.zeroV {P:Program} {E:Nat} {w:World} {l:List Value} {g c:Nat}(h:Sl E 1 encV w (.slice (some ⟨g,0,none⟩) l.length c) l) {m:Nat}(hm:m<=l.length):
  ∃w',(storeCells ⟨g,m,none⟩ (List.replicate (l.length-m) KW)).run P w=.ok () w'/\Sl E 1 encV w' (.slice (some ⟨g,0,none⟩) l.length c) (l.take m++List.replicate (l.length-m) KW)/\Tch [g] w w':=by
 rcases h.2 with⟨h1,_⟩|⟨g',cap',cur,h1,h0,hg,hc,hmx,hs,ht⟩
 ·cases h1
 ·cases h1
  rw[EA]at hs
  have hsz:l.length<=cur.size:=by omega
  have hr:=run_storeCells_at P g m E (List.replicate (l.length-m) KW) 0 cur w hg (by rw[Bm];omega) (by intro v hv;rw[XY hv];rfl)
  rw[D3,Bm]at hr
  have hl2:(l.take m++List.replicate (l.length-m) KW).length=l.length:=by rw[Ae,Aw,Bm];omega
  have e0:m+(l.length-m)=l.length:=by omega
  rw[e0]at hr
  refine⟨_,hr,?_,⟨rfl,rfl,rfl,by simp[World.setRow],λj hj hn=>by
    have:g≠j:=λe=>hn (by simp[e])
    simp[World.setRow,Ca,this]⟩⟩
  unfold Sl
  rw[Gw,hl2]
  refine⟨by omega,.inr ⟨g,c,(cur.toList.take m++List.replicate (l.length-m) KW++cur.toList.drop l.length).toArray,rfl,As _,setRow_heap w g cur _ E (0,0) hg,hc,hmx,?_,?_⟩⟩
  ·simp;omega
  ·rw[Gw,EA]at ht
   rw[EA]
   have h1:(cur.toList.take m++List.replicate (l.length-m) KW).length=l.length:=by simp;omega
   rw[Br (by omega),Ao (by omega),<-ht,FL,IQ hm]
end Go.Reg
namespace Go.Sx
open Go Go.RowKit Go.Reg Go.Gr Go.Proofs Go.Proofs.YtjejpdfldmempaaGreatDoor
def IG(E:Nat)(l:List Value)(m g c:Nat):Absn where
 R w v F:=v=.slice (if c=m then some ⟨g,0,none⟩else some ⟨g,m,none⟩) (l.length-m) (c-m)/\F=[g]/\m<=l.length/\Sl E 1 encV w (.slice (some ⟨g,0,none⟩) l.length c) l
 keep:=by
  rintro S w w' v F ⟨rfl,rfl,hm,h⟩ t hd
  exact⟨rfl,rfl,hm,h.keep t (λb hb=>by simp[Value.ownBlock]at hb;subst hb;exact hd g (by simp))⟩
 lt:=by
  rintro w v F ⟨rfl,rfl,hm,h⟩ x hx
  simp at hx;subst hx
  exact h.lt rfl
 one:=by rintro w v F ⟨rfl,rfl,hm,h⟩;rfl
theorem U0 {O:List Nat} {w:World}:∀{ds:List Da} {css:List (List Value)},Al O w ds css->(∀x∈css,DS 1 x)->∃vs:List Value,css=vs.map encV/\vs.length=ds.length
 |[],css,h,_=>by simp only[Al]at h;subst h;exact⟨[],rfl,rfl⟩
 |
  d::ds,css,h,hr=>by
  simp only[Al]at h
  obtain⟨c1,c2,rfl,_,h2⟩:=h
  obtain⟨vs,rfl,hl⟩:=U0 h2 λx hx=>hr x (AB _ hx)
  obtain⟨v,rfl⟩:=BS.1 (hr c1 Gf).1
  exact⟨v::vs,rfl,by rw[Ax,Ax,hl]⟩
theorem Yd {E:Nat} {w:World} {v:Value} {l:List Value}:Sl E 1 id w v (l.map encV)↔Sl E 1 encV w v l:=by
 unfold Sl
 rw[Ac,List.flatMap_id,Gw]
 rw[show(l.map encV).flatten=l from by rw[<-List.flatMap_def];exact Gw l]
theorem T6:∀{ds:List Da} {vs:List Value},(∀d∈ds,d.one=true)->vs.length=ds.length->List.zipWith Fc ds (vs.map encV)=vs
 |[],[],_,_=>rfl
 |[],_::_,_,h=>by cases h
 |_::_,[],_,h=>by cases h
 |
  d::ds,v::vs,h1,h2=>by
  rw[Ap,AL,T6 (λd hd=>h1 d (AB _ hd)) (by simpa using h2),OA (h1 d Gf)];rfl
section
variable {C:Cx} {T:Fm} {n kd:Nat} {fr:Fr} {σ:Sg} {E i:Nat} {l:List Value} {o:Oper} {K:Fr->Sg->Prop} {B S:List Nat} {w0 w w':World} {η:Nat->Value} {φ:Nat->List Nat} {a:Act}
theorem Models.pins(hM:Models C B S w0 n fr σ η φ a w) {g:Nat}(hg:BA g σ=none) {xs:List Da} {us:List Value} {css:List (List Value)}(hr:Al (B++Ak φ σ) w xs css)(hu:us=List.zipWith Fc xs css):Models C B S w0 n fr ((g,.ghost [.tuple us.toArray] [.d (.tuple xs)])::σ) (Ds η g .nilFunc) (Ds φ g []) a w:=by
 have hi':=Dm hg
 obtain⟨hm,hl⟩:=hM.mem.add (Tch.refl [] w) hi' (v:=.nilFunc) (F:=[]) (o:=.ghost [.tuple us.toArray] [.d (.tuple xs)]) (by simp) ⟨rfl,rfl,[[.tuple us.toArray]],by simp only[A7,A4,RepC];exact⟨_,_,rfl,⟨css,hr,by rw[hu]⟩,rfl⟩,rfl⟩
 exact⟨hm,hM.fr.add hi' hl,hM.defers,hM.size⟩
theorem dR:∀{σ:Sg} {i:Nat},i∉Bp σ->BA i σ=none
 |[],_,_=>rfl
 |
  (j,o)::σ,i,h=>by
  cases hs:BA i ((j,o)::σ)with
  |none=>rfl
  |some q=>exact absurd (AP (Bd hs)) h
theorem fT(m gh:Nat) {ds:List Da} {t:TypeId} {x lo:Operand} {e ee:TyI}(hC:C.Ok T)(i:Nat)(ho:o.op=.slice t x (some lo) none none)(he:En t T=some e)(hk2:e.kd=2)(hee:En e.elem T=some ee)(h1:ee.size=1)(hx:ev C.Γ fr x=.own i)(hg:BA i σ=some (.slice E 1 ds))(hgh:BA gh σ=none)(hone:∀d∈ds,d.one=true) {mi:Int}(hlo:ev C.Γ fr lo=.d (.int .i64 mi))(hmi:mi=m)(hm:m<=ds.length)(hl:ds≠[])(hkd:kd≠5/\kd≠2)(hd:CZ o.dst n=true)
  (hK:∀g c vs,vs.length=ds.length->EP (Ek i (.raw (.slice (some ⟨g,0,none⟩) ds.length c)) fr) λfr=>BP (Fi gh (.ghost [.tuple (vs.take m).toArray] [.d (.tuple (ds.take m))]) (B2 (Bw i (.raw (.slice (some ⟨g,0,none⟩) ds.length c))) i (IG E vs m g c).own σ)) λσ=>K (Cm o.dst (.own i) fr) σ):AY C n kd o K fr σ:=by
 subst hmi
 refine C6 hkd.1 hkd.2 λB S w0 η φ a w hM=>⟨λ_=>by simp[Bf,ho],.inl ?_⟩
 obtain⟨css,hs,e2,hrr,hkk⟩:=Bq hM.mem hg
 obtain⟨vs,rfl,hvl⟩:=U0 hrr hkk
 have hs1:=Yd.1 hs
 rcases hs1.shape with⟨_,rfl⟩|⟨g,cap,e3,hc⟩
 ·exact absurd (AE hvl.symm) hl
 have ex:=Hh (AV hM x) hx
 have elo:=FP (EL (AV hM lo) hlo)
 rw[hvl]at e3 hc
 have hr:=EC (w:=w) (hC.ty he) hk2 (hC.ty hee) (ad:=some ⟨g,0,none⟩) (len:=ds.length) (cap:=cap) hc (lo:=some (.int .i64 m)) (hi:=none) (l:=m) (m:=ds.length) ⟨_,rfl⟩ rfl hm (Av _)
 have hi:=AP (Bd hg)
 have hF:∀b∈[g],b∈φ i\/w.heap.size<=b:=λb hb=>.inl (by rw[e2,e3];simpa[Value.ownBlock]using hb)
 have hl2:=Later.turn (σ:=σ) B (Tch.refl [] w) (X:=[]) (by simp) hi hF (Bw i (.raw (.slice (some ⟨g,0,none⟩) ds.length cap))) (IG E vs m g cap).own
 have hM':=hM.turnRaw (Tch.refl [] w) (by simp) hi (v:=.slice (if cap=m then some ⟨g,0,none⟩else some ⟨g,m,none⟩) (ds.length-m) (cap-m)) (F:=[g]) hF (x:=.raw (.slice (some ⟨g,0,none⟩) ds.length cap)) rfl (λO w=>by simp only[RepC];rw[e3]) (ow:=(IG E vs m g cap).own) (show(IG E vs m g cap).R _ _ _ from⟨by rw[hvl],rfl,by rw[hvl];exact hm,by rw[hvl,<-e3];exact hs1⟩)
 have hgh':BA gh (B2 (Bw i (.raw (.slice (some ⟨g,0,none⟩) ds.length cap))) i (IG E vs m g cap).own σ)=none:=dR (by rw[Bg];exact Dm hgh)
 have hne:i≠gh:=λe=>by rw[e,hgh]at hg;cases hg
 have hM2:=(hM'.pins hgh' (xs:=ds.take m) (us:=vs.take m) (css:=(vs.take m).map encV) (by rw[Fy];exact Jf (Al.later hl2 _ _ hrr) m) (by rw[T6 (λd hd=>hone d (Ea hd)) (by rw[Aw,Aw,hvl])])).perm (D6 gh _ _)
 have hk:=hK g cap vs hvl
 rw[Dp,Bl]at hk
 refine⟨_,w,?_,_,_,_,_,hM2.put hd (d:=.own i) ⟨[.slice (if cap=m then some ⟨g,0,none⟩else some ⟨g,m,none⟩) (ds.length-m) (cap-m)],by simp only[A4];exact⟨by unfold Bp;rw[((D6 gh _ _).map _).mem_iff];exact AB _ (by have:=Bg (Bw i (.raw (.slice (some ⟨g,0,none⟩) ds.length cap))) i (IG E vs m g cap).own σ;unfold Bp at this;rw[this];exact hi),by rw[C0 _ _ _ hne,CI]⟩,rfl⟩,hk⟩
 simp only[execOp,ho,CM,kC]
 rw[ex,elo,e3]
 refine CP ?_
 rw[hr]
 congr 2
 split
 ·rfl
 ·simp[Cz,h1]
theorem ZM {m g c:Nat} {cl:Call} {t:TypeId} {x:Operand} {e:TyI}(hC:C.Ok T)(i:Nat)(ho:o.op=.call cl)(hcl:cl.callee=.builtin .clear)(hxs:cl.args.toList=[x])(hts:cl.argTypes.toList=[t])(he:En t T=some e)(hk2:e.kd=2)(hz:∀w,(zeroValue e.elem).run C.P w=.ok KW w)(hx:ev C.Γ fr x=.own i)(hg:BA i σ=some (IG E l m g c).own)(hkd:kd≠5/\kd≠2)(hd:CZ o.dst n=true)
  (hK:BP (B2 id i (IG E (l.take m++List.replicate (l.length-m) KW) m g c).own σ) λσ=>K (Cm o.dst (.d (.tuple [])) fr) σ):AY C n kd o K fr σ:=by
 rw[Bl]at hK
 refine C6 hkd.1 hkd.2 λB S w0 η φ a w hM=>⟨λ_=>by simp[Bf,ho],.inl ?_⟩
 have ex:=Hh (AV hM x) hx
 obtain⟨ev1,ev2,hm,hs⟩:=ON hM hg
 have hi:=AP (Bd hg)
 have e1:cl.args=#[x]:=by apply Dl;simpa using hxs
 have e2:cl.argTypes=#[t]:=by apply Dl;simpa using hts
 obtain⟨dd,g1,_,g3,_,_,_,_,g8⟩:=(hC.ty he).desc
 rw[hk2]at g8
 have hdd:∃el,dd=.slice el:=by cases dd<;>simp at g8<;>exact⟨_,rfl⟩
 obtain⟨el,rfl⟩:=hdd
 have hel:=g3 _ rfl
 subst hel
 have hl2:(l.take m++List.replicate (l.length-m) KW).length=l.length:=by rw[Ae,Aw,Bm];omega
 have step:∀w1,Tch [g] w w1->Sl E 1 encV w1 (.slice (some ⟨g,0,none⟩) l.length c) (l.take m++List.replicate (l.length-m) KW)->GN C B S w0 n K (a.put o.dst (.tuple #[])) w1:=λw1 ht hs'=>by
  have hX:∀b∈[g],b∈φ i:=λb hb=>by rw[ev2];exact hb
  have hF:∀b∈φ i,b∈φ i\/w.heap.size<=b:=λb hb=>.inl hb
  have hlt:=Later.turn (σ:=σ) B ht hX hi hF id (IG E (l.take m++List.replicate (l.length-m) KW) m g c).own
  have hmm:=hM.mem.turnSame (o:=(IG E (l.take m++List.replicate (l.length-m) KW) m g c).own) ht hX hi hF (show(IG E (l.take m++List.replicate (l.length-m) KW) m g c).R _ _ _ from⟨by rw[hl2];exact ev1,ev2,by rw[hl2];exact hm,by rw[hl2];exact hs'⟩)
  rw[LA]at hmm hlt
  have M':Models C B S w0 n fr _ η φ a w1:=⟨hmm,hM.fr.later hlt (λj hj=>⟨by rw[Bg];exact hj,rfl⟩),hM.defers,hM.size⟩
  exact⟨_,_,_,_,M'.put hd (d:=.d (.tuple [])) ⟨[.tuple #[]],by simp[A4,RepC,Al],rfl⟩,hK⟩
 have exec:∀w1,(Builtin.clear_ #[t] o.type #[η i]).run C.P w=.ok (.tuple #[]) w1->(execOp a.eval o).run C.P w=.ok (.value (.tuple #[])) w1:=λw1 h=>by
  simp only[execOp,ho,resolve,hcl,A0,AQ,Ay,invoke,builtin,e1,e2,FM,Ap,B4,ex]
  rw[h];rfl
 by_cases hml:m=l.length
 ·refine⟨_,w,exec w ?_,step w (Tch.refl _ _) ?_⟩
  ·rw[ev1,hml,Ih]
   generalize (if c=l.length then(some ⟨g,0,none⟩:Option Addr)else some ⟨g,l.length,none⟩)=ad
   cases ad<;>simp[Builtin.clear_,run_underlying g1]
  ·rw[hml,Ih,Dr];simpa using hs
 ·obtain⟨w1,r1,r2,r3⟩:=hs.zeroV (P:=C.P) hm
  refine⟨_,w1,exec w1 ?_,step w1 r3 r2⟩
  have hcm:c≠m:=by
   rcases hs.shape with⟨h,_⟩|⟨_,_,h,h2⟩
   ·cases h
   ·cases h;omega
  obtain⟨k,hk⟩:∃k,l.length-m=k+1:=⟨l.length-m-1,by omega⟩
  have hzc:(Builtin.zeroCells (KW).cells (k+1)).toList=List.replicate (k+1) KW:=by
   apply List.ext_getElem
   ·simp[Builtin.zeroCells,Value.cells]
   ·intro j h1 h2
    simp[Builtin.zeroCells,Value.cells,Nat.mod_one]
  rw[ev1,if_neg hcm,hk]
  rw[hk]at r1
  simp[Builtin.clear_,run_underlying g1,hz,hzc,r1]
theorem Uf {O:List Nat} {w:World}:∀{ds:List Da} {css:List (List Value)},Al O w ds css->(∀d∈ds,d.one=true/\d.stor=true)->css=(List.zipWith Fc ds css).map encV/\∀x∈css,DS 1 x
 |[],css,h,_=>by simp only[Al]at h;subst h;exact⟨rfl,λx hx=>by cases hx⟩
 |
  d::ds,css,h,ho=>by
  simp only[Al]at h
  obtain⟨c1,c2,rfl,h1,h2⟩:=h
  obtain⟨g1,g2⟩:=Uf h2 λd hd=>ho d (AB _ hd)
  obtain⟨o1,o2⟩:=ho d Gf
  have hlen:c1.length=1:=by
   have:=Ev d c1 h1
   rw[this]
   cases d<;>first|rfl|cases o1
  have hrow:DS 1 c1:=⟨hlen,Jg d c1 o2 h1⟩
  obtain⟨v,rfl⟩:=BS.1 hlen
  rw[AL,Ap,OA o1,<-g1]
  exact⟨rfl,λx hx=>by
   rcases Ar.1 hx with e|e
   ·rw[e];exact hrow
   ·exact g2 x e⟩
theorem fU {m g c gh:Nat} {us:List Value} {ds:List Da} {t:TypeId} {x hi:Operand} {e ee:TyI}(hC:C.Ok T)(i:Nat)(ho:o.op=.slice t x none (some hi) none)(he:En t T=some e)(hk2:e.kd=2)(hee:En e.elem T=some ee) {nn:Nat}(hx:ev C.Γ fr x=.d (.raw (.slice (some ⟨g,0,none⟩) nn c)))(hnn:nn=l.length)(hg:BA i σ=some (IG E l m g c).own)(hgh:BA gh σ=some (.ghost [.tuple us.toArray] [.d (.tuple ds)]))(hus:l.take m=us)(_hdl:ds.length=m)(hone:∀d∈ds,d.one=true/\d.stor=true) {mi:Int}(hhi:ev C.Γ fr hi=.d (.int .i64 mi))(hmi:mi=m)(hkd:kd≠5/\kd≠2)(hd:CZ o.dst n=true)
  (hK:EP (Ek i .undef fr) λfr=>BP (B2 (Bw i .undef) i (.slice E 1 ds) σ) λσ=>K (Cm o.dst (.own i) fr) σ):AY C n kd o K fr σ:=by
 subst hmi
 subst hnn
 rw[Dp,Bl]at hK
 refine C6 hkd.1 hkd.2 λB S w0 η φ a w hM=>⟨λ_=>by simp[Bf,ho],.inl ?_⟩
 obtain⟨ev1,ev2,hm,hs⟩:=ON hM hg
 have hii:=AP (Bd hg)
 have ex:a.eval x=.slice (some ⟨g,0,none⟩) l.length c:=by
  obtain⟨cs,h1,h2⟩:=EL (AV hM x) hx
  simp only[RepC]at h1
  subst h1;exact h2
 have ehi:=FP (EL (AV hM hi) hhi)
 have hlc:l.length<=c:=by
  rcases hs.shape with⟨h,_⟩|⟨_,_,h,h2⟩
  ·cases h
  ·cases h;exact h2
 have hr:=EC (w:=w) (hC.ty he) hk2 (hC.ty hee) (ad:=some ⟨g,0,none⟩) (len:=l.length) (cap:=c) hlc (lo:=none) (hi:=some (.int .i64 m)) (l:=0) (m:=m) rfl ⟨_,rfl⟩ (As _) hm
 have hs':Sl E 1 encV w (.slice (some ⟨g,0,none⟩) m c) (l.take m):=by
  have hlm:(l.take m).length=m:=by rw[Aw];omega
  rcases hs.2 with⟨h1,_⟩|⟨g',cap',cur,h1,h0,hgg,hc,hmx,hsz,ht⟩
  ·cases h1
  ·cases h1
   unfold Sl
   rw[Gw,hlm]
   refine⟨by omega,.inr ⟨g,c,cur,rfl,As _,hgg,by omega,hmx,hsz,?_⟩⟩
   rw[Gw]at ht
   rw[<-ht,FL,EA,EA,IQ hm]
 obtain⟨_,_,qss,hrr,huz⟩:=hM.mem.own _ (Bd hgh)
 simp only[A7,A4,RepC]at hrr
 obtain⟨_,_,rfl,⟨css,hrr,rfl⟩,rfl⟩:=hrr
 have huz:us=List.zipWith Fc ds css:=by simpa[BD,Fc]using huz
 have hF:∀b∈(Value.slice (some ⟨g,0,none⟩) m c).ownBlock.toList,b∈φ i\/w.heap.size<=b:=λb hb=>.inl (by rw[ev2];simpa[Value.ownBlock]using hb)
 have hl2:=Later.turn (σ:=σ) B (Tch.refl [] w) (X:=[]) (by simp) hii hF (Bw i .undef) (.slice E 1 ds)
 have hcss:=Uf hrr hone
 rw[<-huz,<-hus]at hcss
 have hM':=hM.turnRaw (Tch.refl [] w) (by simp) hii (v:=.slice (some ⟨g,0,none⟩) m c) hF (x:=.undef) rfl (λO w=>RepC.undef_ex _ _ _) (ow:=.slice E 1 ds) ⟨css,by rw[hcss.1];exact Yd.2 hs',rfl,Al.later hl2 _ _ hrr,hcss.2⟩
 refine⟨_,w,?_,_,_,_,_,hM'.put hd (d:=.own i) ⟨[.slice (some ⟨g,0,none⟩) m c],by simp only[A4];exact⟨by rw[Bg];exact hii,by rw[CI]⟩,rfl⟩,hK⟩
 simp only[execOp,ho,CM,kC]
 rw[ex,ehi]
 refine CP ?_
 rw[hr]
 congr 2
 split
 ·simp
 ·simp[Cz]
end
end Go.Sx
end
section
namespace Go.Proofs.YtjejpdfldmempaaGreatDoor
open Go.Sx Go.RowKit Go.Reg Go.Gr
set_option maxRecDepth 100000
def Kc(P:List (List Int)):Da:=.list 1 (P.map Bx)
end Go.Proofs.YtjejpdfldmempaaGreatDoor
end
