/- Merged: Lnb Lnc Lnf Grs Vla Vsb Lnp. -/
import Derived.Test.YtjejpdfldmempaaGreatDoorltav
import Derived.Test.YtjejpdfldmempaaGreatDoorltan
import Derived.Test.YtjejpdfldmempaaGreatDoorltat
section
namespace Go.Gr
theorem Ng(d:Nat):Iy d<=d*d:=by
 unfold Iy
 have h:d*(d-1)<=d*d:=Nat.mul_le_mul_left d (by omega)
 omega
theorem ZK(d:Nat)(hd:d<=32768):0<=(d:Int)*((d:Int)-1)/\(d:Int)*((d:Int)-1)<=1073741824/\((d:Int)*((d:Int)-1)).tdiv 2=(Iy d:Int):=by
 cases d with
 |zero=>decide
 |
  succ d=>
  have e:((d+1:Nat):Int)*(((d+1:Nat):Int)-1)=(((d+1)*d:Nat):Int):=by push_cast;congr 1;omega
  rw[e]
  have h2:(d+1)*d<=32768*32768:=D2 hd (by omega)
  refine⟨by omega,by omega,?_⟩
  rw[Int.tdiv_eq_ediv_of_nonneg (by omega)]
  unfold Iy
  simp
theorem SE(E:List Edg) {v n:Nat}(h:v<=n):(BF E v).length<=(BF E n).length:=by
 induction n with
 |zero=>
           have:v=0:=by omega
           subst this;exact Av _
 |
  succ n ih=>
  rcases Bu v (n+1)with h1|h1
  ·have:=ih (by omega);rw[DW,Ae];omega
  ·have:v=n+1:=by omega
   subst this;exact Av _
theorem Ob(E:List Edg)(v:Nat)(h:∀u,(Lv E u).length<=32768):(BF E v).length<=v*1073741824:=by
 induction v with
 |zero=>simp[BF]
 |
  succ v ih=>
  rw[DW,Ae,Iz]
  have h1:=Ng (Lv E v).length
  have h2:(Lv E v).length*(Lv E v).length<=32768*32768:=D2 (h v) (h v)
  omega
def pu(l:List Int):Nat->List Edg
 |0=>[]
 |i+1=>pu l i++(l.drop (i+1)).map (λb=>⟨(l[i]?).getD 0,b⟩)
theorem Yv(x:Int)(l:List Int):∀i,pu (x::l) (i+1)=l.map (λb=>⟨x,b⟩)++pu l i
 |0=>by simp[pu]
 |
  i+1=>by
  rw[pu,Yv x l i,pu]
  simp
theorem eW:∀l:List Int,pu l l.length=FE l
 |[]=>rfl
 |x::l=>by rw[Ax,Yv,eW l];rfl
theorem lP(l:List Int) {i n:Nat}(h:i<=n):(pu l i).length<=(pu l n).length:=by
 induction n with
 |zero=>
           have:i=0:=by omega
           subst this;exact Av _
 |
  succ n ih=>
  rcases Bu i (n+1)with h1|h1
  ·have:=ih (by omega);rw[pu,Ae];omega
  ·have:i=n+1:=by omega
   subst this;exact Av _
end Go.Gr
namespace Go.Proofs.YtjejpdfldmempaaGreatDoor
open Go.Sx Go.RowKit Go.Reg Go.Gr
set_option maxRecDepth 100000
theorem sC {G:Gr}(h:G.Ok):∀e∈G.edges,e.a≠e.b:=λe he=>by have:=h.edge e he;omega
theorem iY {G:Gr}(h:G.Ok)(v:Nat):(Lv G.edges v).length=F3 G.edges v:=nL G.edges v (sC h)
theorem YO {G:Gr}(h:G.Ok)(v:Nat):(Lv G.edges v).length<=32768:=by
 rw[iY h]
 have h1:=Qz G.edges v
 have h2:=h.esize
 omega
theorem WS(G:Gr)(hG:G.Ok):Pure C1 174 [dG G] (λy=>y=.int .i64 (BF G.edges G.labels.length).length):=by
 have hs:=hG.size
 refine AT Tryz.func174 Tryz.ntmps174 [] [] ?_
 ((conv=>whnf);repeat' ((first|refine odw ?_|refine nx ?_|refine A5 (λ_=>?_) (λ_=>?_))<;>conv=>whnf))
 refine AH rfl (HH G) ?_;rintro y rfl
 ((conv=>whnf);repeat' ((first|refine odw ?_|refine nx ?_|refine A5 (λ_=>?_) (λ_=>?_))<;>conv=>whnf))
 refine AN (ι:=Nat) (λv=>v<=G.labels.length) (λv=>[(8,.d (.int .i64 v)),(7,.d (.int .i64 G.labels.length)),(3,.d (.int .i64 (BF G.edges v).length)),(0,.d (dG G))]) (λ_=>[]) (λv=>G.labels.length-v) 0 (λ_=>rfl) (As _) (.refl _ _) ⟨rfl,rfl,rfl,rfl,trivial⟩ trivial ?_
 intro v hv
 refine BV [] [] ?_
 by_cases hlt:v<G.labels.length
 ·((conv=>whnf);repeat' ((first|refine odw ?_|refine nx ?_|refine A5 (λ_=>?_) (λ_=>?_))<;>conv=>whnf))
  refine AH rfl (V5 G hG v) ?_;rintro y rfl
  have e:XJ G v=(Lv G.edges v).length:=by unfold XJ;rw[if_pos (by omega),Be,iY hG]
  have hd:=YO hG v
  have hp:=ZK (Lv G.edges v).length hd
  have hb:=Ob G.edges v (YO hG)
  have hn2:=Ng (Lv G.edges v).length
  have hst:(BF G.edges (v+1)).length=(BF G.edges v).length+Iy (Lv G.edges v).length:=by rw[DW,Ae,Iz]
  have hbn:=Ob G.edges (v+1) (YO hG)
  rw[e]
  generalize (Lv G.edges v).length=d at*
  ((conv=>whnf);repeat' ((first|refine odw ?_|refine nx ?_|refine A5 (λ_=>?_) (λ_=>?_))<;>conv=>whnf))
  exact⟨v+1,_,_,hlt,.refl _ _,⟨rfl,rfl,Qd (by rw[hp.2.2,hst];omega),rfl,trivial⟩,trivial,by omega⟩
 ·have hvn:v=G.labels.length:=by omega
  subst hvn
  ((conv=>whnf);repeat' ((first|refine odw ?_|refine nx ?_|refine A5 (λ_=>?_) (λ_=>?_))<;>conv=>whnf))
  exact rfl
def Xn:ByteArray:=⟨#[108,105,110,101,115]⟩
def UI(G:Gr):Da:=if 16384<(BF G.edges G.labels.length).length then .tuple [.nilp,dS Xn (dF 6 0 GD)]else .tuple [dG ⟨List.replicate G.edges.length 0,Hn G.edges G.edges.length⟩,.nili]
set_option maxHeartbeats 4000000 in
theorem gN(G:Gr)(hG:G.Ok)(hm:G.edges.length<=4096):Pure C1 117 [dG G] (λy=>y=UI G):=by
 have hs:=hG.size
 refine AT Tryz.func117 Tryz.ntmps117 [] [] ?_
 ((conv=>whnf);repeat' ((first|refine odw ?_|refine nx ?_|refine A5 (λ_=>?_) (λ_=>?_))<;>conv=>whnf))
 refine AH rfl (WS G hG) ?_;rintro y rfl
 by_cases hbig:16384<(BF G.edges G.labels.length).length
 ·have e:UI G=.tuple [.nilp,dS Xn (dF 6 0 GD)]:=by unfold UI;rw[if_pos hbig]
  rw[e]
  ((conv=>whnf);repeat' ((first|refine odw ?_|refine nx ?_|refine A5 (λ_=>?_) (λ_=>?_))<;>conv=>whnf))
  refine AH rfl (BU 6 0 GD) ?_;rintro y rfl
  ((conv=>whnf);repeat' ((first|refine odw ?_|refine nx ?_|refine A5 (λ_=>?_) (λ_=>?_))<;>conv=>whnf))
  refine AH rfl (HJ Xn 6 0 GD) ?_;rintro y rfl
  ((conv=>whnf);repeat' ((first|refine odw ?_|refine nx ?_|refine A5 (λ_=>?_) (λ_=>?_))<;>conv=>whnf))
  exact rfl
 have e:UI G=.tuple [dG ⟨List.replicate G.edges.length 0,Hn G.edges G.edges.length⟩,.nili]:=by unfold UI;rw[if_neg hbig]
 rw[e]
 ((conv=>whnf);repeat' ((first|refine odw ?_|refine nx ?_|refine A5 (λ_=>?_) (λ_=>?_))<;>conv=>whnf))
 refine AH rfl (HH G) ?_;rintro y rfl
 ((conv=>whnf);repeat' ((first|refine odw ?_|refine nx ?_|refine A5 (λ_=>?_) (λ_=>?_))<;>conv=>whnf))
 refine AN (ι:=Nat) (λv=>v<=G.labels.length) (λv=>[(20,.d (.int .i64 v)),(19,.d (.int .i64 G.labels.length)),(4,.own 300),(0,.d (dG G))]) (λv=>[(300,.slice 103 2 ((BF G.edges v).map dE))]) (λv=>G.labels.length-v) 0 (λ_=>rfl) (As _)
  (.own 4 300 103 2 rfl rfl (.refl _ _)) ⟨rfl,rfl,rfl,rfl,trivial⟩ ⟨rfl,trivial⟩ ?_
 intro v hv
 refine BV [] [] ?_
 by_cases hlt:v<G.labels.length
 ·have hcap:=SE G.edges (show v+1<=G.labels.length by omega)
  rw[DW,Ae]at hcap
  have hat:qZ G v=Bx (Lv G.edges v):=by unfold qZ;rw[if_pos (by omega),Be]
  have hpall:=eW (Lv G.edges v)
  have hstep:=DW G.edges v
  have hl32:=YO hG v
  ((conv=>whnf);repeat' ((first|refine odw ?_|refine nx ?_|refine A5 (λ_=>?_) (λ_=>?_))<;>conv=>whnf))
  refine AH rfl (nJ G hG v) ?_;rintro y rfl
  rw[hat]
  generalize Lv G.edges v=l at*
  have hll:(l.map dI).length=l.length:=Ac _
  ((conv=>whnf);repeat' ((first|refine odw ?_|refine nx ?_|refine A5 (λ_=>?_) (λ_=>?_))<;>conv=>whnf))
  refine AN (ι:=Nat) (λi=>i<=l.length) (λi=>[(28,.d (.int .i64 i)),(27,.d (.int .i64 (l.map dI).length)),(26,.d (Bx l)),(6,.d (Bx l)),(20,.d (.int .i64 v)),(19,.d (.int .i64 G.labels.length)),(4,.own 300),(0,.d (dG G))])
   (λi=>[(300,.slice 103 2 ((BF G.edges v++pu l i).map dE))]) (λi=>l.length-i) 0 (λ_=>rfl) (As _) (.refl _ _) ⟨rfl,rfl,rfl,rfl,rfl,rfl,rfl,rfl,trivial⟩ ⟨Bj (by simp[pu]),trivial⟩ ?_
  intro i hi
  refine BV [] [] ?_
  by_cases hil:i<l.length
  ·have hx:=Ab hil
   have hpu:pu l (i+1)=pu l i++(l.drop (i+1)).map (λb=>⟨l[i],b⟩):=by rw[pu,hx];rfl
   generalize l[i]=a at hx hpu
   have hxd:(l.map dI)[i]? =some (.int .i64 a):=by rw[Af,hx];rfl
   have hmn:=lP l (show i+1<=l.length by omega)
   rw[hpall]at hmn
   rw[hpu,Ae,Ac]at hmn
   (repeat' ((first|refine Ai ?_ ?_|refine AM hxd rfl ?_|refine Ym (i+1) rfl (by rw[Ac];omega) ?_|refine nx ?_|refine A5 (λ_=>?_) (λ_=>?_)|exact AA)<;>conv=>whnf))
   rw[<-List.map_drop]
   generalize hD:l.drop (i+1)=D at hmn hpu⊢
   have hDl:(D.map dI).length=D.length:=Ac _
   refine AN (ι:=Nat) (λk=>k<=D.length) (λk=>[(38,.d (.int .i64 k)),(37,.d (.int .i64 (D.map dI).length)),(36,.d (Bx D)),(8,.d (.int .i64 a)),(28,.d (.int .i64 i)),(27,.d (.int .i64 (l.map dI).length)),(26,.d (Bx l)),(6,.d (Bx l)),(20,.d (.int .i64 v)),(19,.d (.int .i64 G.labels.length)),(4,.own 300),(0,.d (dG G))])
    (λk=>[(300,.slice 103 2 ((BF G.edges v++pu l i++(D.take k).map (λb=>(⟨a,b⟩:Edg))).map dE))]) (λk=>D.length-k) 0 (λ_=>rfl) (As _) (.refl _ _) ⟨rfl,rfl,rfl,rfl,rfl,rfl,rfl,rfl,rfl,rfl,rfl,rfl,trivial⟩ ⟨Bj (by simp),trivial⟩ ?_
   intro k hk
   refine BV [] [] ?_
   by_cases hkl:k<D.length
   ·have hxk:=Ab hkl
    generalize D[k]=b at hxk
    have hxkd:(D.map dI)[k]? =some (.int .i64 b):=by rw[Af,hxk];rfl
    have hfin:(BF G.edges v++pu l i++(D.take k).map (λb=>(⟨a,b⟩:Edg))).map dE++[.agg [.int .i64 a,.int .i64 b]]=(BF G.edges v++pu l i++(D.take (k+1)).map (λb=>(⟨a,b⟩:Edg))).map dE:=by
     rw[A2,hxk];simp[dE]
    (repeat' ((first|refine Ai ?_ ?_|refine AM hxkd rfl ?_|refine nx ?_|refine A5 (λ_=>?_) (λ_=>?_)|exact AA)<;>conv=>whnf))
    exact⟨k+1,_,_,hkl,.refl _ _,⟨rfl,rfl,rfl,rfl,rfl,rfl,rfl,rfl,rfl,rfl,rfl,rfl,trivial⟩,⟨Bj hfin,trivial⟩,by omega⟩
   ·have hkD:D.take k=D:=Ao (by omega)
    rw[hkD]
    ((conv=>whnf);repeat' ((first|refine odw ?_|refine nx ?_|refine A5 (λ_=>?_) (λ_=>?_))<;>conv=>whnf))
    exact⟨i+1,_,_,hil,.refl _ _,⟨rfl,rfl,rfl,rfl,rfl,rfl,rfl,rfl,trivial⟩,⟨Bj (by rw[hpu,Bz]),trivial⟩,by omega⟩
  ·have hii:i=l.length:=by omega
   subst hii
   rw[hpall]
   ((conv=>whnf);repeat' ((first|refine odw ?_|refine nx ?_|refine A5 (λ_=>?_) (λ_=>?_))<;>conv=>whnf))
   exact⟨v+1,_,_,hlt,.refl _ _,⟨rfl,rfl,rfl,rfl,trivial⟩,⟨Bj (by rw[hstep]),trivial⟩,by omega⟩
 ·have hvn:v=G.labels.length:=by omega
  subst hvn
  ((conv=>whnf);repeat' ((first|refine odw ?_|refine nx ?_|refine A5 (λ_=>?_) (λ_=>?_))<;>conv=>whnf))
  refine AH rfl (MV G) ?_;rintro y rfl
  (conv=>whnf)
  (repeat' ((first|refine Ai ?_ ?_|refine Mg G.edges.length rfl rfl (by omega) ?_|refine nx ?_|refine A5 (λ_=>?_) (λ_=>?_)|exact AA)<;>conv=>whnf))
  have hz:List.replicate G.edges.length (dI 0)=(List.replicate G.edges.length 0).map dI:=by simp
  refine Du 54 rfl ?_
  refine Du 300 rfl ?_
  refine AH (xs:=[Bx (List.replicate G.edges.length 0),Er (BF G.edges G.labels.length)]) (by show some [Da.list 1 (List.replicate G.edges.length (dI 0)),_]=_;rw[hz];rfl) (PH _ _) ?_;rintro y rfl
  rw[Nn (Ml hG hm (by omega)),Oh hG]
  ((conv=>whnf);repeat' ((first|refine odw ?_|refine nx ?_|refine A5 (λ_=>?_) (λ_=>?_))<;>conv=>whnf))
  all_goals exact rfl
def Ga(E:List Edg)(a b:Int):Bool:=decide (0<=a)&&decide (0<=b)&&tch E a.toNat b.toNat
theorem MN {E:List Edg} {a b:Int}(h:¬(0<=a/\a<E.length)\/¬(0<=b/\b<E.length)\/a=b):Ga E a b=false:=by
 unfold Ga tch
 by_cases ha:0<=a
 ·by_cases hb:0<=b
  ·obtain⟨m,rfl⟩:=A1 ha
   obtain⟨n,rfl⟩:=A1 hb
   simp only[Be]
   by_cases hm:m<E.length
   ·by_cases hn:n<E.length
    ·have:m=n:=by omega
     subst this
     rw[Ab hm];simp
    ·rw[BB (l:=E) (i:=n) (by omega),Ab hm];simp
   ·rw[BB (l:=E) (i:=m) (by omega)];simp
  ·simp[hb]
 ·simp[ha]
theorem Zh {E:List Edg} {m n:Nat} {x y:Edg}(hx:E[m]? =some x)(hy:E[n]? =some y)(hne:m≠n):Ga E m n=(decide (x.a=y.a)||decide (x.a=y.b)||decide (x.b=y.a)||decide (x.b=y.b)):=by
 unfold Ga tch
 have h1:(0:Int)<=m:=by omega
 have h2:(0:Int)<=n:=by omega
 simp only[Be,hx,hy,h1,h2,decide_true,Bool.true_and,ne_eq,hne,not_false_eq_true]
set_option maxHeartbeats 1000000 in
theorem Wn(G:Gr)(a b:Int):Pure C1 192 [dG G,.int .i64 a,.int .i64 b] (λy=>y=.bool (Ga G.edges a b)):=by
 refine AT Tryz.func192 Tryz.ntmps192 [] [] ?_
 ((conv=>whnf);repeat' ((first|refine odw ?_|refine nx ?_|refine A5 (λ_=>?_) (λ_=>?_))<;>conv=>whnf))
 refine AH rfl (HV G a) ?_;rintro y rfl
 by_cases ha:0<=a/\a<G.edges.length
 ·obtain⟨m,rfl⟩:=A1 ha.1
  have hmm:m<G.edges.length:=by omega
  have hx:=Ab hmm
  generalize G.edges[m]=x at hx
  have e:DK G.edges (m:Int)=.tuple [dE x,.bool true]:=by unfold DK;rw[if_pos ha,Be,hx];rfl
  obtain⟨xa,xb⟩:=x
  rw[e,show dE ⟨xa,xb⟩=.agg [.int .i64 xa,.int .i64 xb]from rfl]
  ((conv=>whnf);repeat' ((first|refine odw ?_|refine nx ?_|refine A5 (λ_=>?_) (λ_=>?_))<;>conv=>whnf))
  refine AH rfl (HV G b) ?_;rintro y rfl
  by_cases hb:0<=b/\b<G.edges.length
  ·obtain⟨n,rfl⟩:=A1 hb.1
   have hnn:n<G.edges.length:=by omega
   have hy:=Ab hnn
   generalize G.edges[n]=y at hy
   have e:DK G.edges (n:Int)=.tuple [dE y,.bool true]:=by unfold DK;rw[if_pos hb,Be,hy];rfl
   obtain⟨ya,yb⟩:=y
   rw[e,show dE ⟨ya,yb⟩=.agg [.int .i64 ya,.int .i64 yb]from rfl]
   by_cases hne:m=n
   ·rw[MN (.inr (.inr (by rw[hne])))]
    ((conv=>whnf);repeat' ((first|refine odw ?_|refine nx ?_|refine A5 (λ_=>?_) (λ_=>?_))<;>conv=>whnf))
    exact rfl
   ·rw[Zh hx hy hne]
    by_cases h1:xa=ya
    ·((conv=>whnf);repeat' ((first|refine odw ?_|refine nx ?_|refine A5 (λ_=>?_) (λ_=>?_))<;>conv=>whnf))
     exact Eq.trans (b:=Da.bool true) rfl (by simp[h1])
    by_cases h2:xa=yb
    ·((conv=>whnf);repeat' ((first|refine odw ?_|refine nx ?_|refine A5 (λ_=>?_) (λ_=>?_))<;>conv=>whnf))
     exact Eq.trans (b:=Da.bool true) rfl (by simp[h2])
    by_cases h3:xb=ya
    ·((conv=>whnf);repeat' ((first|refine odw ?_|refine nx ?_|refine A5 (λ_=>?_) (λ_=>?_))<;>conv=>whnf))
     exact Eq.trans (b:=Da.bool true) rfl (by simp[h3])
    ·((conv=>whnf);repeat' ((first|refine odw ?_|refine nx ?_|refine A5 (λ_=>?_) (λ_=>?_))<;>conv=>whnf))
     show Da.plain _=_
     simp[Da.plain,h1,h2,h3]
  ·have e:DK G.edges b=.tuple [dE ⟨0,0⟩,.bool false]:=by unfold DK;rw[if_neg hb]
   rw[e,MN (.inr (.inl hb))]
   ((conv=>whnf);repeat' ((first|refine odw ?_|refine nx ?_|refine A5 (λ_=>?_) (λ_=>?_))<;>conv=>whnf))
   exact rfl
 ·have e:DK G.edges a=.tuple [dE ⟨0,0⟩,.bool false]:=by unfold DK;rw[if_neg ha]
  rw[e,MN (.inl ha)]
  ((conv=>whnf);repeat' ((first|refine odw ?_|refine nx ?_|refine A5 (λ_=>?_) (λ_=>?_))<;>conv=>whnf))
  refine AH rfl (HV G b) ?_;rintro y rfl
  by_cases hb:0<=b/\b<G.edges.length
  ·have e:DK G.edges b=.tuple [dE ((G.edges[b.toNat]?).getD ⟨0,0⟩),.bool true]:=by unfold DK;rw[if_pos hb]
   rw[e]
   ((conv=>whnf);repeat' ((first|refine odw ?_|refine nx ?_|refine A5 (λ_=>?_) (λ_=>?_))<;>conv=>whnf))
   exact rfl
  ·have e:DK G.edges b=.tuple [dE ⟨0,0⟩,.bool false]:=by unfold DK;rw[if_neg hb]
   rw[e]
   ((conv=>whnf);repeat' ((first|refine odw ?_|refine nx ?_|refine A5 (λ_=>?_) (λ_=>?_))<;>conv=>whnf))
   exact rfl
theorem Wo(E:List Edg)(m n:Nat):Ga E m n=tch E m n:=by
 unfold Ga
 have h1:(0:Int)<=m:=by omega
 have h2:(0:Int)<=n:=by omega
 simp[h1,h2]
end Go.Proofs.YtjejpdfldmempaaGreatDoor
end
section
namespace Go.Proofs.YtjejpdfldmempaaGreatDoor
open Go.Sx Go.RowKit Go.Reg Go.Gr
set_option maxRecDepth 100000
theorem Oa {G:Gr}(_hG:G.Ok)(hn:G.labels.length<=10)(hm:G.edges.length<=30):(BF G.edges G.labels.length).length<=16384:=by
 have key:∀v,(BF G.edges v).length<=v*900:=by
  intro v
  induction v with
  |zero=>simp[BF]
  |
   succ v ih=>
   rw[DW,Ae,Iz]
   have h0:(Lv G.edges v).length<=30:=by
    unfold Lv
    rw[Ac]
    have:=DF (λp:Edg×Nat=>decide (p.1.a=(v:Int)\/p.1.b=(v:Int))) G.edges.zipIdx
    rw[List.length_zipIdx]at this
    omega
   have h1:=Ng (Lv G.edges v).length
   have h2:(Lv G.edges v).length*(Lv G.edges v).length<=30*30:=D2 h0 h0
   omega
 have:=key G.labels.length
 omega
def uC(G:Gr):Gr:=⟨List.replicate G.edges.length 0,Hn G.edges G.edges.length⟩
theorem Xi {G:Gr}(hG:G.Ok)(hn:G.labels.length<=10)(hm:G.edges.length<=30):UI G=.tuple [dG (uC G),.nili]:=by
 unfold UI
 have:=Oa hG hn hm
 rw[if_neg (by omega)]
 rfl
end Go.Proofs.YtjejpdfldmempaaGreatDoor
end
section
namespace Go.Gr
def BJ(E:List Edg)(l:List Int):List Edg:=l.filterMap λid:Int=>if 0<=id/\id<E.length then E[id.toNat]? else none
def Ge(out:List Int)(x:Int):List Int:=if x∈out then out else out++[x]
def BN(l:List Edg):List Int:=l.foldl (λout e=>Ge (Ge out e.a) e.b) []
theorem Im(l:List Edg)(e:Edg):BN (l++[e])=Ge (Ge (BN l) e.a) e.b:=by simp[BN,List.foldl_append]
theorem MJ(out:List Int)(x:Int):(Ge out x).length<=out.length+1:=by unfold Ge;split<;>simp
theorem NO(l:List Edg):(BN l).length<=2*l.length:=by
 suffices h:∀l:List Edg,(BN l.reverse).length<=2*l.length by have:=h l.reverse;rwa [List.reverse_reverse,List.length_reverse]at this
 intro l
 induction l with
 |nil=>simp[BN]
 |
  cons e l ih=>
  rw[List.reverse_cons,Im]
  have h1:=MJ (Ge (BN l.reverse) e.a) e.b
  have h2:=MJ (BN l.reverse) e.a
  simp only[Ax];omega
theorem Ot(E:List Edg)(l:List Int)(x:Int):BJ E (l++[x])=BJ E l++(if 0<=x/\x<E.length then E[x.toNat]? else none).toList:=by
 simp only[BJ,List.filterMap_append,List.filterMap_cons,List.filterMap_nil]
 congr 1
theorem aV {E:List Edg} {l:List Int} {m:Nat} {e:Edg}(h:E[m]? =some e):BJ E (l++[(m:Int)])=BJ E l++[e]:=by
 have:=(Ad.1 h).1
 rw[Ot,if_pos ⟨by omega,by omega⟩,Be,h];rfl
theorem XE {E:List Edg} {l:List Int} {x:Int}(h:¬(0<=x/\x<E.length)):BJ E (l++[x])=BJ E l:=by
 rw[Ot,if_neg h];simp
theorem Lh(E:List Edg)(l:List Int):(BJ E l).length<=l.length:=List.length_filterMap_le _ _
def O1(l:List Int)(x:Int):Int:=match l.findIdx? (λy=>decide (x=y))with|some i=>(i:Int)|none=>-1
theorem mG {l:List Int} {x:Int} {i:Nat}(h:l[i]? =some x)(hn:∀y∈l.take i,¬x=y):O1 l x=i:=by
 unfold O1
 have:l.findIdx? (λy=>decide (x=y))=some i:=by
  rw[AJ]
  obtain⟨h1,h2⟩:=Ad.1 h
  refine⟨h1,by simp[h2],λj hj=>?_⟩
  have:=hn l[j] (AU.2 ⟨j,by omega,rfl⟩)
  simp[this]
 rw[this]
theorem RJ {l:List Int} {x:Int}(h:¬x∈l):O1 l x=-1:=by
 unfold O1
 have:l.findIdx? (λy=>decide (x=y))=none:=by
  rw[AK]
  intro y hy
  have:¬x=y:=λe=>h (e▸hy)
  simp[this]
 rw[this]
theorem UZ {l:List Int} {x:Int}(h:x∈l):0<=O1 l x:=by
 unfold O1
 split
 ·omega
 ·rename_i hn
  rw[AK]at hn
  have:=hn x h
  simp at this
end Go.Gr
namespace Go.Proofs.YtjejpdfldmempaaGreatDoor
open Go.Sx Go.RowKit Go.Reg Go.Gr
set_option maxRecDepth 100000
theorem Jv {O:List Nat} {w:World} {l:List Int} {v:Value}(h:Rep O w (Bx l) v):l.length<=9223372036854775807:=by
 have:=Yt h
 rw[Ac]at this
 unfold maxLen at this
 omega
theorem Pure.len1 {f:FuncId} {l:List Int} {xs:List Da} {Q:Da->Prop}(h:l.length<=9223372036854775807->Sx.Pure C1 f (Bx l::xs) Q):Sx.Pure C1 f (Bx l::xs) Q:=
 Sx.Pure.assume (λO w us hr=>by obtain⟨v,vs,rfl,h1,_⟩:=Cb hr;exact Jv h1) h
theorem Ld(l:List Int)(x:Int):Pure C1 128 [Bx l,.int .i64 x] (λy=>y=.int .i64 (O1 l x)):=by
 refine Pure.len1 λhm=>?_
 have hl:(l.map dI).length=l.length:=Ac _
 refine AT Tryz.func128 Tryz.ntmps128 [] [] ?_
 ((conv=>whnf);repeat' ((first|refine odw ?_|refine nx ?_|refine A5 (λ_=>?_) (λ_=>?_))<;>conv=>whnf))
 refine AN (ι:=Nat) (λi=>i<=l.length/\∀y∈l.take i,¬x=y) (λi=>[(8,.d (.int .i64 i)),(7,.d (.int .i64 (l.map dI).length)),(1,.d (.int .i64 x)),(0,.d (Bx l))]) (λ_=>[]) (λi=>l.length-i) 0 (λ_=>rfl) ⟨As _,by simp⟩ (.refl _ _) ⟨rfl,rfl,rfl,rfl,trivial⟩ trivial ?_
 rintro i ⟨hi,hne⟩
 refine BV [] [] ?_
 by_cases hlt:i<l.length
 ·have hx:=Ab hlt
  generalize l[i]=y at hx
  have hxd:(l.map dI)[i]? =some (.int .i64 y):=by rw[Af,hx];rfl
  by_cases he:x=y
  ·subst he
   rw[mG hx hne]
   (conv=>whnf)
   (repeat' ((first|refine Ai ?_ ?_|refine AM hxd rfl ?_|refine nx ?_|refine A5 (λ_=>?_) (λ_=>?_)|exact AA)<;>conv=>whnf))
   exact rfl
  ·(conv=>whnf)
   (repeat' ((first|refine Ai ?_ ?_|refine AM hxd rfl ?_|refine nx ?_|refine A5 (λ_=>?_) (λ_=>?_)|exact AA)<;>conv=>whnf))
   refine⟨i+1,_,_,⟨hlt,?_⟩,.refl _ _,⟨rfl,rfl,rfl,rfl,trivial⟩,trivial,by omega⟩
   intro z hz
   rw[A2,hx]at hz
   rcases Ag.1 hz with hz|hz
   ·exact hne z hz
   ·simp at hz;subst hz;exact he
 ·have hii:l.take i=l:=Ao (by omega)
  rw[hii]at hne
  rw[RJ (λh=>hne x h rfl)]
  ((conv=>whnf);repeat' ((first|refine odw ?_|refine nx ?_|refine A5 (λ_=>?_) (λ_=>?_))<;>conv=>whnf))
  exact rfl
theorem FT(l:List Int)(x:Int):Pure C1 186 [Bx l,.int .i64 x] (λy=>y=.bool (decide (x∈l))):=by
 refine AT Tryz.func186 Tryz.ntmps186 [] [] ?_
 ((conv=>whnf);repeat' ((first|refine odw ?_|refine nx ?_|refine A5 (λ_=>?_) (λ_=>?_))<;>conv=>whnf))
 refine Aj rfl (Ld l x) ?_
 by_cases h:x∈l
 ·have:=UZ h
  ((conv=>whnf);repeat' ((first|refine odw ?_|refine nx ?_|refine A5 (λ_=>?_) (λ_=>?_))<;>conv=>whnf))
  show Da.plain _=_
  simp[Da.plain,h,this]
 ·rw[RJ h]
  ((conv=>whnf);repeat' ((first|refine odw ?_|refine nx ?_|refine A5 (λ_=>?_) (λ_=>?_))<;>conv=>whnf))
  show Da.plain _=_
  simp[Da.plain,h]
theorem RS(G:Gr)(l:List Int)(hb:l.length<=4294967296):Pure C1 127 [dG G,Bx l] (λy=>y=Er (BJ G.edges l)):=by
 have hl:(l.map dI).length=l.length:=Ac _
 refine AT Tryz.func127 Tryz.ntmps127 [] [] ?_
 ((conv=>whnf);repeat' ((first|refine odw ?_|refine nx ?_|refine A5 (λ_=>?_) (λ_=>?_))<;>conv=>whnf))
 refine AN (ι:=Nat) (λi=>i<=l.length) (λi=>[(12,.d (.int .i64 i)),(11,.d (.int .i64 (l.map dI).length)),(10,.d (Bx l)),(5,.own 300),(0,.d (dG G))]) (λi=>[(300,.slice 103 2 ((BJ G.edges (l.take i)).map dE))]) (λi=>l.length-i) 0 (λ_=>rfl) (As _)
  (.own 5 300 103 2 rfl rfl (.refl _ _)) ⟨rfl,rfl,rfl,rfl,rfl,trivial⟩ ⟨rfl,trivial⟩ ?_
 intro i hi
 refine BV [] [] ?_
 by_cases hlt:i<l.length
 ·have hx:=Ab hlt
  generalize l[i]=x at hx
  have hxd:(l.map dI)[i]? =some (.int .i64 x):=by rw[Af,hx];rfl
  have htk:l.take (i+1)=l.take i++[x]:=by rw[A2,hx];rfl
  have hel:=Lh G.edges (l.take i)
  rw[Aw]at hel
  (conv=>whnf)
  (repeat' ((first|refine Ai ?_ ?_|refine AM hxd rfl ?_|refine nx ?_|refine A5 (λ_=>?_) (λ_=>?_)|exact AA)<;>conv=>whnf))
  refine Aj rfl (HV G x) ?_
  by_cases h:0<=x/\x<G.edges.length
  ·obtain⟨m,rfl⟩:=A1 h.1
   have hy:=Ab (show m<G.edges.length by omega)
   have e:DK G.edges (m:Int)=.tuple [dE G.edges[m],.bool true]:=by unfold DK;rw[if_pos h,Be,hy];rfl
   rw[e]
   have hen:=aV (l:=l.take i) hy
   generalize G.edges[m]=z at hy hen
   have hfin:(BJ G.edges (l.take i)).map dE++[dE z]=(BJ G.edges (l.take (i+1))).map dE:=by rw[htk,hen,AF];rfl
   ((conv=>whnf);repeat' ((first|refine odw ?_|refine nx ?_|refine A5 (λ_=>?_) (λ_=>?_))<;>conv=>whnf))
   exact⟨i+1,_,_,hlt,.refl _ _,⟨rfl,rfl,rfl,rfl,rfl,trivial⟩,⟨Bj hfin,trivial⟩,by omega⟩
  ·have e:DK G.edges x=.tuple [dE ⟨0,0⟩,.bool false]:=by unfold DK;rw[if_neg h]
   rw[e]
   have hfin:(BJ G.edges (l.take i)).map dE=(BJ G.edges (l.take (i+1))).map dE:=by rw[htk,XE h]
   ((conv=>whnf);repeat' ((first|refine odw ?_|refine nx ?_|refine A5 (λ_=>?_) (λ_=>?_))<;>conv=>whnf))
   exact⟨i+1,_,_,hlt,.refl _ _,⟨rfl,rfl,rfl,rfl,rfl,trivial⟩,⟨Bj hfin,trivial⟩,by omega⟩
 ·have hii:l.take i=l:=Ao (by omega)
  rw[hii]
  ((conv=>whnf);repeat' ((first|refine odw ?_|refine nx ?_|refine A5 (λ_=>?_) (λ_=>?_))<;>conv=>whnf))
  exact rfl
theorem Wh(G:Gr)(l:List Int)(hb:l.length<=2147483000):Pure C1 126 [dG G,Bx l] (λy=>y=Bx (BN (BJ G.edges l))):=by
 refine AT Tryz.func126 Tryz.ntmps126 [] [] ?_
 ((conv=>whnf);repeat' ((first|refine odw ?_|refine nx ?_|refine A5 (λ_=>?_) (λ_=>?_))<;>conv=>whnf))
 refine Aj rfl (RS G l (by omega)) ?_
 have hL:=Lh G.edges l
 generalize BJ G.edges l=L at hL⊢
 have hl:(L.map dE).length=L.length:=Ac _
 ((conv=>whnf);repeat' ((first|refine odw ?_|refine nx ?_|refine A5 (λ_=>?_) (λ_=>?_))<;>conv=>whnf))
 refine AN (ι:=Nat) (λi=>i<=L.length) (λi=>[(14,.d (.int .i64 i)),(13,.d (.int .i64 (L.map dE).length)),(12,.d (Er L)),(5,.own 300)]) (λi=>[(300,.slice 3 1 ((BN (L.take i)).map dI))]) (λi=>L.length-i) 0 (λ_=>rfl) (As _)
  (.own 5 300 3 1 rfl rfl (.refl _ _)) ⟨rfl,rfl,rfl,rfl,trivial⟩ ⟨rfl,trivial⟩ ?_
 intro i hi
 refine BV [] [] ?_
 by_cases hlt:i<L.length
 ·have hx:=Ab hlt
  have htk:=λx (h:L[i]? =some x)=>DG h
  have hvl:=NO (L.take i)
  rw[Aw]at hvl
  generalize L[i]=e at hx
  obtain⟨ea,eb⟩:=e
  have hxd:(L.map dE)[i]? =some (.agg [.int .i64 ea,.int .i64 eb]):=by rw[Af,hx];rfl
  have hst:BN (L.take (i+1))=Ge (Ge (BN (L.take i)) ea) eb:=by rw[htk _ hx,Im]
  generalize BN (L.take i)=out at hst hvl⊢
  (conv=>whnf)
  (repeat' ((first|refine Ai ?_ ?_|refine AM hxd rfl ?_|refine nx ?_|refine A5 (λ_=>?_) (λ_=>?_)|exact AA)<;>conv=>whnf))
  refine AN (ι:=Nat) (λk=>k<=2) (λk=>[(24,.d (.int .i64 k)),(23,.d (.int .i64 2)),(22,.d (Bx [ea,eb])),(14,.d (.int .i64 i)),(13,.d (.int .i64 (L.map dE).length)),(12,.d (Er L)),(5,.own 300)]) (λk=>[(300,.slice 3 1 ((([ea,eb].take k).foldl Ge out).map dI))]) (λk=>2-k) 0 (λ_=>rfl) (As _)
   (.frz 22 rfl (.refl _ _)) ⟨rfl,rfl,rfl,rfl,rfl,rfl,rfl,trivial⟩ ⟨rfl,trivial⟩ ?_
  intro k hk
  refine BV [] [] ?_
  have round:∀(x:Int) (o:List Int),[ea,eb][k]? =some x->([ea,eb].take k).foldl Ge out=o->([ea,eb].take (k+1)).foldl Ge out=Ge o x:=λx o h1 h2=>by
   rw[A2,h1,List.foldl_append,h2];rfl
  have hol:(([ea,eb].take k).foldl Ge out).length<=out.length+2:=by
   have a1:=MJ out ea
   have a2:=MJ (Ge out ea) eb
   rcases(show k=0\/k=1\/k=2 by omega)with rfl|rfl|rfl
   ·simp
   ·simp;omega
   ·simp;omega
  by_cases hk2:k<2
  ·obtain⟨x,hxk⟩:∃x,[ea,eb][k]? =some x:=⟨_,Ab hk2⟩
   have hxkd:([ea,eb].map dI)[k]? =some (.int .i64 x):=by rw[Af,hxk];rfl
   generalize ho:([ea,eb].take k).foldl Ge out=o at hol⊢
   have hr:=round x o hxk ho
   (conv=>whnf)
   (repeat' ((first|refine Ai ?_ ?_|refine AM hxkd rfl ?_|refine Bc tab rfl (FT o x) rfl ?_|refine nx ?_|refine A5 (λ_=>?_) (λ_=>?_)|exact AA)<;>conv=>whnf))
   by_cases hin:x∈o
   ·have hr2:o.map dI=(([ea,eb].take (k+1)).foldl Ge out).map dI:=by rw[hr];unfold Ge;rw[if_pos hin]
    rw[decide_eq_true hin]
    ((conv=>whnf);repeat' ((first|refine odw ?_|refine nx ?_|refine A5 (λ_=>?_) (λ_=>?_))<;>conv=>whnf))
    exact⟨k+1,_,_,hk2,.refl _ _,⟨rfl,rfl,rfl,rfl,rfl,rfl,rfl,trivial⟩,⟨Bj hr2,trivial⟩,by omega⟩
   ·have hr2:o.map dI++[.int .i64 x]=(([ea,eb].take (k+1)).foldl Ge out).map dI:=by rw[hr];unfold Ge;rw[if_neg hin,AF];rfl
    rw[decide_eq_false hin]
    ((conv=>whnf);repeat' ((first|refine odw ?_|refine nx ?_|refine A5 (λ_=>?_) (λ_=>?_))<;>conv=>whnf))
    exact⟨k+1,_,_,hk2,.refl _ _,⟨rfl,rfl,rfl,rfl,rfl,rfl,rfl,trivial⟩,⟨Bj hr2,trivial⟩,by omega⟩
  ·have:k=2:=by omega
   subst this
   have hr2:(([ea,eb].take 2).foldl Ge out).map dI=(BN (L.take (i+1))).map dI:=by rw[hst];rfl
   ((conv=>whnf);repeat' ((first|refine odw ?_|refine nx ?_|refine A5 (λ_=>?_) (λ_=>?_))<;>conv=>whnf))
   exact⟨i+1,_,_,hlt,.refl _ _,⟨rfl,rfl,rfl,rfl,trivial⟩,⟨Bj hr2,trivial⟩,by omega⟩
 ·have hii:L.take i=L:=Ao (by omega)
  rw[hii]
  ((conv=>whnf);repeat' ((first|refine odw ?_|refine nx ?_|refine A5 (λ_=>?_) (λ_=>?_))<;>conv=>whnf))
  exact rfl
end Go.Proofs.YtjejpdfldmempaaGreatDoor
end
section
namespace Go.Gr
def rL(E:List Edg)(e:Edg):Int:=if e∈E then(GC E e:Int)else-1
theorem RA:∀(E:List Edg) (e:Edg) (m:Nat),m<=E.length->(∀x∈E.take m,BW x e<0)->(∀x∈E.drop m,¬BW x e<0)->GC E e=m:=by
 intro E e m hm h1 h2
 unfold GC
 rw[<-CA m E,List.countP_append]
 have e1:(E.take m).countP (λx=>decide (BW x e<0))=(E.take m).length:=List.countP_eq_length.2 λx hx=>by simp[h1 x hx]
 have e2:(E.drop m).countP (λx=>decide (BW x e<0))=0:=List.countP_eq_zero.2 λx hx=>by have:=h2 x hx;simpa using this
 rw[e1,e2,Aw];omega
theorem KM {E:List Edg}(h:BX E) {i j:Nat} {x y:Edg}(hi:E[i]? =some x)(hj:E[j]? =some y)(hij:i<j):BW x y<0:=by
 obtain⟨h1,rfl⟩:=Ad.1 hi
 obtain⟨h2,rfl⟩:=Ad.1 hj
 exact AI.1 h i j h1 h2 hij
theorem TI {E:List Edg}(h:BX E) {m:Nat} {y e:Edg}(hm:E[m]? =some y)(he:BW y e<0):∀x∈E.take (m+1),BW x e<0:=by
 intro x hx
 obtain⟨i,hi,rfl⟩:=AU.1 hx
 by_cases h2:i=m
 ·subst h2
  rw[Ab (by omega)]at hm
  rw[BG hm];exact he
 ·exact EZ (KM h (Ab (by omega)) hm (by omega)) he
theorem NQ {E:List Edg}(h:BX E) {m:Nat} {y e:Edg}(hm:E[m]? =some y)(he:¬BW y e<0):∀x∈E.drop m,¬BW x e<0:=by
 intro x hx hc
 obtain⟨i,hi,rfl⟩:=Ii.1 hx
 by_cases h2:i=0
 ·subst h2
  rw[Ab (by omega)]at hm
  have:=BG hm
  simp only[D3]at hc
  rw[this]at hc;exact he hc
 ·exact he (EZ (KM h hm (Ab (by omega)) (by omega)) hc)
theorem lY {E:List Edg}(h:BX E) {m:Nat} {e:Edg}(h1:E[m]? =some e):GC E e=m:=by
 have hm:=(Ad.1 h1).1
 refine RA E e m (by omega) (λx hx=>?_) (NQ h h1 (VB e))
 obtain⟨i,hi,rfl⟩:=AU.1 hx
 exact KM h (Ab (by omega)) h1 (by omega)
theorem qH(E:List Edg)(e:Edg):GC E e<=E.length:=List.countP_le_length
theorem gL {E:List Edg}(h:BX E) {e:Edg}(he:e∈E):E[GC E e]? =some e:=by
 obtain⟨m,hm⟩:=List.mem_iff_getElem?.1 he
 rw[lY h hm];exact hm
theorem mL {E:List Edg} {e:Edg}(h:¬e∈E):rL E e=-1:=by rw[rL,if_neg h]
theorem qK {E:List Edg} {e:Edg}:0<=rL E e↔e∈E:=by
 unfold rL
 split
 ·rename_i h;exact⟨λ_=>h,λ_=>by omega⟩
 ·rename_i h;exact⟨λh2=>by omega,λh2=>absurd h2 h⟩
end Go.Gr
namespace Go.Sx
theorem Sj {e:Int} {K:Int->Prop}(h:0<=e/\e<=18446744073709551615)(hK:K e):∃n,IntKind.u64.wrap e=n/\K n:=⟨e,IntWalk.u64_in e h,hK⟩
theorem Td(m:Nat) {e:Int} {K:Int->Prop}(h:e=m)(hm:m<=9223372036854775807)(hK:K (m:Int)):∃n,IntKind.i64.wrap e=n/\K n:=by
 subst h;exact⟨_,QT ⟨by omega,by omega⟩,hK⟩
theorem Ms(x y:Nat):((x:Int)+(y:Int)).fdiv (2^1)=((x+y)/2:Nat):=by
 rw[show((2:Int)^1)=2 by decide,Int.fdiv_eq_ediv_of_nonneg _ (by omega)];omega
end Go.Sx
namespace Go.Proofs.YtjejpdfldmempaaGreatDoor
open Go.Sx Go.RowKit Go.Reg Go.Gr
set_option maxRecDepth 100000
def fN:List (Nat×Plan):=[(5,.leaf [0,0,0,0,1,1,3,0] [0,1,2,3,4,5,6,7] [0,0,0,6,14,0,63,127]),
 (8,.leaf [0,0,0,0,0,0,0,0,0,1,1,3,0,0,0,0] [0,1,2,3,4,5,6,7,8,9,10,11,12,13,14,15] [0,0,0,6,14,30,30,30,222,478,30,2046,4094,8190,4095,32767])]
theorem KH(F:FuncId)(hF:∀x y:Edg,Pure C1 F [dE x,dE y] (λr=>r=.int .i64 (BW x y)))(E:List Edg)(hE:BX E)(hl:E.length<=16384)(e:Edg):Pure C1 193 [Er E,dE e,.func (.func F) [] []] (λy=>y=.tuple [.int .i64 (GC E e),.bool (decide (e∈E))]):=by
 have hlm:(E.map dE).length=E.length:=Ac _
 refine AT Tryz.func193 Tryz.ntmps193 [] fN ?_
 ((conv=>whnf);repeat' ((first|refine odw ?_|refine nx ?_|refine A5 (λ_=>?_) (λ_=>?_))<;>conv=>whnf))
 refine AN (ι:=Nat×Nat) (λx=>x.1<=x.2/\x.2<=E.length/\(∀z∈E.take x.1,BW z e<0)/\∀z∈E.drop x.2,¬BW z e<0)
  (λx=>[(10,.d (.int .i64 x.2)),(9,.d (.int .i64 x.1)),(8,.d (.int .i64 (E.map dE).length)),(4,.own 4),(2,.d (.func (.func F) [] [])),(0,.d (Er E))])
  (λ_=>[(4,.cells 103 (Dat.cellsOf (.d (dE e))))]) (λx=>x.2-x.1) (0,(E.map dE).length) (λ_=>rfl) ⟨As _,by rw[hlm];exact Av _,by simp,by rw[hlm];simp⟩ (.refl _ _) ⟨rfl,rfl,rfl,rfl,rfl,rfl,trivial⟩ ⟨rfl,trivial⟩ ?_
 rintro⟨lo,hi⟩ ⟨h1,h2,h3,h4⟩
 dsimp only at h1 h2 h3 h4
 refine BV [] fN ?_
 by_cases hlt:lo<hi
 ·have hx:=Ab (l:=E) (i:=(lo+hi)/2) (by omega)
  generalize E[(lo+hi)/2]'(by omega)=z at hx
  have hxd:(E.map dE)[(lo+hi)/2]? =some (dE z):=by rw[Af,hx];rfl
  by_cases hz:BW z e<0
  ·(conv=>whnf)
   (repeat' ((first|refine Ai ?_ ?_|refine Sj (by omega) ?_|refine nx ?_|refine A5 (λ_=>?_) (λ_=>?_)|exact AA)<;>conv=>whnf))
   refine SH 1 rfl rfl rfl (by decide) rfl rfl ?_
   (conv=>whnf)
   (repeat' ((first|refine Ai ?_ ?_|refine Td ((lo+hi)/2) (Ms lo hi) (by omega) ?_|refine AM hxd rfl ?_|refine Aj rfl (hF z e) ?_|refine nx ?_|refine A5 (λ_=>?_) (λ_=>?_)|exact AA)<;>conv=>whnf))
   exact⟨((lo+hi)/2+1,hi),_,_,⟨by dsimp only;omega,h2,TI hE hx hz,h4⟩,.refl _ _,⟨rfl,rfl,rfl,rfl,rfl,rfl,trivial⟩,⟨rfl,trivial⟩,by dsimp only;omega⟩
  ·(conv=>whnf)
   (repeat' ((first|refine Ai ?_ ?_|refine Sj (by omega) ?_|refine nx ?_|refine A5 (λ_=>?_) (λ_=>?_)|exact AA)<;>conv=>whnf))
   refine SH 1 rfl rfl rfl (by decide) rfl rfl ?_
   (conv=>whnf)
   (repeat' ((first|refine Ai ?_ ?_|refine Td ((lo+hi)/2) (Ms lo hi) (by omega) ?_|refine AM hxd rfl ?_|refine Aj rfl (hF z e) ?_|refine nx ?_|refine A5 (λ_=>?_) (λ_=>?_)|exact AA)<;>conv=>whnf))
   exact⟨(lo,(lo+hi)/2),_,_,⟨by dsimp only;omega,by dsimp only;omega,h3,NQ hE hx hz⟩,.refl _ _,⟨rfl,rfl,rfl,rfl,rfl,rfl,trivial⟩,⟨rfl,trivial⟩,by dsimp only;omega⟩
 ·have hb:GC E e=lo:=RA E e lo (by omega) h3 (by rw[show lo=hi by omega];exact h4)
  rw[hb]
  by_cases hln:lo<E.length
  ·have hx:=Ab hln
   generalize E[lo]=z at hx
   have hxd:(E.map dE)[lo]? =some (dE z):=by rw[Af,hx];rfl
   have hm:e∈E↔BW z e=0:=by
    rw[nE]
    refine⟨λh=>?_,λh=>h▸AD hx⟩
    have:=gL hE h
    rw[hb,hx]at this
    exact BG this
   by_cases hz:BW z e=0
   ·rw[decide_eq_true (hm.2 hz)]
    (conv=>whnf)
    (repeat' ((first|refine Ai ?_ ?_|refine AM hxd rfl ?_|refine Aj rfl (hF z e) ?_|refine nx ?_|refine A5 (λ_=>?_) (λ_=>?_)|exact AA)<;>conv=>whnf))
    show Da.plain (.tuple [_,.prop _ _])=_
    simp[Da.plain,Hi,hz]
   ·rw[decide_eq_false (λh=>hz (hm.1 h))]
    (conv=>whnf)
    (repeat' ((first|refine Ai ?_ ?_|refine AM hxd rfl ?_|refine Aj rfl (hF z e) ?_|refine nx ?_|refine A5 (λ_=>?_) (λ_=>?_)|exact AA)<;>conv=>whnf))
    show Da.plain (.tuple [_,.prop _ _])=_
    simp[Da.plain,Hi,hz]
  ·have hm:¬e∈E:=λh=>by
    have:=gL hE h
    rw[hb,BB (by omega)]at this
    cases this
   rw[decide_eq_false hm]
   ((conv=>whnf);repeat' ((first|refine odw ?_|refine nx ?_|refine A5 (λ_=>?_) (λ_=>?_))<;>conv=>whnf))
   exact rfl
theorem ME(E:List Edg)(hE:BX E)(hl:E.length<=16384)(e:Edg):Pure C1 193 [Er E,dE e,.func (.func 166) [] []] (λy=>y=.tuple [.int .i64 (GC E e),.bool (decide (e∈E))]):=KH _ WU E hE hl e
def pY:List (Nat×Plan):=[(3,.leaf [0,0,0,1,0,0,0,2,2,0,0,0,0,0] [0,1,2,4,5,6,3,7,8,9,10,11,12,13] [0,1,3,7,0,0,48,112,255,511,1023,1023,2047,8191])]
def tK:List FuncId:=[165,193]
theorem mK(G:Gr)(hG:G.Ok)(a b:Int):Pure C1 196 [dG G,.int .i64 a,.int .i64 b] (λy=>y=.int .i64 (rL G.edges (turn ⟨a,b⟩))):=by
 refine AT Tryz.func196 Tryz.ntmps196 tK pY ?_
 have hc:Pure C1 165 [dE ⟨a,b⟩] (λy=>y=dE (turn ⟨a,b⟩)):=FU ⟨a,b⟩
 by_cases h:turn ⟨a,b⟩∈G.edges
 ·have hb:=ME G.edges hG.sorted hG.esize (turn ⟨a,b⟩)
  rw[decide_eq_true h]at hb
  rw[show rL G.edges (turn ⟨a,b⟩)=GC G.edges (turn ⟨a,b⟩)from if_pos h]
  (conv=>whnf)
  (repeat' ((first|refine Ai ?_ ?_|refine Aj rfl hc ?_|refine Aj rfl hb ?_|refine nx ?_|refine A5 (λ_=>?_) (λ_=>?_)|exact AA)<;>conv=>whnf))
  exact rfl
 ·have hb:=ME G.edges hG.sorted hG.esize (turn ⟨a,b⟩)
  rw[decide_eq_false h]at hb
  rw[mL h]
  (conv=>whnf)
  (repeat' ((first|refine Ai ?_ ?_|refine Aj rfl hc ?_|refine Aj rfl hb ?_|refine nx ?_|refine A5 (λ_=>?_) (λ_=>?_)|exact AA)<;>conv=>whnf))
  exact rfl
def tL:List FuncId:=[196]
theorem RK(G:Gr)(hG:G.Ok)(a b:Int):Pure C1 132 [dG G,.int .i64 a,.int .i64 b] (λy=>y=.bool (decide (turn ⟨a,b⟩∈G.edges))):=by
 refine AT Tryz.func132 Tryz.ntmps132 tL [] ?_
 (conv=>whnf)
 (repeat' ((first|refine Ai ?_ ?_|refine Aj rfl (mK G hG a b) ?_|refine nx ?_|refine A5 (λ_=>?_) (λ_=>?_)|exact AA)<;>conv=>whnf))
 show Da.plain _=_
 simp[Da.plain,qK]
end Go.Proofs.YtjejpdfldmempaaGreatDoor
end
section
namespace Go.Gr
def Ka:Option Nat->Int
 |some i=>i
 |none=>-1
def Qf(l:List Int)(p:Int->Bool):Int:=Ka (l.findIdx? p)
theorem mH {l:List Int} {p:Int->Bool} {i:Nat} {x:Int}(h:l[i]? =some x)(hx:p x=true)(hn:∀y∈l.take i,p y=false):Qf l p=i:=by
 unfold Qf
 have:l.findIdx? p=some i:=by
  rw[AJ]
  obtain⟨h1,h2⟩:=Ad.1 h
  refine⟨h1,by rw[h2];exact hx,λj hj=>?_⟩
  have:=hn l[j] (AU.2 ⟨j,by omega,rfl⟩)
  simp[this]
 rw[this];rfl
theorem aM {l:List Int} {p:Int->Bool}(h:∀y∈l,p y=false):Qf l p=-1:=by
 unfold Qf
 have:l.findIdx? p=none:=by rw[AK];exactλy hy=>by simp[h y hy]
 rw[this];rfl
theorem Mq(l:List Int)(p:Int->Bool):0<=Qf l p↔l.any p=true:=by
 unfold Qf
 cases h:l.findIdx? p with
 |
  none=>
  rw[AK]at h
  simp only[Ka]
  refine⟨λh=>by omega,λh2=>?_⟩
  rw[BM]at h2
  obtain⟨x,hx,hp⟩:=h2
  have:=h x hx
  simp[hp]at this
 |
  some i=>
  rw[AJ]at h
  obtain⟨h1,h2,_⟩:=h
  simp only[Ka]
  exact⟨λ_=>BM.2 ⟨_,Bi h1,h2⟩,λ_=>by omega⟩
end Go.Gr
namespace Go.Sx
theorem nN(xs:List Da):DY (B8 xs)=some xs:=by
 induction xs with
 |nil=>rfl
 |cons x xs ih=>simp[B8,DY,ih]
theorem Em(x:Da)(xs:List Da):DY (.d x::B8 xs)=some (x::xs):=by simp[DY,nN]
end Go.Sx
namespace Go.Proofs.YtjejpdfldmempaaGreatDoor
open Go.Sx Go.RowKit Go.Reg Go.Gr
set_option maxRecDepth 100000
theorem GX(l:List Int)(g:FuncId)(cs:List Da)(p:Int->Bool)(hp:∀x∈l,Pure C1 g (.int .i64 x::cs) (λy=>y=.bool (p x))):Pure C1 231 [Bx l,.func (.func g) [] cs] (λy=>y=.int .i64 (Qf l p)):=by
 refine Pure.len1 λhm=>?_
 have hl:(l.map dI).length=l.length:=Ac _
 refine AT Tryz.func231 Tryz.ntmps231 [] [] ?_
 ((conv=>whnf);repeat' ((first|refine odw ?_|refine nx ?_|refine A5 (λ_=>?_) (λ_=>?_))<;>conv=>whnf))
 refine AN (ι:=Nat) (λi=>i<=l.length/\∀y∈l.take i,p y=false) (λi=>[(8,.d (.int .i64 i)),(7,.d (.int .i64 (l.map dI).length)),(1,.d (.func (.func g) [] cs)),(0,.d (Bx l))]) (λ_=>[]) (λi=>l.length-i) 0 (λ_=>rfl) ⟨As _,by simp⟩ (.refl _ _) ⟨rfl,rfl,rfl,rfl,trivial⟩ trivial ?_
 rintro i ⟨hi,hne⟩
 refine BV [] [] ?_
 by_cases hlt:i<l.length
 ·have hx:=Ab hlt
  generalize l[i]=y at hx
  have hxd:(l.map dI)[i]? =some (.int .i64 y):=by rw[Af,hx];rfl
  have hpy:=hp y (AD hx)
  cases hy:p y with
  |
   true=>
   rw[hy]at hpy
   rw[mH hx hy hne]
   (conv=>whnf)
   (repeat' ((first|refine Ai ?_ ?_|refine AM hxd rfl ?_|refine Aj (Em _ _) hpy ?_|refine nx ?_|refine A5 (λ_=>?_) (λ_=>?_)|exact AA)<;>conv=>whnf))
   exact rfl
  |
   false=>
   rw[hy]at hpy
   (conv=>whnf)
   (repeat' ((first|refine Ai ?_ ?_|refine AM hxd rfl ?_|refine Aj (Em _ _) hpy ?_|refine nx ?_|refine A5 (λ_=>?_) (λ_=>?_)|exact AA)<;>conv=>whnf))
   refine⟨i+1,_,_,⟨hlt,?_⟩,.refl _ _,⟨rfl,rfl,rfl,rfl,trivial⟩,trivial,by omega⟩
   intro z hz
   rw[A2,hx]at hz
   rcases Ag.1 hz with hz|hz
   ·exact hne z hz
   ·simp at hz;subst hz;exact hy
 ·have hii:l.take i=l:=Ao (by omega)
  rw[hii]at hne
  rw[aM hne]
  ((conv=>whnf);repeat' ((first|refine odw ?_|refine nx ?_|refine A5 (λ_=>?_) (λ_=>?_))<;>conv=>whnf))
  exact rfl
theorem QV(G:Gr)(v:Int):Pure C1 184 [dG G,.int .i64 v] (λy=>y=.bool (E0 G v)):=by
 refine AT Tryz.func184 Tryz.ntmps184 [] [] ?_
 by_cases h0:0<=v
 ·(conv=>whnf)
  (repeat' ((first|refine Ai ?_ ?_|refine Aj rfl (HH G) ?_|refine nx ?_|refine A5 (λ_=>?_) (λ_=>?_)|exact AA)<;>conv=>whnf))
  show Da.plain _=_
  simp[Da.plain,E0,h0]
 ·have:E0 G v=false:=by simp[E0,h0]
  rw[this]
  ((conv=>whnf);repeat' ((first|refine odw ?_|refine nx ?_|refine A5 (λ_=>?_) (λ_=>?_))<;>conv=>whnf))
  exact rfl
def rC:List FuncId:=[132]
def Gd(E:List Edg)(v:Int)(u:Int):Bool:=decide (turn ⟨u,v⟩∈E)
theorem bN(G:Gr)(hG:G.Ok)(v u:Int):Pure C1 232 [.int .i64 u,.ref (dG G),.ref (.int .i64 v)] (λy=>y=.bool (Gd G.edges v u)):=by
 refine AT Tryz.func232 Tryz.ntmps232 rC [] ?_
 (conv=>whnf)
 (repeat' ((first|refine Ai ?_ ?_|refine Aj rfl (RK G hG u v) ?_|refine nx ?_|refine A5 (λ_=>?_) (λ_=>?_)|exact AA)<;>conv=>whnf))
 exact rfl
def sP:List FuncId:=[231]
def VG(E:List Edg)(l:List Int)(v:Int):Int:=Qf l (Gd E v)
theorem VF(G:Gr)(hG:G.Ok)(l:List Int)(v:Int):Pure C1 185 [dG G,Bx l,.int .i64 v] (λy=>y=.int .i64 (VG G.edges l v)):=by
 refine AT Tryz.func185 Tryz.ntmps185 sP [] ?_
 (conv=>whnf)
 (repeat' ((first|refine Ai ?_ ?_|refine Bc tab rfl (GX l _ [.ref (dG G),.ref (.int .i64 v)] _ (λu _=>bN G hG v u)) rfl ?_|refine nx ?_|refine A5 (λ_=>?_) (λ_=>?_)|exact AA)<;>conv=>whnf))
 exact rfl
end Go.Proofs.YtjejpdfldmempaaGreatDoor
namespace Go.Proofs.YtjejpdfldmempaaGreatDoor
open Go.Sx Go.RowKit Go.Reg Go.Gr
set_option maxRecDepth 100000
def CQ(G:Gr)(l:List Int)(i:Nat)(v:Int):Bool:=E0 G v&&(!decide (v∈l.take i)&&(decide (i=0)||(l.take i).any (Gd G.edges v)))
def BK(G:Gr)(l:List Int):Bool:=(List.range l.length).all λi=>match l[i]? with
 |some v=>CQ G l i v
 |none=>true
theorem Ez {G:Gr} {l:List Int} {i:Nat} {v:Int}(h:l[i]? =some v)(h2:CQ G l i v=false):BK G l=false:=by
 unfold BK
 rw[List.all_eq_false]
 exact⟨i,by simp[(Ad.1 h).1],by simp[h,h2]⟩
theorem Jq {G:Gr} {l:List Int}(h:∀(i:Nat) (v:Int),l[i]? =some v->CQ G l i v=true):BK G l=true:=by
 unfold BK
 rw[Cr]
 intro i _
 cases hx:l[i]? with
 |none=>rfl
 |some v=>exact h i v hx
theorem Jy {len i:Nat} {n:Int} {K:Nat->Prop}(hn:n=i)(hi:i<=len)(hK:K i):∃m:Nat,n=m/\m<=len/\K m:=⟨i,hn,hi,hK⟩
theorem M5(l:List Int)(i:Nat):Bx (l.take i)=.list 1 ((l.map dI).take i):=by unfold Bx;rw[Fy]
def oK:List FuncId:=[184,186,185]
theorem UM(G:Gr)(hG:G.Ok)(l:List Int):Pure C1 131 [dG G,Bx l] (λy=>y=.bool (BK G l)):=by
 refine Pure.assume (λO w us hr=>by obtain⟨v,vs,rfl,h1,h2⟩:=Cb hr;obtain⟨v2,vs2,rfl,h3,_⟩:=Cb h2;exact Jv h3) λhm=>?_
 have hl:(l.map dI).length=l.length:=Ac _
 refine AT Tryz.func131 Tryz.ntmps131 oK [] ?_
 ((conv=>whnf);repeat' ((first|refine odw ?_|refine nx ?_|refine A5 (λ_=>?_) (λ_=>?_))<;>conv=>whnf))
 refine AN (ι:=Nat) (λi=>i<=l.length/\∀(j:Nat) (v:Int),j<i->l[j]? =some v->CQ G l j v=true) (λi=>[(9,.d (.int .i64 i)),(8,.d (.int .i64 (l.map dI).length)),(7,.d (Bx l)),(1,.d (Bx l)),(0,.d (dG G))]) (λ_=>[]) (λi=>l.length-i) 0 (λ_=>rfl) ⟨As _,by intro j v h;omega⟩ (.refl _ _) ⟨rfl,rfl,rfl,rfl,rfl,trivial⟩ trivial ?_
 rintro i ⟨hi,hne⟩
 refine BV oK [] ?_
 by_cases hlt:i<l.length
 ·have hx:=Ab hlt
  generalize l[i]=y at hx
  have hxd:(l.map dI)[i]? =some (.int .i64 y):=by rw[Af,hx];rfl
  have h1:=QV G y
  have h2:=FT (l.take i) y
  have h3:=VF G hG (l.take i) y
  rw[M5]at h2 h3
  have hi2:i<=(l.map dI).length:=by omega
  cases hv:E0 G y with
  |
   false=>
   rw[hv]at h1
   rw[Ez hx (by simp[CQ,hv])]
   (conv=>whnf)
   (repeat' ((first|refine Ai ?_ ?_|refine AM hxd rfl ?_|refine Aj rfl h1 ?_|refine nx ?_|refine A5 (λ_=>?_) (λ_=>?_)|exact AA)<;>conv=>whnf))
   exact rfl
  |
   true=>
   rw[hv]at h1
   by_cases hc:y∈l.take i
   ·rw[decide_eq_true hc]at h2
    rw[Ez hx (by simp[CQ,hc])]
    (conv=>whnf)
    (repeat' ((first|refine Ai ?_ ?_|refine AM hxd rfl ?_|refine Aj rfl h1 ?_|refine Jy rfl hi2 ?_|refine Aj rfl h2 ?_|refine nx ?_|refine A5 (λ_=>?_) (λ_=>?_)|exact AA)<;>conv=>whnf))
    exact rfl
   ·rw[decide_eq_false hc]at h2
    by_cases h0:i=0
    ·have hyes:CQ G l i y=true:=by simp[CQ,hv,h0]
     (conv=>whnf)
     (repeat' ((first|refine Ai ?_ ?_|refine AM hxd rfl ?_|refine Aj rfl h1 ?_|refine Jy rfl hi2 ?_|refine Aj rfl h2 ?_|refine nx ?_|refine A5 (λ_=>?_) (λ_=>?_)|exact AA)<;>conv=>whnf))
     refine⟨i+1,_,_,⟨hlt,?_⟩,.refl _ _,⟨rfl,rfl,rfl,rfl,rfl,trivial⟩,trivial,by omega⟩
     intro j v hj hjv
     by_cases hji:j=i
     ·subst hji;rw[hx]at hjv;cases hjv;exact hyes
     ·exact hne j v (by omega) hjv
    ·by_cases hb:(l.take i).any (Gd G.edges y)=true
     ·have hyes:CQ G l i y=true:=by simp only[CQ,hv,hb,decide_eq_false hc];simp
      have hbn:¬VG G.edges (l.take i) y<0:=by have:=(Mq (l.take i) (Gd G.edges y)).2 hb;unfold VG;omega
      (conv=>whnf)
      (repeat' ((first|refine Ai ?_ ?_|refine AM hxd rfl ?_|refine Aj rfl h1 ?_|refine Jy rfl hi2 ?_|refine Aj rfl h2 ?_|refine Aj rfl h3 ?_|refine nx ?_|refine A5 (λ_=>?_) (λ_=>?_)|exact AA)<;>conv=>whnf))
      refine⟨i+1,_,_,⟨hlt,?_⟩,.refl _ _,⟨rfl,rfl,rfl,rfl,rfl,trivial⟩,trivial,by omega⟩
      intro j v hj hjv
      by_cases hji:j=i
      ·subst hji;rw[hx]at hjv;cases hjv;exact hyes
      ·exact hne j v (by omega) hjv
     ·have hno:CQ G l i y=false:=by simp only[CQ,hv,L2.2 hb,decide_eq_false h0];simp
      rw[Ez hx hno]
      have hbn:VG G.edges (l.take i) y<0:=by
                                                     have:¬0<=Qf (l.take i) (Gd G.edges y):=λh=>hb ((Mq _ _).1 h)
                                                     unfold VG;omega
      (conv=>whnf)
      (repeat' ((first|refine Ai ?_ ?_|refine AM hxd rfl ?_|refine Aj rfl h1 ?_|refine Jy rfl hi2 ?_|refine Aj rfl h2 ?_|refine Aj rfl h3 ?_|refine nx ?_|refine A5 (λ_=>?_) (λ_=>?_)|exact AA)<;>conv=>whnf))
      exact rfl
 ·rw[Jq (λj v h=>hne j v (by have:=(Ad.1 h).1;omega) h)]
  ((conv=>whnf);repeat' ((first|refine odw ?_|refine nx ?_|refine A5 (λ_=>?_) (λ_=>?_))<;>conv=>whnf))
  exact rfl
end Go.Proofs.YtjejpdfldmempaaGreatDoor
end
section
namespace Go.Gr
theorem P0 {l:List Int}(h:l.Pairwise (· < ·)) {i j:Nat} {x y:Int}(hi:l[i]? =some x)(hj:l[j]? =some y)(hij:i<j):x<y:=by
 obtain⟨h1,rfl⟩:=Ad.1 hi
 obtain⟨h2,rfl⟩:=Ad.1 hj
 exact AI.1 h i j h1 h2 hij
theorem ZC {l:List Int}(h:l.Pairwise (· < ·)) {m:Nat} {y e:Int}(hm:l[m]? =some y)(he:y<e):∀x∈l.take (m+1),x<e:=by
 intro x hx
 obtain⟨i,hi,rfl⟩:=AU.1 hx
 by_cases h2:i=m
 ·subst h2
  rw[Ab (by omega)]at hm
  rw[BG hm];exact he
 ·have:=P0 h (Ab (by omega)) hm (show i<m by omega)
  omega
theorem ZD {l:List Int}(h:l.Pairwise (· < ·)) {m:Nat} {y e:Int}(hm:l[m]? =some y)(he:¬y<e):∀x∈l.drop m,¬x<e:=by
 intro x hx hc
 obtain⟨i,hi,rfl⟩:=Ii.1 hx
 by_cases h2:i=0
 ·subst h2
  rw[Ab (by omega)]at hm
  have:=BG hm
  simp only[D3]at hc
  rw[this]at hc;exact he hc
 ·have:=P0 h hm (Ab (i:=m+i) (by omega)) (by omega)
  omega
theorem eM {l:List Int}(h:l.Pairwise (· < ·)) {m:Nat} {e:Int}(h1:∀x∈l.take m,x<e)(h2:∀x∈l.drop m,¬x<e):e∈l↔l[m]? =some e:=by
 refine⟨λhe=>?_,λh=>AD h⟩
 obtain⟨i,hi⟩:=List.mem_iff_getElem?.1 he
 have hil:=(Ad.1 hi).1
 have hie:=(Ad.1 hi).2
 by_cases h3:i<m
 ·have:=h1 e (hie▸AU.2 ⟨i,by omega,rfl⟩);omega
 ·by_cases h4:i=m
  ·subst h4;exact hi
  ·have hm:=Ab (l:=l) (i:=m) (by omega)
   have h5:=P0 h hm hi (by omega)
   have:=h2 _ (Ii.2 ⟨0,by omega,rfl⟩)
   simp only[D3]at this
   omega
end Go.Gr
namespace Go.Proofs.YtjejpdfldmempaaGreatDoor
open Go.Sx Go.RowKit Go.Reg Go.Gr
set_option maxRecDepth 100000
theorem aE(a b:Int):Pure C1 269 [.int .i64 a,.int .i64 b] (λy=>y=.bool (decide (a<b))):=by
 refine AT Tryz.func269 Tryz.ntmps269 [] [] ?_
 (conv=>whnf)
 (repeat' ((first|refine Ai ?_ ?_|refine Aj rfl (Me a) ?_|refine Aj rfl (Me b) ?_|refine nx ?_|refine A5 (λ_=>?_) (λ_=>?_)|exact AA)<;>conv=>whnf))
 exact rfl
theorem Zu(a:Int):Pure C1 277 [.int .i64 a] (λy=>y=.bool false):=by
 refine AT Tryz.func277 Tryz.ntmps277 [] [] ?_
 ((conv=>whnf);repeat' ((first|refine odw ?_|refine nx ?_|refine A5 (λ_=>?_) (λ_=>?_))<;>conv=>whnf))
 show Da.plain (.prop _ _)=_
 simp[Da.plain]
theorem iT(l:List Int)(hr:l.Pairwise (· < ·))(hl:l.length<=4294967296)(e:Int):Pure C1 257 [Bx l,.int .i64 e] (λy=>∃m:Nat,y=.tuple [.int .i64 m,.bool (decide (e∈l))]):=by
 have hlm:(l.map dI).length=l.length:=Ac _
 refine AT Tryz.func257 Tryz.ntmps257 [] [] ?_
 ((conv=>whnf);repeat' ((first|refine odw ?_|refine nx ?_|refine A5 (λ_=>?_) (λ_=>?_))<;>conv=>whnf))
 refine AN (ι:=Nat×Nat) (λx=>x.1<=x.2/\x.2<=l.length/\(∀z∈l.take x.1,z<e)/\∀z∈l.drop x.2,¬z<e)
  (λx=>[(8,.d (.int .i64 x.2)),(7,.d (.int .i64 x.1)),(6,.d (.int .i64 (l.map dI).length)),(1,.d (.int .i64 e)),(0,.d (Bx l))])
  (λ_=>[]) (λx=>x.2-x.1) (0,(l.map dI).length) (λ_=>rfl) ⟨As _,by rw[hlm];exact Av _,by simp,by rw[hlm];simp⟩ (.refl _ _) ⟨rfl,rfl,rfl,rfl,rfl,trivial⟩ trivial ?_
 rintro⟨lo,hi⟩ ⟨h1,h2,h3,h4⟩
 dsimp only at h1 h2 h3 h4
 refine BV [] [] ?_
 by_cases hlt:lo<hi
 ·have hx:=Ab (l:=l) (i:=(lo+hi)/2) (by omega)
  generalize l[(lo+hi)/2]'(by omega)=z at hx
  have hxd:(l.map dI)[(lo+hi)/2]? =some (.int .i64 z):=by rw[Af,hx];rfl
  have hle:=aE z e
  by_cases hz:z<e
  ·rw[decide_eq_true hz]at hle
   (conv=>whnf)
   (repeat' ((first|refine Ai ?_ ?_|refine Sj (by omega) ?_|refine nx ?_|refine A5 (λ_=>?_) (λ_=>?_)|exact AA)<;>conv=>whnf))
   refine SH 1 rfl rfl rfl (by decide) rfl rfl ?_
   (conv=>whnf)
   (repeat' ((first|refine Ai ?_ ?_|refine Td ((lo+hi)/2) (Ms lo hi) (by omega) ?_|refine AM hxd rfl ?_|refine Aj rfl hle ?_|refine nx ?_|refine A5 (λ_=>?_) (λ_=>?_)|exact AA)<;>conv=>whnf))
   exact⟨((lo+hi)/2+1,hi),_,_,⟨by dsimp only;omega,h2,ZC hr hx hz,h4⟩,.refl _ _,⟨rfl,rfl,rfl,rfl,rfl,trivial⟩,trivial,by dsimp only;omega⟩
  ·rw[decide_eq_false hz]at hle
   (conv=>whnf)
   (repeat' ((first|refine Ai ?_ ?_|refine Sj (by omega) ?_|refine nx ?_|refine A5 (λ_=>?_) (λ_=>?_)|exact AA)<;>conv=>whnf))
   refine SH 1 rfl rfl rfl (by decide) rfl rfl ?_
   (conv=>whnf)
   (repeat' ((first|refine Ai ?_ ?_|refine Td ((lo+hi)/2) (Ms lo hi) (by omega) ?_|refine AM hxd rfl ?_|refine Aj rfl hle ?_|refine nx ?_|refine A5 (λ_=>?_) (λ_=>?_)|exact AA)<;>conv=>whnf))
   exact⟨(lo,(lo+hi)/2),_,_,⟨by dsimp only;omega,by dsimp only;omega,h3,ZD hr hx hz⟩,.refl _ _,⟨rfl,rfl,rfl,rfl,rfl,trivial⟩,trivial,by dsimp only;omega⟩
 ·have hm:=eM hr h3 (by rw[show lo=hi by omega];exact h4)
  by_cases hln:lo<l.length
  ·have hx:=Ab hln
   generalize l[lo]=z at hx
   have hxd:(l.map dI)[lo]? =some (.int .i64 z):=by rw[Af,hx];rfl
   have hnz:=Zu z
   by_cases hz:z=e
   ·rw[decide_eq_true (hm.2 (by rw[hx,hz]))]
    (conv=>whnf)
    (repeat' ((first|refine Ai ?_ ?_|refine AM hxd rfl ?_|refine Aj rfl hnz ?_|refine nx ?_|refine A5 (λ_=>?_) (λ_=>?_)|exact AA)<;>conv=>whnf))
    exact⟨lo,rfl⟩
   ·rw[decide_eq_false (λh=>hz (by have:=hm.1 h;rw[hx]at this;exact BG this))]
    (conv=>whnf)
    (repeat' ((first|refine Ai ?_ ?_|refine AM hxd rfl ?_|refine Aj rfl hnz ?_|refine nx ?_|refine A5 (λ_=>?_) (λ_=>?_)|exact AA)<;>conv=>whnf))
    exact⟨lo,rfl⟩
  ·rw[decide_eq_false (λh=>by have:=hm.1 h;rw[BB (by omega)]at this;cases this)]
   ((conv=>whnf);repeat' ((first|refine odw ?_|refine nx ?_|refine A5 (λ_=>?_) (λ_=>?_))<;>conv=>whnf))
   exact⟨lo,rfl⟩
theorem Zw(l:List Int)(hr:l.Pairwise (· < ·))(hl:l.length<=4294967296)(e:Int):Pure C1 240 [Bx l,.int .i64 e] (λy=>y=.bool (decide (e∈l))):=by
 refine AT Tryz.func240 Tryz.ntmps240 [] [] ?_
 ((conv=>whnf);repeat' ((first|refine odw ?_|refine nx ?_|refine A5 (λ_=>?_) (λ_=>?_))<;>conv=>whnf))
 refine AH rfl (iT l hr hl e) ?_;rintro y ⟨m,rfl⟩
 ((conv=>whnf);repeat' ((first|refine odw ?_|refine nx ?_|refine A5 (λ_=>?_) (λ_=>?_))<;>conv=>whnf))
 exact rfl
def sQ:List FuncId:=[231]
theorem GG(l:List Int)(g:FuncId)(cs:List Da)(p:Int->Bool)(hp:∀x∈l,Pure C1 g (.int .i64 x::cs) (λy=>y=.bool (p x))):Pure C1 187 [Bx l,.func (.func g) [] cs] (λy=>y=.bool (l.any p)):=by
 refine AT Tryz.func187 Tryz.ntmps187 sQ [] ?_
 (conv=>whnf)
 (repeat' ((first|refine Ai ?_ ?_|refine Aj rfl (GX l g cs p hp) ?_|refine nx ?_|refine A5 (λ_=>?_) (λ_=>?_)|exact AA)<;>conv=>whnf))
 show Da.plain _=_
 have:=Mq l p
 cases h:l.any p<;>simp[Da.plain,this,h]
theorem aI(l:List Int)(g:FuncId)(cs:List Da)(p:Int->Bool)(hl:l.length<=4294967296)(hp:∀x∈l,Pure C1 g (.int .i64 x::cs) (λy=>y=.bool (p x))):D4 C1 238 [Bx l,.func (.func g) [] cs] 3 1 (λds=>ds=(l.filter p).map dI):=by
 have hll:(l.map dI).length=l.length:=Ac _
 refine UB Tryz.func238 Tryz.ntmps238 [] [] ?_
 ((conv=>whnf);repeat' ((first|refine odw ?_|refine nx ?_|refine A5 (λ_=>?_) (λ_=>?_))<;>conv=>whnf))
 refine AN (ι:=Nat) (λi=>i<=l.length) (λi=>[(10,.d (.int .i64 i)),(9,.d (.int .i64 (l.map dI).length)),(8,.d (Bx l)),(5,.own 300),(1,.d (.func (.func g) [] cs))]) (λi=>[(300,.slice 3 1 (((l.take i).filter p).map dI))])
  (λi=>l.length-i) 0 (λ_=>rfl) (As _) (.own 5 300 3 1 rfl rfl (.refl _ _)) ⟨rfl,rfl,rfl,rfl,rfl,trivial⟩ ⟨rfl,trivial⟩ ?_
 intro i hi
 refine BV [] [] ?_
 by_cases hlt:i<l.length
 ·have hx:=Ab hlt
  have hpx:=hp _ (Bi hlt)
  generalize l[i]=x at hx hpx
  have hxd:(l.map dI)[i]? =some (.int .i64 x):=by rw[Af,hx];rfl
  have hfl:((l.take i).filter p).length<=i:=by
   have:=DF p (l.take i)
   rw[Aw]at this;omega
  cases hy:p x with
  |
   true=>
   rw[hy]at hpx
   have hfin:((l.take i).filter p).map dI++[.int .i64 x]=((l.take (i+1)).filter p).map dI:=by
    rw[A2,hx,BY,Cj,AF]
    simp[hy,dI]
   (conv=>whnf)
   (repeat' ((first|refine Ai ?_ ?_|refine AM hxd rfl ?_|refine Aj (Em _ _) hpx ?_|refine nx ?_|refine A5 (λ_=>?_) (λ_=>?_)|exact AA)<;>conv=>whnf))
   exact⟨i+1,_,_,hlt,.refl _ _,⟨rfl,rfl,rfl,rfl,rfl,trivial⟩,⟨Bj hfin,trivial⟩,by omega⟩
  |
   false=>
   rw[hy]at hpx
   have hfin:((l.take i).filter p).map dI=((l.take (i+1)).filter p).map dI:=by
    rw[A2,hx,BY,Cj]
    simp[hy]
   (conv=>whnf)
   (repeat' ((first|refine Ai ?_ ?_|refine AM hxd rfl ?_|refine Aj (Em _ _) hpx ?_|refine nx ?_|refine A5 (λ_=>?_) (λ_=>?_)|exact AA)<;>conv=>whnf))
   exact⟨i+1,_,_,hlt,.refl _ _,⟨rfl,rfl,rfl,rfl,rfl,trivial⟩,⟨Bj hfin,trivial⟩,by omega⟩
 ·have hii:l.take i=l:=Ao (by omega)
  rw[hii]
  ((conv=>whnf);repeat' ((first|refine odw ?_|refine nx ?_|refine A5 (λ_=>?_) (λ_=>?_))<;>conv=>whnf))
  exact⟨rfl,rfl,rfl⟩
def nU:List FuncId:=[240]
theorem bM(b:List Int)(hr:b.Pairwise (· < ·))(hl:b.length<=4294967296)(x:Int):Pure C1 239 [.int .i64 x,.ref (Bx b)] (λy=>y=.bool (!decide (x∈b))):=by
 refine AT Tryz.func239 Tryz.ntmps239 nU [] ?_
 (conv=>whnf)
 (repeat' ((first|refine Ai ?_ ?_|refine Aj rfl (Zw b hr hl x) ?_|refine nx ?_|refine A5 (λ_=>?_) (λ_=>?_)|exact AA)<;>conv=>whnf))
 exact rfl
def lQ:List (Nat×Plan):=[]
def rD:List FuncId:=[]
end Go.Proofs.YtjejpdfldmempaaGreatDoor
end
section
namespace Go.Gr
theorem Yg(E:List Edg)(i j:Nat):tch E i j=tch E j i:=by
 unfold tch
 cases E[i]? with
 |none=>cases E[j]? <;>rfl
 |
  some x=>
  cases E[j]? with
  |none=>rfl
  |
   some y=>
   rw[Cg]
   simp only[Ah,Di,decide_eq_true_eq]
   constructor
   ·rintro⟨h,h2⟩;exact⟨λe=>h e.symm,by omega⟩
   ·rintro⟨h,h2⟩;exact⟨λe=>h e.symm,by omega⟩
def Gq(G:Gr):Gr:=⟨List.replicate G.edges.length 0,Hn G.edges G.edges.length⟩
theorem mA {G:Gr}(h:G.Ok)(hm:G.edges.length<=4096)(hp:(BF G.edges G.labels.length).length<=16384):(Gq G).Ok:=by
 have:=MC (Ml h hm hp)
 rwa [Oh h]at this
theorem UE {out:List Int} {x y:Int}:y∈Ge out x↔y∈out\/y=x:=by
 unfold Ge
 split
 ·rename_i h
  constructor
  ·exact .inl
  ·rintro(h2|rfl)
   ·exact h2
   ·exact h
 ·simp
theorem QC {out:List Int}(h:out.Nodup)(x:Int):(Ge out x).Nodup:=by
 unfold Ge
 split
 ·exact h
 ·rename_i hx
  rw[D5]
  exact⟨h,by simp,λa ha b hb e=>by simp at hb;subst hb;subst e;exact hx ha⟩
theorem Il(l:List Edg):(BN l).Nodup/\∀x,x∈BN l↔∃e∈l,x=e.a\/x=e.b:=by
 suffices h:∀l:List Edg,(BN l.reverse).Nodup/\∀x,x∈BN l.reverse↔∃e∈l.reverse,x=e.a\/x=e.b by have:=h l.reverse;rwa [List.reverse_reverse]at this
 intro l
 induction l with
 |nil=>simp[BN]
 |
  cons e l ih=>
  rw[List.reverse_cons,Im]
  refine⟨QC (QC ih.1 _) _,λx=>?_⟩
  rw[UE,UE,ih.2]
  constructor
  ·rintro((⟨z,hz,h⟩|h)|h)
   ·exact⟨z,by simp at hz⊢;exact .inl hz,h⟩
   ·exact⟨e,by simp,.inl h⟩
   ·exact⟨e,by simp,.inr h⟩
  ·rintro⟨z,hz,h⟩
   rcases Ag.1 hz with hz|hz
   ·exact .inl (.inl ⟨z,hz,h⟩)
   ·simp at hz;subst hz
    rcases h with h|h
    ·exact .inl (.inr h)
    ·exact .inr h
def Gk(k:Nat):List Int:=(List.range k).map λv:Nat=>(v:Int)
theorem QY(k:Nat):Gk (k+1)=Gk k++[(k:Int)]:=by simp[Gk,Cn]
theorem Ho(k:Nat):(Gk k).length=k:=by simp[Gk]
theorem H8 {k:Nat} {x:Int}:x∈Gk k↔0<=x/\x<k:=by
 simp only[Gk,Aq,AO]
 constructor
 ·rintro⟨v,h,rfl⟩;omega
 ·rintro⟨h1,h2⟩
  obtain⟨m,rfl⟩:=A1 h1
  exact⟨m,by omega,rfl⟩
end Go.Gr
end
