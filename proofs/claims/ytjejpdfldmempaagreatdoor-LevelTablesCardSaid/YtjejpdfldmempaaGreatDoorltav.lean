/- Merged: Grg Grh Grk Srp Lna Rfa. -/
import Derived.Test.YtjejpdfldmempaaGreatDoorltar
import Derived.Test.YtjejpdfldmempaaGreatDoorltat
import Derived.Test.YtjejpdfldmempaaGreatDoorltas
import Derived.Test.YtjejpdfldmempaaGreatDoorltau
section
namespace Go.Proofs.YtjejpdfldmempaaGreatDoor
open Go.Sx Go.RowKit Go.Reg Go.Gr
set_option maxRecDepth 100000
theorem ZJ(cs:Array Value)(i:Nat)(v:Value)(h:cs[i]? =some v)(w:World):(part 3 cs i).run Tryz.prog w=.ok v w:=by
 have e:(isAgg 3).run Tryz.prog w=.ok false w:=by kernel_rfl
 simp[part,e,h]
theorem Xu(n:Nat)(a b:Int)(w:World):(Op.equalIn (n+1) 3 (.int .i64 a) (.int .i64 b)).run Tryz.prog w=.ok (a==b) w:=by
 simp[Op.equalIn,run_underlying Tryz.underlying3]
theorem Tj(n:Nat)(k k':Edg)(w:World):(Op.equalIn (n+2) 103 (KL k) (KL k')).run Tryz.prog w=.ok (decide (k=k')) w:=by
 obtain⟨a,b⟩:=k
 obtain⟨c,d⟩:=k'
 unfold Op.equalIn
 simp[run_underlying Tryz.underlying103,KL,program,Sem.run,ZJ]
 simp only[Xu,Ay]
 by_cases h1:a=c<;>by_cases h2:b=d<;>simp[h1,h2]
theorem XG(k k':Edg)(w:World):(Op.equal 103 (KL k) (KL k')).run Tryz.prog w=.ok (decide (k=k')) w:=Tj 9998 k k' w
theorem XH(em:Bool)(k:Edg)(w:World):(Instr.checkKey em 10000 103 (KL k)).run Tryz.prog w=.ok () w:=by
 obtain⟨a,b⟩:=k;kernel_rfl
theorem qR:KeyOk Tryz.prog 103 KL:=
 KeyOk.of_equal Tryz.underlying103 (λ_ _=>rfl) XH (λk k' w=>XG k k' w) (λ⟨a,b⟩=>by simp[KL,Instr.sameBits])
def aW:MapE C1.P Edg Bool where
 t:=241
 kt:=103
 et:=4
 encK:=KL
 encV:=.bool
 dK:=dE
 dV:=.bool
 z:=false
 ht:=Tryz.underlying241
 hk:=qR
 hz:=by intro w;kernel_rfl
 repK:=by
  rintro O w k v ⟨cs,h,rfl⟩
  simp only[dE,RepC,RepCs]at h
  obtain⟨_,_,rfl,rfl,_,_,rfl,rfl,rfl⟩:=h
  rfl
 repV:=by
  rintro O w x v ⟨cs,h,rfl⟩
  simp only[RepC]at h
  subst h;rfl
 ofV:=λO w x=>⟨[.bool x],by simp[RepC],rfl⟩
def Hg(l:List Edg):List (Edg×Bool):=l.foldl (λm e=>Reg.put m e true) []
theorem NV(l:List Edg)(e:Edg):Hg (l++[e])=Reg.put (Hg l) e true:=by simp[Hg,List.foldl_append]
theorem Wq {E:List Edg} {i:Nat} {e:Edg}(h:E[i]? =some e):E.take (i+1)=E.take i++[e]:=DG h
theorem dX(l:List Edg)(q:Edg):(Reg.get (Hg l) q).getD false=decide (q∈l):=by
 have key:∀l:List Edg,Reg.get (Hg l.reverse) q=if q∈l then some true else none:=by
  intro l
  induction l with
  |nil=>rfl
  |
   cons e l ih=>
   rw[List.reverse_cons,NV,Reg.get_put,ih]
   by_cases h:e=q
   ·simp[h]
   ·have h':¬q=e:=λx=>h x.symm
    simp[h,h']
 have:=key l.reverse
 rw[List.reverse_reverse]at this
 rw[this]
 by_cases h:q∈l<;>simp[h]
theorem Ri(l:List Edg)(q:Edg):(Reg.get (Hg l) q).getD aW.z=decide (q∈l):=dX l q
def GD:ByteArray:=⟨#[103,114,97,112,104]⟩
def Xr:ByteArray:=⟨#[108,97,98,101,108]⟩
def GZ:ByteArray:=⟨#[101,100,103,101]⟩
def dG(G:Gr):Da:=.ref (.agg [Bx G.labels,Er G.edges,Bx (Fw G.labels.length G.edges),Bx (PJ G.labels.length G.edges),Bx (Xz G.labels.length G.edges)])
def sG:Int×Int×Bool->Da
 |(c,a,true)=>dS GZ (dF c a GZ)
 |(c,a,false)=>dF c a (if c=6 then GD else Xr)
def gD(labels:List Int)(edges:List Edg):Da:=match De labels edges with
 |some x=>.tuple [.nilp,sG x]
 |none=>.tuple [dG ⟨labels,Fx edges⟩,.nili]
theorem EF {labels:List Int} {edges:List Edg} {x:Int×Int×Bool}(h:De labels edges=some x):gD labels edges=.tuple [.nilp,sG x]:=by
 unfold gD;rw[h]
theorem Nn {labels:List Int} {edges:List Edg}(h:De labels edges=none):gD labels edges=.tuple [dG ⟨labels,Fx edges⟩,.nili]:=by
 unfold gD;rw[h]
def WO:List (Nat×Plan):=[(18,.leaf [0,0,0,0,1,1,2,6,3,0,0,3] [0,1,2,3,4,5,6,7,8,9,10,11] [0,0,2,6,14,0,32,96,254,511,1023,2047])]
def jQ:List FuncId:=[165]
def Um:List (Nat×Plan):=[]
def YT:List FuncId:=[]
theorem bG:BQ Tryz.prog YT Um (Tryz.f164.body.getD .skip)=true:=by kernel_rfl
theorem Z0(vs:Array Value)(w:World):(callFunc 164 vs).run C1.P w=.ok (.enter 164 vs) w:=by kernel_rfl
set_option maxHeartbeats 4000000 in
theorem PH(labels:List Int)(edges:List Edg):Pure C1 113 [Bx labels,Er edges] (λy=>y=gD labels edges):=by
 have hll:(labels.map dI).length=labels.length:=Ac _
 have hel:(edges.map dE).length=edges.length:=Ac _
 refine AT Tryz.func113 Tryz.ntmps113 jQ WO ?_
 by_cases h1:4096<labels.length
 ·rw[EF (Gn (.inl h1))]
  ((conv=>whnf);repeat' ((first|refine odw ?_|refine nx ?_|refine A5 (λ_=>?_) (λ_=>?_))<;>conv=>whnf))
  refine AH rfl (BU 6 0 GD) ?_;rintro y rfl
  ((conv=>whnf);repeat' ((first|refine odw ?_|refine nx ?_|refine A5 (λ_=>?_) (λ_=>?_))<;>conv=>whnf))
  exact rfl
 by_cases h2:16384<edges.length
 ·rw[EF (Gn (.inr h2))]
  ((conv=>whnf);repeat' ((first|refine odw ?_|refine nx ?_|refine A5 (λ_=>?_) (λ_=>?_))<;>conv=>whnf))
  refine AH rfl (BU 6 0 GD) ?_;rintro y rfl
  ((conv=>whnf);repeat' ((first|refine odw ?_|refine nx ?_|refine A5 (λ_=>?_) (λ_=>?_))<;>conv=>whnf))
  exact rfl
 have h0:¬(4096<labels.length\/16384<edges.length):=by omega
 ((conv=>whnf);repeat' ((first|refine odw ?_|refine nx ?_|refine A5 (λ_=>?_) (λ_=>?_))<;>conv=>whnf))
 refine AN (ι:=Nat) (λv=>v<=labels.length/\∀x∈labels.take v,Bt x=false) (λv=>[(24,.d (.int .i64 v)),(23,.d (.int .i64 (labels.map dI).length)),(22,.d (Bx labels)),(1,.d (Er edges)),(0,.d (Bx labels))])
  (λ_=>[]) (λv=>labels.length-v) 0 (λ_=>rfl) ⟨As _,by simp⟩ (.refl _ _) ⟨rfl,rfl,rfl,rfl,rfl,trivial⟩ trivial ?_
 rintro v ⟨hv,hgood⟩
 refine BV jQ WO ?_
 by_cases hlt:v<labels.length
 ·have hx:=Ab hlt
  generalize labels[v]=x at hx
  have hxd:(labels.map dI)[v]? =some (.int .i64 x):=by rw[Af,hx];rfl
  by_cases b1:x<0
  ·have hb:Bt x=true:=by simp[Bt,b1]
   rw[EF (Gp h0 hx hb hgood)]
   (repeat' ((first|refine Ai ?_ ?_|refine AM hxd (by omega) ?_|refine nx ?_|refine A5 (λ_=>?_) (λ_=>?_)|exact AA)<;>conv=>whnf))
   refine AH rfl (BU 3 v Xr) ?_;rintro y rfl
   ((conv=>whnf);repeat' ((first|refine odw ?_|refine nx ?_|refine A5 (λ_=>?_) (λ_=>?_))<;>conv=>whnf))
   exact rfl
  by_cases b2:255<x
  ·have hb:Bt x=true:=by simp[Bt,b2]
   rw[EF (Gp h0 hx hb hgood)]
   (repeat' ((first|refine Ai ?_ ?_|refine AM hxd (by omega) ?_|refine nx ?_|refine A5 (λ_=>?_) (λ_=>?_)|exact AA)<;>conv=>whnf))
   refine AH rfl (BU 3 v Xr) ?_;rintro y rfl
   ((conv=>whnf);repeat' ((first|refine odw ?_|refine nx ?_|refine A5 (λ_=>?_) (λ_=>?_))<;>conv=>whnf))
   exact rfl
  ·have hb:Bt x=false:=by simp[Bt];omega
   (repeat' ((first|refine Ai ?_ ?_|refine AM hxd (by omega) ?_|refine nx ?_|refine A5 (λ_=>?_) (λ_=>?_)|exact AA)<;>conv=>whnf))
   refine⟨v+1,_,_,⟨hlt,?_⟩,.refl _ _,⟨rfl,rfl,rfl,rfl,rfl,trivial⟩,trivial,by omega⟩
   intro z hz
   rw[A2,hx]at hz
   rcases Ag.1 hz with hz|hz
   ·exact hgood z hz
   ·simp at hz;subst hz;exact hb
 ·have hve:labels.take v=labels:=Ao (by omega)
  rw[hve]at hgood
  have hvn:v=labels.length:=by omega
  subst hvn
  clear hve hv hlt
  ((conv=>whnf);repeat' ((first|refine odw ?_|refine nx ?_|refine A5 (λ_=>?_) (λ_=>?_))<;>conv=>whnf))
  refine WY aW 38 rfl rfl (.inr rfl) rfl ?_
  ((conv=>whnf);repeat' ((first|refine odw ?_|refine nx ?_|refine A5 (λ_=>?_) (λ_=>?_))<;>conv=>whnf))
  refine Ee 40 rfl rfl (Ib labels (by omega)) ?_;rintro ds rfl
  ((conv=>whnf);repeat' ((first|refine odw ?_|refine nx ?_|refine A5 (λ_=>?_) (λ_=>?_))<;>conv=>whnf))
  refine AN (ι:=Nat) (λi=>i<=edges.length/\∀j,j<i->Cp labels.length edges j=0) (λi=>[(45,.d (.int .i64 i)),(44,.d (.int .i64 (edges.map dE).length)),(43,.d (Er edges)),(9,.own 42),(8,.own 38),(0,.d (Bx labels))])
   (λi=>[(38,(aW.obj (Hg ((edges.take i).map turn))).own),(42,.cells 243 [.d (Bx labels),.own 300,.d .nils,.d .nils,.d .nils]),(300,.slice 103 2 (((edges.take i).map turn).map dE))])
   (λi=>edges.length-i) 0 (λ_=>rfl) ⟨As _,λj hj=>absurd hj (Nat.not_lt_zero j)⟩ (.frz 40 rfl (.ownc 42 300 103 2 rfl rfl (.there _ (.here _)) (.refl _ _))) ⟨rfl,rfl,rfl,rfl,rfl,rfl,trivial⟩ ⟨rfl,rfl,rfl,trivial⟩ ?_
  rintro i ⟨hi,hcode⟩
  refine BV jQ WO ?_
  by_cases hlt:i<edges.length
  ·have hx:=Ab hlt
   have htl:(((edges.take i).map turn).map dE).length=i:=by rw[Ac,Ac,Aw];omega
   have hec:Cp labels.length edges i=GF labels.length ((edges.take i).map turn) edges[i]:=by unfold Cp;rw[hx]
   generalize edges[i]=e at hx hec
   have hxd:(edges.map dE)[i]? =some (.agg [.int .i64 e.a,.int .i64 e.b]):=by rw[Af,hx];rfl
   have hSl:((edges.take i).map turn).length=i:=by rw[Ac,Aw];omega
   generalize hS:(edges.take i).map turn=S at hec htl hSl⊢
   (repeat' ((first|refine Ai ?_ ?_|refine AM hxd (by omega) ?_|refine nx ?_|refine A5 (λ_=>?_) (λ_=>?_)|exact AA)<;>conv=>whnf))
   refine JB 200 [(45,.d (.int .i64 i)),(44,.d (.int .i64 (edges.map dE).length)),(43,.d (Er edges)),(10,.d (.int .i64 i)),(11,.own 11),(9,.own 42),(8,.own 38),(0,.d (Bx labels))] EN (pl:=Um) (G:=YT) Tryz.func164 rfl Tryz.ntmps164 Z0 bG (GK rfl) rfl ⟨rfl,rfl,rfl,rfl,rfl,rfl,rfl,rfl,trivial⟩ rfl ?_
   intro us
   by_cases c1:min e.a e.b<0
   ·have hc:Cp labels.length edges i=3:=by rw[hec];unfold GF;rw[if_pos (.inl c1)]
    rw[EF (DP h0 hgood hlt (by rw[hc];decide) hcode),hc]
    ((conv=>whnf);repeat' ((first|refine odw ?_|refine nx ?_|refine A5 (λ_=>?_) (λ_=>?_))<;>conv=>whnf))
    refine AH rfl (BU 3 i GZ) ?_;rintro y rfl
    ((conv=>whnf);repeat' ((first|refine odw ?_|refine nx ?_|refine A5 (λ_=>?_) (λ_=>?_))<;>conv=>whnf))
    refine AH rfl (HJ GZ 3 i GZ) ?_;rintro y rfl
    (repeat' ((first|refine Ai ?_ ?_|refine It ?_|refine nx ?_|refine A5 (λ_=>?_) (λ_=>?_)|exact AA)<;>conv=>whnf))
    exact rfl
   by_cases c2:(labels.length:Int)<=max e.a e.b
   ·have hc:Cp labels.length edges i=3:=by rw[hec];unfold GF;rw[if_pos (.inr c2)]
    rw[EF (DP h0 hgood hlt (by rw[hc];decide) hcode),hc]
    ((conv=>whnf);repeat' ((first|refine odw ?_|refine nx ?_|refine A5 (λ_=>?_) (λ_=>?_))<;>conv=>whnf))
    refine AH rfl (BU 3 i GZ) ?_;rintro y rfl
    ((conv=>whnf);repeat' ((first|refine odw ?_|refine nx ?_|refine A5 (λ_=>?_) (λ_=>?_))<;>conv=>whnf))
    refine AH rfl (HJ GZ 3 i GZ) ?_;rintro y rfl
    (repeat' ((first|refine Ai ?_ ?_|refine It ?_|refine nx ?_|refine A5 (λ_=>?_) (λ_=>?_)|exact AA)<;>conv=>whnf))
    exact rfl
   by_cases c3:e.a=e.b
   ·have hc:Cp labels.length edges i=1:=by rw[hec];unfold GF;rw[if_neg (by omega),if_pos c3]
    rw[EF (DP h0 hgood hlt (by rw[hc];decide) hcode),hc]
    ((conv=>whnf);repeat' ((first|refine odw ?_|refine nx ?_|refine A5 (λ_=>?_) (λ_=>?_))<;>conv=>whnf))
    refine AH rfl (BU 1 i GZ) ?_;rintro y rfl
    ((conv=>whnf);repeat' ((first|refine odw ?_|refine nx ?_|refine A5 (λ_=>?_) (λ_=>?_))<;>conv=>whnf))
    refine AH rfl (HJ GZ 1 i GZ) ?_;rintro y rfl
    (repeat' ((first|refine Ai ?_ ?_|refine It ?_|refine nx ?_|refine A5 (λ_=>?_) (λ_=>?_)|exact AA)<;>conv=>whnf))
    exact rfl
   by_cases c4:turn e∈S
   ·have hc:Cp labels.length edges i=4:=by rw[hec];unfold GF;rw[if_neg (by omega),if_neg c3,if_pos c4]
    rw[EF (DP h0 hgood hlt (by rw[hc];decide) hcode),hc]
    ((conv=>whnf);repeat' ((first|refine odw ?_|refine nx ?_|refine A5 (λ_=>?_) (λ_=>?_))<;>conv=>whnf))
    refine AH rfl (FU e) ?_;rintro y rfl
    ((conv=>whnf);repeat' ((first|refine odw ?_|refine nx ?_|refine A5 (λ_=>?_) (λ_=>?_))<;>conv=>whnf))
    refine Rx aW (Hg S) 38 (turn e) rfl rfl rfl rfl (.inr rfl) rfl ?_
    rw[Ri,show decide (turn e∈S)=true from decide_eq_true c4]
    ((conv=>whnf);repeat' ((first|refine odw ?_|refine nx ?_|refine A5 (λ_=>?_) (λ_=>?_))<;>conv=>whnf))
    refine AH rfl (BU 4 i GZ) ?_;rintro y rfl
    ((conv=>whnf);repeat' ((first|refine odw ?_|refine nx ?_|refine A5 (λ_=>?_) (λ_=>?_))<;>conv=>whnf))
    refine AH rfl (HJ GZ 4 i GZ) ?_;rintro y rfl
    (repeat' ((first|refine Ai ?_ ?_|refine It ?_|refine nx ?_|refine A5 (λ_=>?_) (λ_=>?_)|exact AA)<;>conv=>whnf))
    exact rfl
   ·have hc:Cp labels.length edges i=0:=by rw[hec];unfold GF;rw[if_neg (by omega),if_neg c3,if_neg c4]
    have hsn:(edges.take (i+1)).map turn=S++[turn e]:=by rw[Wq hx,AF,hS];rfl
    ((conv=>whnf);repeat' ((first|refine odw ?_|refine nx ?_|refine A5 (λ_=>?_) (λ_=>?_))<;>conv=>whnf))
    refine AH rfl (FU e) ?_;rintro y rfl
    ((conv=>whnf);repeat' ((first|refine odw ?_|refine nx ?_|refine A5 (λ_=>?_) (λ_=>?_))<;>conv=>whnf))
    refine Rx aW (Hg S) 38 (turn e) rfl rfl rfl rfl (.inr rfl) rfl ?_
    rw[Ri,show decide (turn e∈S)=false from decide_eq_false c4]
    (repeat' ((first|refine Ai ?_ ?_|refine It ?_|refine nx ?_|refine A5 (λ_=>?_) (λ_=>?_)|exact AA)<;>conv=>whnf))
    refine AH rfl (FU e) ?_;rintro y rfl
    ((conv=>whnf);repeat' ((first|refine odw ?_|refine nx ?_|refine A5 (λ_=>?_) (λ_=>?_))<;>conv=>whnf))
    refine ZL aW (Hg S) 38 (turn e) true rfl rfl rfl rfl rfl rfl rfl ?_
    rw[<-NV,<-hsn]
    ((conv=>whnf);repeat' ((first|refine odw ?_|refine nx ?_|refine A5 (λ_=>?_) (λ_=>?_))<;>conv=>whnf))
    refine AH rfl (FU e) ?_;rintro y rfl
    ((conv=>whnf);repeat' ((first|refine odw ?_|refine nx ?_|refine A5 (λ_=>?_) (λ_=>?_))<;>conv=>whnf))
    have hfin:S.map dE++[dE (turn e)]=((edges.take (i+1)).map turn).map dE:=by rw[hsn,AF];rfl
    refine⟨i+1,_,_,⟨hlt,?_⟩,.refl _ _,⟨rfl,rfl,rfl,rfl,rfl,rfl,trivial⟩,⟨rfl,rfl,Bj hfin,trivial⟩,by omega⟩
    intro j hj
    rcases Nat.lt_succ_iff_lt_or_eq.1 hj with h|h
    ·exact hcode j h
    ·rw[h];exact hc
  ·have hie:edges.take i=edges:=Ao (by omega)
   rw[hie]
   have hin:i=edges.length:=by omega
   subst hin
   rw[Nn (GV h0 hgood hcode)]
   ((conv=>whnf);repeat' ((first|refine odw ?_|refine nx ?_|refine A5 (λ_=>?_) (λ_=>?_))<;>conv=>whnf))
   have hnd:=(V1 hcode).1
   have hok:=MC (GV h0 hgood hcode)
   refine VC (i:=300) rfl rfl (dN (edges.map turn) (by rw[Ac];omega)) ?_
   rintro y ds ⟨out,rfl,hp,ho⟩
   obtain rfl:=MD hnd hp ho
   ((conv=>whnf);repeat' ((first|refine odw ?_|refine nx ?_|refine A5 (λ_=>?_) (λ_=>?_))<;>conv=>whnf))
   refine Du 300 rfl ?_
   refine XO (i:=42) rfl rfl rfl (WC labels (Fx edges) (by omega) (by rw[NB];omega) hok.edge) ?_
   rintro y ys rfl
   ((conv=>whnf);repeat' ((first|refine odw ?_|refine nx ?_|refine A5 (λ_=>?_) (λ_=>?_))<;>conv=>whnf))
   exact rfl
end Go.Proofs.YtjejpdfldmempaaGreatDoor
end
section
namespace Go.Gr
theorem X7(f:Nat->List Int)(D:Nat->Nat)(hD:∀v,(f v).length=D v) {n v:Nat}(h:v<n):∃pre post,(List.range n).flatMap f=pre++(f v++post)/\pre.length=off D v:=by
 have key:∀n,((List.range n).flatMap f).length=off D n:=by
  intro n
  induction n with
  |zero=>rfl
  |succ n ih=>rw[Cn,BH,Ae,ih];simp[off,hD]
 induction n with
 |zero=>omega
 |
  succ n ih=>
  rw[Cn,BH]
  by_cases hv:v<n
  ·obtain⟨pre,post,e,hl⟩:=ih hv
   exact⟨pre,post++[n].flatMap f,by rw[e];simp,hl⟩
  ·have:v=n:=by omega
   subst this
   exact⟨(List.range v).flatMap f,[],by simp,key v⟩
theorem Vl(f:Nat->List Int)(D:Nat->Nat)(hD:∀v,(f v).length=D v) {n v:Nat}(h:v<n):(((List.range n).flatMap f).take (off D (v+1))).drop (off D v)=f v:=by
 obtain⟨pre,post,e,hl⟩:=X7 f D hD h
 rw[e,<-Bz]
 have h1:off D (v+1)=(pre++f v).length:=by simp[off,hl,hD]
 rw[h1,List.take_left,<-hl,List.drop_left]
theorem U2(f:Nat->List Int)(D:Nat->Nat)(hD:∀v,(f v).length=D v)(n:Nat):((List.range n).flatMap f).length=off D n:=by
 induction n with
 |zero=>rfl
 |succ n ih=>rw[Cn,BH,Ae,ih];simp[off,hD]
end Go.Gr
namespace Go.Proofs.YtjejpdfldmempaaGreatDoor
open Go.Sx Go.RowKit Go.Reg Go.Gr
set_option maxRecDepth 100000
theorem HH(G:Gr):Pure C1 175 [dG G] (λy=>y=.int .i64 G.labels.length):=by
 have hl:(G.labels.map dI).length=G.labels.length:=Ac _
 refine AT Tryz.func175 Tryz.ntmps175 [] [] ?_
 ((conv=>whnf);repeat' ((first|refine odw ?_|refine nx ?_|refine A5 (λ_=>?_) (λ_=>?_))<;>conv=>whnf))
 show Da.int .i64 _=_
 rw[hl]
theorem MV(G:Gr):Pure C1 177 [dG G] (λy=>y=.int .i64 G.edges.length):=by
 have hl:(G.edges.map dE).length=G.edges.length:=Ac _
 refine AT Tryz.func177 Tryz.ntmps177 [] [] ?_
 ((conv=>whnf);repeat' ((first|refine odw ?_|refine nx ?_|refine A5 (λ_=>?_) (λ_=>?_))<;>conv=>whnf))
 show Da.int .i64 _=_
 rw[hl]
def E0(G:Gr)(v:Int):Bool:=decide (0<=v/\v<G.labels.length)
theorem HK(G:Gr)(v:Int):Pure C1 230 [dG G,.int .i64 v] (λy=>y=.bool (E0 G v)):=by
 refine AT Tryz.func230 Tryz.ntmps230 [] [] ?_
 by_cases h0:0<=v
 ·((conv=>whnf);repeat' ((first|refine odw ?_|refine nx ?_|refine A5 (λ_=>?_) (λ_=>?_))<;>conv=>whnf))
  refine AH rfl (HH G) ?_;rintro y rfl
  by_cases h1:v<G.labels.length
  ·have:E0 G v=true:=by simp[E0,h0,h1]
   rw[this]
   ((conv=>whnf);repeat' ((first|refine odw ?_|refine nx ?_|refine A5 (λ_=>?_) (λ_=>?_))<;>conv=>whnf))
   show Da.plain _=_
   simp[Da.plain,h1]
  ·have:E0 G v=false:=by simp[E0,h1]
   rw[this]
   ((conv=>whnf);repeat' ((first|refine odw ?_|refine nx ?_|refine A5 (λ_=>?_) (λ_=>?_))<;>conv=>whnf))
   show Da.plain _=_
   simp[Da.plain,h1]
 ·have:E0 G v=false:=by simp[E0,h0]
  rw[this]
  ((conv=>whnf);repeat' ((first|refine odw ?_|refine nx ?_|refine A5 (λ_=>?_) (λ_=>?_))<;>conv=>whnf))
  exact rfl
theorem Mr {G:Gr} {v:Int}(h:0<=v)(h2:v<G.labels.length):E0 G v=true:=by simp[E0,h,h2]
theorem Te {G:Gr} {v:Int}(h:¬(0<=v/\v<G.labels.length)):E0 G v=false:=by simp only[E0,decide_eq_false_iff_not];exact h
def Ei(G:Gr)(v:Int):Int:=if 0<=v/\v<G.labels.length then(G.labels[v.toNat]?).getD 0 else-1
theorem Xq(G:Gr)(v:Int):Pure C1 195 [dG G,.int .i64 v] (λy=>y=.int .i64 (Ei G v)):=by
 refine AT Tryz.func195 Tryz.ntmps195 [] [] ?_
 by_cases h:0<=v/\v<G.labels.length
 ·obtain⟨m,rfl⟩:=A1 h.1
  have hm:m<G.labels.length:=by omega
  have hx:=Ab hm
  have e:Ei G (m:Int)=G.labels[m]:=by unfold Ei;rw[if_pos h,Be,hx];rfl
  rw[e]
  generalize G.labels[m]=x at hx
  have hxd:(G.labels.map dI)[m]? =some (.int .i64 x):=by rw[Af,hx];rfl
  ((conv=>whnf);repeat' ((first|refine odw ?_|refine nx ?_|refine A5 (λ_=>?_) (λ_=>?_))<;>conv=>whnf))
  refine AH rfl (HK G m) ?_;rintro y rfl
  rw[Mr h.1 h.2]
  (repeat' ((first|refine Ai ?_ ?_|refine AM hxd rfl ?_|refine nx ?_|refine A5 (λ_=>?_) (λ_=>?_)|exact AA)<;>conv=>whnf))
  exact rfl
 ·have e:Ei G v=-1:=by unfold Ei;rw[if_neg h]
  rw[e]
  ((conv=>whnf);repeat' ((first|refine odw ?_|refine nx ?_|refine A5 (λ_=>?_) (λ_=>?_))<;>conv=>whnf))
  refine AH rfl (HK G v) ?_;rintro y rfl
  rw[Te h]
  ((conv=>whnf);repeat' ((first|refine odw ?_|refine nx ?_|refine A5 (λ_=>?_) (λ_=>?_))<;>conv=>whnf))
  exact rfl
def DK(E:List Edg)(id:Int):Da:=if 0<=id/\id<E.length then .tuple [dE ((E[id.toNat]?).getD ⟨0,0⟩),.bool true]else .tuple [dE ⟨0,0⟩,.bool false]
theorem HV(G:Gr)(id:Int):Pure C1 190 [dG G,.int .i64 id] (λy=>y=DK G.edges id):=by
 refine AT Tryz.func190 Tryz.ntmps190 [] [] ?_
 by_cases h0:0<=id
 ·by_cases h1:id<G.edges.length
  ·obtain⟨m,rfl⟩:=A1 h0
   have hm:m<G.edges.length:=by omega
   have hx:=Ab hm
   have e:DK G.edges (m:Int)=.tuple [dE G.edges[m],.bool true]:=by unfold DK;rw[if_pos ⟨h0,h1⟩,Be,hx];rfl
   rw[e]
   generalize G.edges[m]=x at hx
   have hxd:(G.edges.map dE)[m]? =some (.agg [.int .i64 x.a,.int .i64 x.b]):=by rw[Af,hx];rfl
   ((conv=>whnf);repeat' ((first|refine odw ?_|refine nx ?_|refine A5 (λ_=>?_) (λ_=>?_))<;>conv=>whnf))
   refine AH rfl (MV G) ?_;rintro y rfl
   (repeat' ((first|refine Ai ?_ ?_|refine AM hxd rfl ?_|refine nx ?_|refine A5 (λ_=>?_) (λ_=>?_)|exact AA)<;>conv=>whnf))
   exact rfl
  ·have e:DK G.edges id=.tuple [dE ⟨0,0⟩,.bool false]:=by unfold DK;rw[if_neg (by omega)]
   rw[e]
   ((conv=>whnf);repeat' ((first|refine odw ?_|refine nx ?_|refine A5 (λ_=>?_) (λ_=>?_))<;>conv=>whnf))
   refine AH rfl (MV G) ?_;rintro y rfl
   ((conv=>whnf);repeat' ((first|refine odw ?_|refine nx ?_|refine A5 (λ_=>?_) (λ_=>?_))<;>conv=>whnf))
   exact rfl
 ·have e:DK G.edges id=.tuple [dE ⟨0,0⟩,.bool false]:=by unfold DK;rw[if_neg (by omega)]
  rw[e]
  ((conv=>whnf);repeat' ((first|refine odw ?_|refine nx ?_|refine A5 (λ_=>?_) (λ_=>?_))<;>conv=>whnf))
  exact rfl
def fK:List (Nat×Plan):=[(3,.leaf [0,0,0,1,0,0,0,1,0,0,1,0,0,0,1,0,0,0,1,0,2,0] [0,1,2,4,5,6,8,11,12,13,15,16,3,7,9,10,14,17,18,19,20,21] [0,1,3,7,0,16,48,112,0,496,1008,0,2048,6144,14336,0,32768,129024,260096,524287,1048575,2097151])]
def nX:List FuncId:=[60]
def Jn(G:Gr)(v:Int):Da:=if 0<=v/\v<G.labels.length then Bx (Df G.edges v.toNat)else .nils
theorem JX {n v:Nat}(E:List Edg)(h:v<=n):((Fw n E).map dI)[v]? =some (.int .i64 (off (F3 E) v)):=by
 rw[Af,Fw,Af,Ep (by omega)];rfl
theorem gE {n v:Nat}(E:List Edg)(h:v<n):(((PJ n E).map dI).take (off (F3 E) (v+1))).drop (off (F3 E) v)=(Df E v).map dI:=by
 rw[<-Fy,<-List.map_drop,PJ,Vl (Df E) (F3 E) (λ_=>rfl) h]
theorem Np(G:Gr)(hG:G.Ok)(v:Int):Pure C1 198 [dG G,.int .i64 v] (λy=>y=Jn G v):=by
 refine AT Tryz.func198 Tryz.ntmps198 nX fK ?_
 by_cases h:0<=v/\v<G.labels.length
 ·obtain⟨m,rfl⟩:=A1 h.1
  have hm:m<G.labels.length:=by omega
  have e:Jn G (m:Int)=Bx (Df G.edges m):=by unfold Jn;rw[if_pos h,Be]
  rw[e]
  have hs:=hG.size
  have h1:=JX G.edges (n:=G.labels.length) (v:=m) (by omega)
  have h2:=JX G.edges (n:=G.labels.length) (v:=m+1) (by omega)
  ((conv=>whnf);repeat' ((first|refine odw ?_|refine nx ?_|refine A5 (λ_=>?_) (λ_=>?_))<;>conv=>whnf))
  refine AH rfl (HK G m) ?_;rintro y rfl
  rw[Mr h.1 h.2]
  (conv=>whnf)
  (repeat' ((first|refine Ai ?_ ?_|refine AM h1 rfl ?_|refine AM h2 rfl ?_|refine nx ?_|refine A5 (λ_=>?_) (λ_=>?_)|exact AA)<;>conv=>whnf))
  refine⟨_,_,rfl,rfl,G8 _ (by omega),?_,?_⟩
  ·rw[Ac,PJ,U2 (Df G.edges) (F3 G.edges) (λ_=>rfl)];exact G8 _ (by omega)
  rw[gE G.edges hm]
  (conv=>whnf)
  have hb:=Qz G.edges m
  have hes:=hG.esize
  refine Ee 29 rfl rfl (Ib (Df G.edges m) (by unfold F3 at hb;omega)) ?_;rintro ds rfl
  ((conv=>whnf);repeat' ((first|refine odw ?_|refine nx ?_|refine A5 (λ_=>?_) (λ_=>?_))<;>conv=>whnf))
  exact rfl
 ·have e:Jn G v=.nils:=by unfold Jn;rw[if_neg h]
  rw[e]
  ((conv=>whnf);repeat' ((first|refine odw ?_|refine nx ?_|refine A5 (λ_=>?_) (λ_=>?_))<;>conv=>whnf))
  refine AH rfl (HK G v) ?_;rintro y rfl
  rw[Te h]
  ((conv=>whnf);repeat' ((first|refine odw ?_|refine nx ?_|refine A5 (λ_=>?_) (λ_=>?_))<;>conv=>whnf))
  exact rfl
def XJ(G:Gr)(v:Int):Nat:=if 0<=v/\v<G.labels.length then F3 G.edges v.toNat else 0
theorem V5(G:Gr)(hG:G.Ok)(v:Int):Pure C1 229 [dG G,.int .i64 v] (λy=>y=.int .i64 (XJ G v)):=by
 refine AT Tryz.func229 Tryz.ntmps229 [] [] ?_
 ((conv=>whnf);repeat' ((first|refine odw ?_|refine nx ?_|refine A5 (λ_=>?_) (λ_=>?_))<;>conv=>whnf))
 refine AH rfl (Np G hG v) ?_;rintro y rfl
 by_cases h:0<=v/\v<G.labels.length
 ·have e:Jn G v=Bx (Df G.edges v.toNat):=by unfold Jn;rw[if_pos h]
  have e2:XJ G v=((Df G.edges v.toNat).map dI).length:=by unfold XJ;rw[if_pos h,Ac];rfl
  rw[e,e2]
  ((conv=>whnf);repeat' ((first|refine odw ?_|refine nx ?_|refine A5 (λ_=>?_) (λ_=>?_))<;>conv=>whnf))
  exact rfl
 ·have e:Jn G v=.nils:=by unfold Jn;rw[if_neg h]
  have e2:XJ G v=0:=by unfold XJ;rw[if_neg h]
  rw[e,e2]
  ((conv=>whnf);repeat' ((first|refine odw ?_|refine nx ?_|refine A5 (λ_=>?_) (λ_=>?_))<;>conv=>whnf))
  exact rfl
end Go.Proofs.YtjejpdfldmempaaGreatDoor
end
section
namespace Go.Proofs.YtjejpdfldmempaaGreatDoor
open Go.Sx Go.RowKit Go.Reg Go.Gr
set_option maxRecDepth 100000
theorem IT(l:List Int):Pure C1 161 [Bx l] (λy=>y=.func (.func 222) [] [.ref (Bx l)]):=by
 refine AT Tryz.func161 Tryz.ntmps161 [] [] ?_
 ((conv=>whnf);repeat' ((first|refine odw ?_|refine nx ?_|refine A5 (λ_=>?_) (λ_=>?_))<;>conv=>whnf))
 exact rfl
theorem TK {l:List Int}(h:l.Pairwise (· < ·)):l.mergeSort (λx y=>decide (x<=y))=l:=
 List.mergeSort_of_pairwise (h.imp λh=>by simp;omega)
theorem N2(E:List Edg)(v:Nat):(FY E v).length=F3 E v:=by
 rw[FY,Ae,(JV E v).1,(JV E v).2,F3,Df,Ae]
theorem mJ {n v:Nat}(E:List Edg)(h:v<n):(((Xz n E).map dI).take (off (F3 E) (v+1))).drop (off (F3 E) v)=(FY E v).map dI:=by
 rw[<-Fy,<-List.map_drop,Xz,Vl (FY E) (F3 E) (N2 E) h]
def pZ:List (Nat×Plan):=[(3,.leaf [0,0,0,1,0,0,0,1,0,0,1,0,0,0,1,0,0,0,1,0,2,2,0] [0,1,2,4,5,6,8,11,12,13,15,16,3,7,9,10,14,17,18,19,20,21,22] [0,1,3,7,0,16,48,112,0,496,1008,0,2048,6144,14336,0,32768,129024,260096,524287,1048575,2097151,4194303])]
def tM:List FuncId:=[161,160]
def qZ(G:Gr)(v:Int):Da:=if 0<=v/\v<G.labels.length then Bx (Lv G.edges v.toNat)else .nils
theorem nJ(G:Gr)(hG:G.Ok)(v:Int):Pure C1 176 [dG G,.int .i64 v] (λy=>y=qZ G v):=by
 refine AT Tryz.func176 Tryz.ntmps176 tM pZ ?_
 by_cases h:0<=v/\v<G.labels.length
 ·obtain⟨m,rfl⟩:=A1 h.1
  have hm:m<G.labels.length:=by omega
  have e:qZ G (m:Int)=Bx (FY G.edges m):=by unfold qZ;rw[if_pos h,Be,mI hG]
  rw[e]
  have hs:=hG.size
  have h1:=JX G.edges (n:=G.labels.length) (v:=m) (by omega)
  have h2:=JX G.edges (n:=G.labels.length) (v:=m+1) (by omega)
  ((conv=>whnf);repeat' ((first|refine odw ?_|refine nx ?_|refine A5 (λ_=>?_) (λ_=>?_))<;>conv=>whnf))
  refine AH rfl (HK G m) ?_;rintro y rfl
  rw[Mr h.1 h.2]
  (conv=>whnf)
  (repeat' ((first|refine Ai ?_ ?_|refine AM h1 rfl ?_|refine AM h2 rfl ?_|refine nx ?_|refine A5 (λ_=>?_) (λ_=>?_)|exact AA)<;>conv=>whnf))
  refine⟨_,_,rfl,rfl,G8 _ (by omega),?_,?_⟩
  ·rw[Ac,Xz,U2 (FY G.edges) (F3 G.edges) (N2 G.edges)];exact G8 _ (by omega)
  rw[mJ G.edges hm]
  (conv=>whnf)
  have hb:=Qz G.edges m
  have hes:=hG.esize
  refine AH rfl (IT (FY G.edges m)) ?_;rintro y rfl
  (conv=>whnf)
  refine AH rfl (TL (FY G.edges m) (by rw[N2];omega)) ?_;rintro y rfl
  rw[TK (Vb hG m)]
  ((conv=>whnf);repeat' ((first|refine odw ?_|refine nx ?_|refine A5 (λ_=>?_) (λ_=>?_))<;>conv=>whnf))
  exact rfl
 ·have e:qZ G v=.nils:=by unfold qZ;rw[if_neg h]
  rw[e]
  ((conv=>whnf);repeat' ((first|refine odw ?_|refine nx ?_|refine A5 (λ_=>?_) (λ_=>?_))<;>conv=>whnf))
  refine AH rfl (HK G v) ?_;rintro y rfl
  rw[Te h]
  ((conv=>whnf);repeat' ((first|refine odw ?_|refine nx ?_|refine A5 (λ_=>?_) (λ_=>?_))<;>conv=>whnf))
  exact rfl
end Go.Proofs.YtjejpdfldmempaaGreatDoor
end
section
namespace Go.Reg
open Go Go.RowKit Go.Sort Go.Proofs
section
variable {E:Nat} {w:World} {l:List Int} {g cap:Nat}
theorem HQ(l:List Int):l.flatMap (λn=>[Value.int .i64 n])=l.map (Value.int .i64):=by
 induction l with
 |nil=>rfl
 |cons x l ih=>simp[ih]
theorem Sl.holds1(h:Sl E 1 (λn:Int=>[Value.int .i64 n]) w (.slice (some ⟨g,0,none⟩) l.length cap) l):Go.Sort.Holds (Value.int .i64) w g 0 l.toArray:=by
 intro j hj
 have hj':j<l.length:=by simpa using hj
 have hx:l[j]? =some l.toArray[j]! :=by rw[getElem!_pos l.toArray j hj];simp[hj']
 have hc:=Sl.cells (enc:=λn:Int=>[Value.int .i64 n]) (k:=1) (λ_=>rfl) h rfl hx (j:=0) (u:=Value.int .i64 l.toArray[j]!) rfl
 refine⟨by simpa using hc,?_⟩
 rcases h.2 with⟨h1,_⟩|⟨g',cap',cur,h1,_,hg,_⟩
 ·cases h1
 ·cases h1
  simp[World.frozen?,hg]
theorem Sl.put1(h:Sl E 1 (λn:Int=>[Value.int .i64 n]) w (.slice (some ⟨g,0,none⟩) l.length cap) l)(d:Array Int)(hd:d.size=l.length)(m:Nat)(hm:m<=l.length)(q:Nat):
  Sl E 1 (λn:Int=>[Value.int .i64 n]) (putRow (Value.int .i64) (Sort.ahead w q) g 0 d) (.slice (some ⟨g,0,none⟩) m cap) (d.toList.take m)/\Tch [g] w (putRow (Value.int .i64) (Sort.ahead w q) g 0 d):=by
 have hlm:(d.toList.take m).length=m:=by rw[Aw,F7];omega
 constructor
 ·unfold Sl
  rw[HQ]
  refine⟨by simp,?_⟩
  rcases h.2 with⟨h1,_⟩|⟨g',cap',cur,h1,h0,hg,hc,hmx,hs,ht⟩
  ·cases h1
  ·cases h1
   refine .inr ⟨g,cap,putCells (Value.int .i64) 0 d cur,by rw[hlm],As _,?_,by rw[hlm];omega,hmx,by simp[putCells,hs],?_⟩
   ·simp[putRow,mapBlock,Sort.ahead,Ca,hg,onCells]
   ·rw[hlm]
    apply Fk
    intro t
    rw[Cy,Af,Cy]
    split
    ·rename_i hlt
     have h1:t<cur.size:=by omega
     have h2:t<d.size:=by omega
     have h3:t<m:=by omega
     simp[putCells,h1,h2,h3]
    ·rename_i hlt
     have h3:¬t<m:=by omega
     simp[h3]
 ·refine⟨rfl,rfl,rfl,?_,?_⟩
  ·simp[putRow,mapBlock,Sort.ahead]
  ·intro j hj hn
   have hne:g≠j:=λe=>hn (by simp[e])
   simp[putRow,mapBlock,Sort.ahead,Ca,hne]
end
end Go.Reg
namespace Go.Proofs.YtjejpdfldmempaaGreatDoor
open Go.RowKit Go.Shelf Go.Sx Go.Reg Go.Sort Go.Gr Go.Proofs
set_option maxRecDepth 100000
theorem SY {O:List Nat} {w:World}:∀{l:List Int} {css:List (List Value)},Al O w (l.map dI) css->css=l.map (λn=>[Value.int .i64 n])
 |[],css,h=>by simpa only[B4,Al]using h
 |
  e::l,css,h=>by
  simp only[Ap,Al,dI,RepC]at h
  obtain⟨c1,c2,rfl,rfl,h⟩:=h
  rw[SY h];rfl
theorem OI {E:Nat} {w:World} {v:Value} {l:List Int}:Sl E 1 id w v (l.map λn=>[Value.int .i64 n])↔Sl E 1 (λn:Int=>[Value.int .i64 n]) w v l:=by
 unfold Sl
 rw[Ac,bU]
 exact Iff.rfl
theorem qS {f:FuncId} {l:List Int} {xs:List Da} {r:List Int} {vs:List Value}(hxs:∀(O:List Nat) (w:World) (us:List Value),Ig O w xs us->us=vs)(hrl:r.length<=l.length)
  (hrun:∀(us:Array Value) (w:World),(callFunc f us).run C1.P w=.ok (.enter f us) w)
  (hnil:l=[]->∀w:World,Calls C1.P f (.slice none 0 0::vs).toArray w λe w'=>e=.returned (.slice none 0 0)/\w'=w)
  (hmem:∀(g cap:Nat) (w:World),Go.Sort.Holds (Value.int .i64) w g 0 l.toArray->l.length<=cap->cap<=9223372036854775807->Calls C1.P f (.slice (some ⟨g,0,none⟩) l.length cap::vs).toArray w λe w'=>e=.returned (.slice (some ⟨g,0,none⟩) r.length cap)/\∃q,∃rest:List Int,r.length+rest.length=l.length/\w'=putRow (Value.int .i64) (Sort.ahead w q) g 0 (r++rest).toArray):
  Oy C1 f 3 1 (l.map dI) xs (λds=>ds=r.map dI):=by
 intro O w v css us hs hb hO hr hk hg hus
 obtain rfl:=hxs O w us hus
 obtain rfl:=SY hr
 refine⟨hrun _ _,?_⟩
 have hs1:=OI.1 hs
 rcases hs1.shape with⟨rfl,rfl⟩|⟨g,cap,rfl,hc⟩
 ·refine(hnil rfl w).mono ?_
  rintro e w' ⟨rfl,rfl⟩
  have:r=[]:=AE (by simpa using hrl)
  subst this
  exact⟨_,_,[],rfl,rfl,Sl.nil _ _ _ _,λb hb=>(by cases hb),by simp[Al],by simp,Tch.refl _ _⟩
 ·have hcm:cap<=9223372036854775807:=by
   rcases hs1.2 with⟨h1,_⟩|⟨g',cap',cur,h1,_,_,_,hm,_⟩
   ·cases h1
   ·cases h1;unfold maxLen at hm;omega
  refine(hmem g cap w hs1.holds1 hc hcm).mono ?_
  rintro e w' ⟨rfl,q,rest,hrl2,rfl⟩
  obtain⟨h1,h2⟩:=hs1.put1 (r++rest).toArray (by simp;omega) r.length hrl q
  have ht:(r++rest).toArray.toList.take r.length=r:=by simp
  rw[ht]at h1
  exact⟨_,_,r.map λn=>[Value.int .i64 n],rfl,rfl,OI.2 h1,λb hb=>.inl hb,M6 r,To r,h2⟩
theorem Ue {O:List Nat} {w:World} {us:List Value}(h:Ig O w [] us):us=[]:=ED h
theorem J9(l:List Int):(Lib.compact l).length<=l.length:=by
 unfold Lib.compact Lib.compactUpTo
 rw[Ac]
 have:=DF (Lib.keeps l.toArray) (List.range l.length)
 rwa [CX]at this
theorem Ou(l:List Int)(hl:l.length<=9223372036854775807):Oy C1 241 3 1 (l.map dI) [] (λds=>ds=(Lib.compact l).map dI):=
 qS (vs:=[]) (λO w us h=>Ue h) (J9 l) (λus w=>enters_of Tryz.func241 (by kernel_rfl) rfl us w)
  (λ_ w=>AnyG.slices_Compact_int_empty Tryz.compactI none 0 w)
  (λg cap w hH hc hm=>(AnyG.slices_Compact_int Tryz.compactI g 0 cap l w hH hl hc).mono λe w' ⟨h1,q,h2⟩=>⟨h1,q,List.replicate (l.length- (Lib.compact l).length) 0,by have:=J9 l;simp;omega,h2⟩)
end Go.Proofs.YtjejpdfldmempaaGreatDoor
namespace Go.Gr
open Go.Lib in
theorem V7(d:Array Int)(hd:∀i j,i<=j->j<d.size->d[i]! <=d[j]!):∀m,m<=d.size->(compactUpTo d m).Pairwise (· < ·)/\∀x,x∈compactUpTo d m↔∃j,j<m/\x=d[j]! :=by
 intro m
 induction m with
 |zero=>intro _;simp[compactUpTo]
 |
  succ m ih=>
  intro hm
  obtain⟨h1,h2⟩:=ih (by omega)
  rw[compactUpTo_succ]
  cases hk:keeps d m with
  |
   true=>
   rw[if_pos rfl]
   refine⟨DZ.2 ⟨h1,by simp,λa ha b hb=>?_⟩,λx=>?_⟩
   ·simp only[AG]at hb
    subst hb
    obtain⟨j,hj,rfl⟩:=(h2 a).1 ha
    simp only[keeps,decide_eq_true_eq]at hk
    have g1:=hd j (m-1) (by omega) (by omega)
    have g2:=hd (m-1) m (by omega) (by omega)
    have:d[m]! ≠d[m-1]! :=hk.resolve_left (by omega)
    omega
   ·rw[Ag,h2,AG]
    constructor
    ·rintro(⟨j,hj,rfl⟩|rfl)
     ·exact⟨j,by omega,rfl⟩
     ·exact⟨m,by omega,rfl⟩
    ·rintro⟨j,hj,rfl⟩
     by_cases e:j=m
     ·subst e;exact .inr rfl
     ·exact .inl ⟨j,by omega,rfl⟩
  |
   false=>
   simp only[BZ,if_false,C4]
   refine⟨h1,λx=>?_⟩
   rw[h2]
   simp only[keeps,decide_eq_false_iff_not,not_or,Classical.not_not]at hk
   constructor
   ·rintro⟨j,hj,rfl⟩;exact⟨j,by omega,rfl⟩
   ·rintro⟨j,hj,rfl⟩
    by_cases e:j=m
    ·subst e;exact⟨j-1,by omega,hk.2⟩
    ·exact⟨j,by omega,rfl⟩
def Dx(l:List Int):List Int:=Lib.compact (l.mergeSort λx y=>decide (x<=y))
theorem BT(l:List Int):(Dx l).Pairwise (· < ·)/\∀x,x∈Dx l↔x∈l:=by
 have hp:=List.mergeSort_perm l λx y=>decide (x<=y)
 have hs:(l.mergeSort λx y=>decide (x<=y)).Pairwise (λx y=>decide (x<=y)=true):=List.pairwise_mergeSort (by intro a b c;simp;omega) (by intro a b;simp;omega) l
 generalize hz:(l.mergeSort λx y=>decide (x<=y))=z at hp hs
 have hd:∀i j,i<=j->j<z.toArray.size->z.toArray[i]! <=z.toArray[j]! :=by
  intro i j hij hj
  have hj':j<z.length:=by simpa using hj
  rw[getElem!_pos z.toArray j hj,getElem!_pos z.toArray i (by omega)]
  by_cases e:i=j
  ·subst e;exact Int.le_refl _
  ·have:=AI.1 hs i j (by omega) hj' (by omega)
   simpa using this
 obtain⟨h1,h2⟩:=V7 z.toArray hd z.length (by simp)
 unfold Dx Lib.compact
 rw[hz]
 refine⟨h1,λx=>?_⟩
 rw[h2,<-hp.mem_iff,Cu]
 constructor
 ·rintro⟨j,hj,rfl⟩
  refine⟨j,hj,?_⟩
  rw[getElem!_pos z.toArray j (by simpa using hj)];simp
 ·rintro⟨j,hj,rfl⟩
  refine⟨j,hj,?_⟩
  rw[getElem!_pos z.toArray j (by simpa using hj)];simp
end Go.Gr
namespace Go.Proofs.YtjejpdfldmempaaGreatDoor
open Go.Sx Go.RowKit Go.Reg Go.Gr
set_option maxRecDepth 100000
theorem Hu(l:List Int):(Dx l).length<=l.length:=by
 have:=J9 (l.mergeSort λx y=>decide (x<=y))
 rwa [ML]at this
theorem OE(l:List Int)(hl:l.length<=4294967296):Pure C1 200 [Bx l] (λy=>y=Bx (Dx l)):=by
 refine AT Tryz.func200 Tryz.ntmps200 [] [] ?_
 (conv=>whnf)
 (repeat' ((first|refine Ai ?_ ?_|refine Aj rfl (IT l) ?_|refine nx ?_|refine A5 (λ_=>?_) (λ_=>?_)|exact AA)<;>conv=>whnf))
 refine Ee 29 rfl rfl (NS l hl) ?_;rintro ds rfl
 (conv=>whnf)
 refine JC rfl rfl (Ou (l.mergeSort λx y=>decide (x<=y)) (by rw[ML];omega)) ?_;rintro ds rfl
 ((conv=>whnf);repeat' ((first|refine odw ?_|refine nx ?_|refine A5 (λ_=>?_) (λ_=>?_))<;>conv=>whnf))
 exact rfl
end Go.Proofs.YtjejpdfldmempaaGreatDoor
end
section
namespace Go.Gr
def FE:List Int->List Edg
 |[]=>[]
 |a::l=>l.map (λb=>⟨a,b⟩)++FE l
theorem KV:∀{l:List Int},l.Pairwise (· < ·)->∀{e:Edg},e∈FE l↔e.a∈l/\e.b∈l/\e.a<e.b
 |[],_,e=>by simp[FE]
 |
  x::l,h,e=>by
  have g:=BE.1 h
  simp only[FE,Ag,Aq,KV g.2,Ar]
  constructor
  ·rintro(⟨b,hb,rfl⟩|⟨h1,h2,h3⟩)
   ·exact⟨.inl rfl,.inr hb,g.1 b hb⟩
   ·exact⟨.inr h1,.inr h2,h3⟩
  ·rintro⟨h1|h1,h2|h2,h3⟩
   ·omega
   ·exact .inl ⟨e.b,h2,by cases e;simp_all⟩
   ·have:=g.1 _ h1;omega
   ·exact .inr ⟨h1,h2,h3⟩
theorem Mb:∀{l:List Int},l.Pairwise (· < ·)->(FE l).Nodup
 |[],_=>by simp[FE]
 |
  x::l,h=>by
  have g:=BE.1 h
  simp only[FE]
  rw[D5]
  refine⟨?_,Mb g.2,?_⟩
  ·have hn:l.Nodup:=g.2.imp (λh=>by omega)
   unfold List.Nodup
   rw[BL]
   exact hn.imp λh e=>h (by cases e;rfl)
  ·intro a ha b hb e
   subst e
   obtain⟨y,hy,rfl⟩:=Aq.1 ha
   have:=(KV g.2).1 hb
   have:=g.1 _ this.1
   simp only at this
   omega
def Iy(d:Nat):Nat:=d*(d-1)/2
theorem Us(d:Nat):Iy (d+1)=d+Iy d:=by
 unfold Iy
 cases d with
 |zero=>rfl
 |
  succ d=>
  simp only[Nat.add_sub_cancel]
  have h:(d+1+1)*(d+1)=(d+1)*2+(d+1)*d:=by
   rw[<-Nat.mul_add,jE,Nat.add_comm 2 d]
  rw[h,Nat.add_comm,Nat.add_mul_div_right _ _ (by omega)]
  omega
theorem Iz:∀l:List Int,(FE l).length=Iy l.length
 |[]=>rfl
 |
  x::l=>by
  simp only[FE,Ae,Ac,Iz l,Ax,Us]
theorem Kz:∀{l1 l2:List Edg},BX l1->BX l2->(∀x,x∈l1↔x∈l2)->l1=l2:=by
 intro l1 l2 h1 h2 h
 refine MS ?_ h1 h2
 have n1:=h1.nodup
 have n2:=h2.nodup
 exact(List.perm_ext_iff_of_nodup n1 n2).2 h
def tch(E:List Edg)(i j:Nat):Bool:=match E[i]?,E[j]? with
 |some x,some y=>decide (i≠j)&&(decide (x.a=y.a)||decide (x.a=y.b)||decide (x.b=y.a)||decide (x.b=y.b))
 |_,_=>false
def Z3(E:List Edg)(a k:Nat):List Edg:=((List.range k).filter (λb:Nat=>decide (a<b)&&tch E a b)).map λb:Nat=>⟨(a:Int),(b:Int)⟩
def Hn(E:List Edg)(k:Nat):List Edg:=(List.range k).flatMap λa=>Z3 E a E.length
theorem Wg(E:List Edg)(k:Nat):Hn E (k+1)=Hn E k++Z3 E k E.length:=by
 simp[Hn,Cn]
theorem UD {E:List Edg} {a k:Nat} {e:Edg}:e∈Z3 E a k↔∃b:Nat,b<k/\a<b/\tch E a b=true/\e=⟨(a:Int),(b:Int)⟩:=by
 simp only[Z3,Aq,A3,AO,Ah,decide_eq_true_eq]
 constructor
 ·rintro⟨b,⟨h1,h2,h3⟩,rfl⟩;exact⟨b,h1,h2,h3,rfl⟩
 ·rintro⟨b,h1,h2,h3,rfl⟩;exact⟨b,⟨h1,h2,h3⟩,rfl⟩
theorem JS {E:List Edg} {k:Nat} {e:Edg}:e∈Hn E k↔∃a b:Nat,a<k/\b<E.length/\a<b/\tch E a b=true/\e=⟨(a:Int),(b:Int)⟩:=by
 simp only[Hn,A9,AO,UD]
 constructor
 ·rintro⟨a,ha,b,h1,h2,h3,rfl⟩;exact⟨a,b,ha,h1,h2,h3,rfl⟩
 ·rintro⟨a,b,ha,h1,h2,h3,rfl⟩;exact⟨a,ha,b,h1,h2,h3,rfl⟩
theorem TY(E:List Edg)(a k:Nat):BX (Z3 E a k):=by
 unfold Z3 BX
 rw[BL]
 refine(List.pairwise_lt_range.filter _).imp λh=>?_
 rw[DX]
 exact .inr ⟨rfl,Int.ofNat_lt.2 h⟩
theorem Sh(E:List Edg)(k:Nat):BX (Hn E k):=by
 induction k with
 |zero=>exact List.Pairwise.nil
 |
  succ k ih=>
  rw[Wg]
  unfold BX
  rw[DZ]
  refine⟨ih,TY _ _ _,λx hx y hy=>?_⟩
  obtain⟨a,b,h1,h2,h3,h4,rfl⟩:=JS.1 hx
  obtain⟨c,h5,h6,h7,rfl⟩:=UD.1 hy
  rw[DX];simp only;omega
theorem Y7 {E:List Edg} {v:Nat} {x:Int}:x∈Lv E v↔∃(i:Nat) (e:Edg),x=(i:Int)/\E[i]? =some e/\(e.a=v\/e.b=v):=by
 simp only[Lv,Aq,A3,decide_eq_true_eq]
 constructor
 ·rintro⟨p,⟨h1,h2⟩,rfl⟩
  exact⟨p.2,p.1,rfl,QD.1 h1,h2⟩
 ·rintro⟨i,e,rfl,h1,h2⟩
  exact⟨(e,i),⟨QD.2 h1,h2⟩,rfl⟩
theorem VK(E:List Edg)(v:Nat):(Lv E v).Pairwise (· < ·):=GO _ _
def BF(E:List Edg)(n:Nat):List Edg:=(List.range n).flatMap λv=>FE (Lv E v)
theorem DW(E:List Edg)(n:Nat):BF E (n+1)=BF E n++FE (Lv E n):=by simp[BF,Cn]
theorem Hl {E:List Edg} {v:Nat} {e:Edg}:e∈FE (Lv E v)↔∃(i j:Nat) (x y:Edg),e=⟨(i:Int),(j:Int)⟩/\i<j/\E[i]? =some x/\E[j]? =some y/\(x.a=v\/x.b=v)/\(y.a=v\/y.b=v):=by
 rw[KV (VK E v),Y7,Y7]
 constructor
 ·rintro⟨⟨i,x,h1,h2,h3⟩,⟨j,y,h4,h5,h6⟩,h7⟩
  exact⟨i,j,x,y,by cases e;simp_all,by omega,h2,h5,h3,h6⟩
 ·rintro⟨i,j,x,y,rfl,h1,h2,h3,h4,h5⟩
  exact⟨⟨i,x,rfl,h2,h4⟩,⟨j,y,rfl,h3,h5⟩,by simp only;omega⟩
theorem ZP {G:Gr}(h:G.Ok) {i j:Nat} {x y:Edg}(hi:G.edges[i]? =some x)(hj:G.edges[j]? =some y)(hij:i<j) {u v:Nat}(h1:x.a=u\/x.b=u)(h2:y.a=u\/y.b=u)(h3:x.a=v\/x.b=v)(h4:y.a=v\/y.b=v):u=v:=by
 obtain⟨l1,e1⟩:=Ad.1 hi
 obtain⟨l2,e2⟩:=Ad.1 hj
 have hs:=AI.1 h.sorted i j l1 l2 hij
 rw[e1,e2,DX]at hs
 have hx:=h.edge x (AD hi)
 have hy:=h.edge y (AD hj)
 omega
theorem KA {G:Gr}(h:G.Ok)(n:Nat):(BF G.edges n).Nodup:=by
 induction n with
 |zero=>simp[BF]
 |
  succ n ih=>
  rw[DW,D5]
  refine⟨ih,Mb (VK _ _),λa ha b hb e=>?_⟩
  subst e
  simp only[BF,A9,AO]at ha
  obtain⟨v,hv,ha⟩:=ha
  obtain⟨i,j,x,y,rfl,h1,h2,h3,h4,h5⟩:=Hl.1 ha
  obtain⟨i',j',x',y',he,h1',h2',h3',h4',h5'⟩:=Hl.1 hb
  simp only[Edg.mk.injEq,kF]at he
  obtain⟨rfl,rfl⟩:=he
  rw[h2]at h2';rw[h3]at h3'
  cases h2';cases h3'
  have:=ZP h h2 h3 h1 h4 h5 h4' h5'
  omega
theorem Oe {G:Gr}(h:G.Ok) {e:Edg}:e∈BF G.edges G.labels.length↔e∈Hn G.edges G.edges.length:=by
 simp only[BF,A9,AO,Hl,JS]
 constructor
 ·rintro⟨v,hv,i,j,x,y,rfl,h1,h2,h3,h4,h5⟩
  have l1:=(Ad.1 h2).1
  have l2:=(Ad.1 h3).1
  refine⟨i,j,l1,l2,h1,?_,rfl⟩
  unfold tch
  rw[h2,h3]
  have:i≠j:=by omega
  simp only[this,ne_eq,not_false_eq_true,decide_true,Bool.true_and,Di,decide_eq_true_eq]
  omega
 ·rintro⟨i,j,l1,l2,h1,ht,rfl⟩
  unfold tch at ht
  have hx:=Ab l1
  have hy:=Ab l2
  rw[hx,hy]at ht
  simp only[Ah,Di,decide_eq_true_eq]at ht
  have ex:=h.edge _ (Bi l1)
  have ey:=h.edge _ (Bi l2)
  generalize G.edges[i]=x at*
  generalize G.edges[j]=y at*
  have key:∀v:Int,0<=v->v<G.labels.length->(x.a=v\/x.b=v)->(y.a=v\/y.b=v)->∃a:Nat,a<G.labels.length/\∃(i_1 j_1:Nat) (x y:Edg),(⟨(i:Int),(j:Int)⟩:Edg)=⟨(i_1:Int),(j_1:Int)⟩/\i_1<j_1/\G.edges[i_1]? =some x/\G.edges[j_1]? =some y/\(x.a=(a:Int)\/x.b=(a:Int))/\(y.a=(a:Int)\/y.b=(a:Int)):=by
   intro v h0 hn g1 g2
   obtain⟨m,rfl⟩:=A1 h0
   exact⟨m,by omega,i,j,x,y,rfl,h1,hx,hy,g1,g2⟩
  obtain⟨_,((h|h)|h)|h⟩:=ht
  ·exact key x.a (by omega) (by omega) (.inl rfl) (.inl h.symm)
  ·exact key x.a (by omega) (by omega) (.inl rfl) (.inr h.symm)
  ·exact key x.b (by omega) (by omega) (.inr rfl) (.inl h.symm)
  ·exact key x.b (by omega) (by omega) (.inr rfl) (.inr h.symm)
theorem KU {G:Gr}(h:G.Ok) {e:Edg}(he:e∈BF G.edges G.labels.length):0<=e.a/\e.a<e.b/\e.b<G.edges.length:=by
 rw[Oe h,JS]at he
 obtain⟨i,j,h1,h2,h3,_,rfl⟩:=he
 exact⟨by simp only;omega,by simp only;omega,by simp only;omega⟩
theorem Of {l:List Edg}(h:∀e∈l,e.a<=e.b):l.map turn=l:=by
 induction l with
 |nil=>rfl
 |cons e l ih=>rw[Ap,Io (h e (by simp)),ih λx hx=>h x (by simp[hx])]
theorem Ml {G:Gr}(h:G.Ok)(hm:G.edges.length<=4096)(hp:(BF G.edges G.labels.length).length<=16384):De (List.replicate G.edges.length 0) (BF G.edges G.labels.length)=none:=by
 refine GV (by rw[Bm];omega) (λx hx=>by rw[(List.mem_replicate.1 hx).2];rfl) λj hj=>?_
 unfold Cp
 rw[Ab hj]
 simp only[GF,Bm]
 have he:=KU h (Bi hj)
 have hnd:=KA h G.labels.length
 have hmt:((BF G.edges G.labels.length).take j).map turn=(BF G.edges G.labels.length).take j:=Of λe he=>by
  have:=KU h (Ea he);omega
 rw[hmt]
 have hnot:turn (BF G.edges G.labels.length)[j]∉(BF G.edges G.labels.length).take j:=by
  rw[Io (by omega)]
  intro hmem
  obtain⟨k,hk,e⟩:=AU.1 hmem
  have h2:=(AI.1 hnd) k j (by omega) hj (by omega)
  exact h2 e
 rw[if_neg (by omega),if_neg (by omega),if_neg hnot]
theorem Oh {G:Gr}(h:G.Ok):Fx (BF G.edges G.labels.length)=Hn G.edges G.edges.length:=by
 have hmt:(BF G.edges G.labels.length).map turn=BF G.edges G.labels.length:=Of λe he=>by
  have:=KU h he;omega
 refine Kz ?_ (Sh _ _) λx=>?_
 ·refine JL ((FK _).nodup_iff.2 ?_) (IB _)
  rw[hmt];exact KA h _
 ·rw[(FK _).mem_iff,hmt,Oe h]
theorem nL(E:List Edg)(v:Nat)(h:∀e∈E,e.a≠e.b):(Lv E v).length=F3 E v:=by
 have key:∀(E:List Edg),(∀e∈E,e.a≠e.b)->∀k,((E.zipIdx k).filter λp=>decide (p.1.a=(v:Int)\/p.1.b=(v:Int))).length=(Eh E v).length+(DJ E v).length:=by
  intro E
  induction E with
  |nil=>intro _ k;rfl
  |
   cons e E ih=>
   intro h k
   have:=ih (λx hx=>h x (by simp[hx])) (k+1)
   have hne:=h e (by simp)
   simp only[NK,bV,Eh,DJ]at this⊢
   by_cases h1:e.a=(v:Int)<;>by_cases h2:e.b=(v:Int)
   ·omega
   ·have e1:(decide (e.a=(v:Int)\/e.b=(v:Int)))=true:=by simp[h1]
    rw[e1];simp only[h1,h2,decide_true,decide_false,if_true,if_false,Ax,Ap,BZ];omega
   ·have e1:(decide (e.a=(v:Int)\/e.b=(v:Int)))=true:=by simp[h2]
    rw[e1];simp only[h1,h2,decide_true,decide_false,if_true,if_false,Ax,Ap,BZ];omega
   ·have e1:(decide (e.a=(v:Int)\/e.b=(v:Int)))=false:=by simp[h1,h2]
    rw[e1];simp only[h1,h2,decide_false,if_false,BZ];omega
 unfold Lv F3 Df
 rw[Ac,Ae]
 exact key E h 0
end Go.Gr
end
section
namespace Go.Proofs.YtjejpdfldmempaaGreatDoor
open Go.Sx Go.RowKit Go.Reg Go.Gr
set_option maxRecDepth 100000
def dM(labels:List Int)(S:List Edg):Da:=.agg [Bx labels,Er S]
def qW:Da:=.agg [.nils,.nils]
theorem LN(e:Edg):Pure C1 162 [dE e] (λy=>y=dE (turn e)):=by
 refine AT Tryz.func162 Tryz.ntmps162 [] [] ?_
 by_cases h:e.b<e.a
 ·have e1:turn e=⟨e.b,e.a⟩:=by unfold turn;simp only[Edg.mk.injEq];omega
  rw[e1]
  ((conv=>whnf);repeat' ((first|refine odw ?_|refine nx ?_|refine A5 (λ_=>?_) (λ_=>?_))<;>conv=>whnf))
  exact rfl
 ·rw[Io (by omega)]
  ((conv=>whnf);repeat' ((first|refine odw ?_|refine nx ?_|refine A5 (λ_=>?_) (λ_=>?_))<;>conv=>whnf))
  exact rfl
theorem Pz(x y:Edg):Pure C1 163 [dE x,dE y] (λr=>r=.bool (decide (BW x y<0))):=by
 refine AT Tryz.func163 Tryz.ntmps163 [] [] ?_
 have hc:=DX x y
 by_cases h:x.a=y.a
 ·((conv=>whnf);repeat' ((first|refine odw ?_|refine nx ?_|refine A5 (λ_=>?_) (λ_=>?_))<;>conv=>whnf))
  show Da.plain _=_
  have:(BW x y<0)↔x.b<y.b:=by rw[hc];omega
  simp[Da.plain,this]
 ·((conv=>whnf);repeat' ((first|refine odw ?_|refine nx ?_|refine A5 (λ_=>?_) (λ_=>?_))<;>conv=>whnf))
  show Da.plain _=_
  have:(BW x y<0)↔x.a<y.a:=by rw[hc];omega
  simp[Da.plain,this]
theorem qV {O:List Nat} {w:World} {labels:List Int} {S:List Edg} {v:Value}(h:Rep O w (dM labels S) v):S.length<=maxLen:=by
 obtain⟨cs,r,rfl⟩:=h
 simp only[dM,Er,RepC,RepCs]at r
 obtain⟨_,_,_,_,c1,c2,_,⟨a,c,css,_,h1,h2,_⟩,_⟩:=r
 rw[Ac]at h1
 omega
def fC:List (Nat×Plan):=[(5,.leaf [0,1,0,0,1,1,3] [0,2,1,3,4,5,6] [0,1,0,7,15,0,63])]
theorem eN(labels:List Int)(S:List Edg)(a b:Int):Pure C1 133 [dM labels S,.int .i64 a,.int .i64 b] (λy=>y=.int .i64 (jZ S (turn ⟨a,b⟩))):=by
 have hl:(S.map dE).length=S.length:=Ac _
 refine Pure.assume (P:=S.length<=maxLen) (λO w us h=>?_) (λhm=>?_)
 ·obtain⟨v,vs,rfl,h1,_⟩:=Cb h
  exact qV h1
 unfold maxLen at hm
 refine AT Tryz.func133 Tryz.ntmps133 [] fC ?_
 ((conv=>whnf);repeat' ((first|refine odw ?_|refine nx ?_|refine A5 (λ_=>?_) (λ_=>?_))<;>conv=>whnf))
 refine AH rfl (LN ⟨a,b⟩) ?_;rintro y rfl
 generalize turn ⟨a,b⟩=t
 obtain⟨ta,tb⟩:=t
 ((conv=>whnf);repeat' ((first|refine odw ?_|refine nx ?_|refine A5 (λ_=>?_) (λ_=>?_))<;>conv=>whnf))
 refine AN (ι:=Nat) (λi=>i<=S.length/\∀x∈S.take i,x≠⟨ta,tb⟩) (λi=>[(8,.d (.int .i64 i)),(7,.own 7),(3,.own 3)])
  (λi=>[(3,.cells 59 [.d (Bx labels),.d (Er S)]),(7,.cells 137 [.d (.int .i64 ta),.d (.int .i64 tb)])]) (λi=>S.length-i) 0 (λ_=>rfl) ⟨As _,by simp⟩ (.refl _ _) ⟨rfl,rfl,rfl,trivial⟩ ⟨rfl,rfl,trivial⟩ ?_
 rintro i ⟨hi,hne⟩
 refine BV [] fC ?_
 by_cases hlt:i<S.length
 ·have hx:=Ab hlt
  generalize S[i]=x at hx
  obtain⟨xa,xb⟩:=x
  have hxd:(S.map dE)[i]? =some (.agg [.int .i64 xa,.int .i64 xb]):=by rw[Af,hx];rfl
  by_cases he:xa=ta/\xb=tb
  ·obtain⟨rfl,rfl⟩:=he
   rw[qL hx hne]
   (repeat' ((first|refine Ai ?_ ?_|refine AM hxd rfl ?_|refine nx ?_|refine A5 (λ_=>?_) (λ_=>?_)|exact AA)<;>conv=>whnf))
   exact rfl
  ·(repeat' ((first|refine Ai ?_ ?_|refine AM hxd rfl ?_|refine nx ?_|refine A5 (λ_=>?_) (λ_=>?_)|exact AA)<;>conv=>whnf))
   refine⟨i+1,_,_,⟨hlt,?_⟩,.refl _ _,⟨rfl,rfl,rfl,trivial⟩,⟨rfl,rfl,trivial⟩,by omega⟩
   intro z hz
   rw[DG hx]at hz
   rcases Ag.1 hz with hz|hz
   ·exact hne z hz
   ·simp only[AG]at hz
    subst hz
    intro h
    exact he ⟨congrArg Edg.a h,congrArg Edg.b h⟩
 ·have hii:S.take i=S:=Ao (by omega)
  rw[hii]at hne
  rw[Qg (λh=>hne _ h rfl)]
  ((conv=>whnf);repeat' ((first|refine odw ?_|refine nx ?_|refine A5 (λ_=>?_) (λ_=>?_))<;>conv=>whnf))
  exact rfl
def Uc(labels:List Int)(edges:List Edg):Da:=match De labels edges with
 |some (c,a,_)=>.tuple [qW,.int .i64 c,.int .i64 a]
 |none=>.tuple [dM labels (Fx edges),.int .i64 0,.int .i64 0]
theorem DU {labels:List Int} {edges:List Edg} {c a:Int} {b:Bool}(h:De labels edges=some (c,a,b)):Uc labels edges=.tuple [qW,.int .i64 c,.int .i64 a]:=by unfold Uc;rw[h]
theorem Py {labels:List Int} {edges:List Edg}(h:De labels edges=none):Uc labels edges=.tuple [dM labels (Fx edges),.int .i64 0,.int .i64 0]:=by unfold Uc;rw[h]
theorem Vh {t k:Nat} {d:Dat} {a b:List Da}(h:a=b):some (Own.cells t [d,.d (.list k a)])=some (Own.cells t [d,.d (.list k b)]):=by rw[h]
def OC:List (Nat×Plan):=[(20,.leaf [0,0,1,0,0,0,0,1,0,0,1,1,2,0] [0,1,2,3,4,5,6,8,7,9,10,11,12,13] [0,0,2,6,15,31,63,127,63,511,1023,63,4095,8191])]
def Ty:List FuncId:=[163]
set_option maxHeartbeats 4000000 in
theorem ZB(labels:List Int)(edges:List Edg):Pure C1 112 [Bx labels,Er edges] (λy=>y=Uc labels edges):=by
 have hll:(labels.map dI).length=labels.length:=Ac _
 have hel:(edges.map dE).length=edges.length:=Ac _
 refine AT Tryz.func112 Tryz.ntmps112 Ty OC ?_
 by_cases h1:4096<labels.length
 ·rw[DU (Gn (.inl h1))]
  ((conv=>whnf);repeat' ((first|refine odw ?_|refine nx ?_|refine A5 (λ_=>?_) (λ_=>?_))<;>conv=>whnf))
  exact rfl
 by_cases h2:16384<edges.length
 ·rw[DU (Gn (.inr h2))]
  ((conv=>whnf);repeat' ((first|refine odw ?_|refine nx ?_|refine A5 (λ_=>?_) (λ_=>?_))<;>conv=>whnf))
  exact rfl
 have h0:¬(4096<labels.length\/16384<edges.length):=by omega
 ((conv=>whnf);repeat' ((first|refine odw ?_|refine nx ?_|refine A5 (λ_=>?_) (λ_=>?_))<;>conv=>whnf))
 refine AN (ι:=Nat) (λv=>v<=labels.length/\∀x∈labels.take v,Bt x=false) (λv=>[(7,.d (.int .i64 v)),(4,.own 4),(1,.d (Er edges)),(0,.d (Bx labels))])
  (λ_=>[(4,.cells 59 [.d .nils,.d .nils])]) (λv=>labels.length-v) 0 (λ_=>rfl) ⟨As _,by simp⟩ (.refl _ _) ⟨rfl,rfl,rfl,rfl,trivial⟩ ⟨rfl,trivial⟩ ?_
 rintro v ⟨hv,hgood⟩
 refine BV Ty OC ?_
 by_cases hlt:v<labels.length
 ·have hx:=Ab hlt
  generalize labels[v]=x at hx
  have hxd:(labels.map dI)[v]? =some (.int .i64 x):=by rw[Af,hx];rfl
  by_cases b1:x<0
  ·have hb:Bt x=true:=by simp[Bt,b1]
   rw[DU (Gp h0 hx hb hgood)]
   (repeat' ((first|refine Ai ?_ ?_|refine AM hxd rfl ?_|refine nx ?_|refine A5 (λ_=>?_) (λ_=>?_)|exact AA)<;>conv=>whnf))
   exact rfl
  by_cases b2:255<x
  ·have hb:Bt x=true:=by simp[Bt,b2]
   rw[DU (Gp h0 hx hb hgood)]
   (repeat' ((first|refine Ai ?_ ?_|refine AM hxd rfl ?_|refine nx ?_|refine A5 (λ_=>?_) (λ_=>?_)|exact AA)<;>conv=>whnf))
   exact rfl
  ·have hb:Bt x=false:=by simp[Bt];omega
   (repeat' ((first|refine Ai ?_ ?_|refine AM hxd rfl ?_|refine nx ?_|refine A5 (λ_=>?_) (λ_=>?_)|exact AA)<;>conv=>whnf))
   refine⟨v+1,_,_,⟨hlt,?_⟩,.refl _ _,⟨rfl,rfl,rfl,rfl,trivial⟩,⟨rfl,trivial⟩,by omega⟩
   intro z hz
   rw[A2,hx]at hz
   rcases Ag.1 hz with hz|hz
   ·exact hgood z hz
   ·simp at hz;subst hz;exact hb
 ·have hve:labels.take v=labels:=Ao (by omega)
  rw[hve]at hgood
  have hvn:v=labels.length:=by omega
  subst hvn
  clear hve hv hlt
  ((conv=>whnf);repeat' ((first|refine odw ?_|refine nx ?_|refine A5 (λ_=>?_) (λ_=>?_))<;>conv=>whnf))
  refine AN (ι:=Nat×List Edg) (λp=>p.1<=edges.length/\Part edges p.1 p.2/\∀j,j<p.1->Cp labels.length edges j=0) (λp=>[(9,.d (.int .i64 p.1)),(8,.own 8),(4,.own 4),(1,.d (Er edges)),(0,.d (Bx labels))])
   (λp=>[(4,.cells 59 [.d .nils,.d .nils]),(8,.cells 59 [.d (Bx labels),.d (Er p.2)])]) (λp=>edges.length-p.1) (0,[]) (λ_=>rfl) ⟨As _,Part.zero _,λj hj=>absurd hj (Nat.not_lt_zero j)⟩
   (.laxc 8 rfl (.same _ (.lax (.nils 2) .nil)) (.refl _ _)) ⟨rfl,rfl,rfl,rfl,rfl,trivial⟩ ⟨rfl,rfl,trivial⟩ ?_
  rintro⟨i,S⟩ ⟨hi,hpart,hcode⟩
  simp only at hi hpart hcode
  refine BV Ty OC ?_
  by_cases hlt:i<edges.length
  ·have hx:=Ab hlt
   have hec:Cp labels.length edges i=GF labels.length ((edges.take i).map turn) edges[i]:=by unfold Cp;rw[hx]
   generalize edges[i]=e at hx hec
   have hmem:=hpart.mem (turn e)
   have hSl:S.length=i:=by rw[hpart.perm.length_eq,Ac,Aw];omega
   have hxd:(edges.map dE)[i]? =some (dE e):=by rw[Af,hx];rfl
   have hta:(turn e).a=min e.a e.b:=rfl
   have htb:(turn e).b=max e.a e.b:=rfl
   have htt:turn (turn e)=turn e:=QZ e
   (repeat' ((first|refine Ai ?_ ?_|refine AM hxd rfl ?_|refine nx ?_|refine A5 (λ_=>?_) (λ_=>?_)|exact AA)<;>conv=>whnf))
   refine AH rfl (LN e) ?_;rintro y rfl
   have hnext:=λk h1 h2=>hpart.next (k:=k) hx h1 h2
   generalize htE:turn e=t at hmem hta htb htt hnext⊢
   obtain⟨ta,tb⟩:=t
   simp only at hta htb
   rw[show dE ⟨ta,tb⟩=.agg [.int .i64 ta,.int .i64 tb]from rfl]
   by_cases c1:ta<0
   ·have hc:Cp labels.length edges i=3:=by rw[hec];unfold GF;rw[if_pos (.inl (by omega))]
    rw[DU (DP h0 hgood hlt (by rw[hc];decide) hcode),hc]
    ((conv=>whnf);repeat' ((first|refine odw ?_|refine nx ?_|refine A5 (λ_=>?_) (λ_=>?_))<;>conv=>whnf))
    exact rfl
   by_cases c2:(labels.length:Int)<=tb
   ·have hc:Cp labels.length edges i=3:=by rw[hec];unfold GF;rw[if_pos (.inr (by omega))]
    rw[DU (DP h0 hgood hlt (by rw[hc];decide) hcode),hc]
    ((conv=>whnf);repeat' ((first|refine odw ?_|refine nx ?_|refine A5 (λ_=>?_) (λ_=>?_))<;>conv=>whnf))
    exact rfl
   by_cases c3:ta=tb
   ·have hc:Cp labels.length edges i=1:=by rw[hec];unfold GF;rw[if_neg (by omega),if_pos (by omega)]
    rw[DU (DP h0 hgood hlt (by rw[hc];decide) hcode),hc]
    ((conv=>whnf);repeat' ((first|refine odw ?_|refine nx ?_|refine A5 (λ_=>?_) (λ_=>?_))<;>conv=>whnf))
    exact rfl
   ((conv=>whnf);repeat' ((first|refine odw ?_|refine nx ?_|refine A5 (λ_=>?_) (λ_=>?_))<;>conv=>whnf))
   refine AH rfl (eN labels S ta tb) ?_;rintro y rfl
   rw[htt]
   by_cases c4:(⟨ta,tb⟩:Edg)∈S
   ·have hc:Cp labels.length edges i=4:=by rw[hec];unfold GF;rw[if_neg (by omega),if_neg (by omega),if_pos (by rw[htE];exact hmem.1 c4)]
    rw[DU (DP h0 hgood hlt (by rw[hc];decide) hcode),hc]
    have EO:=X0.2 c4
    generalize jZ S ⟨ta,tb⟩=z at EO
    ((conv=>whnf);repeat' ((first|refine odw ?_|refine nx ?_|refine A5 (λ_=>?_) (λ_=>?_))<;>conv=>whnf))
    exact rfl
   ·have hc:Cp labels.length edges i=0:=by rw[hec];unfold GF;rw[if_neg (by omega),if_neg (by omega),if_neg (by rw[htE];exactλh=>c4 (hmem.2 h))]
    have EO:jZ S ⟨ta,tb⟩<0:=by rw[Qg c4];decide
    generalize jZ S ⟨ta,tb⟩=z at EO
    ((conv=>whnf);repeat' ((first|refine odw ?_|refine nx ?_|refine A5 (λ_=>?_) (λ_=>?_))<;>conv=>whnf))
    refine AN (ι:=Nat) (λk=>k<=S.length/\∀x∈S.take k,BW x ⟨ta,tb⟩<0) (λk=>[(11,.d (.int .i64 k)),(10,.own 10),(9,.d (.int .i64 i)),(8,.own 8),(4,.own 4),(1,.d (Er edges)),(0,.d (Bx labels))])
     (λ_=>[(4,.cells 59 [.d .nils,.d .nils]),(8,.cells 59 [.d (Bx labels),.d (Er S)]),(10,.cells 137 [.d (.int .i64 ta),.d (.int .i64 tb)])])
     (λk=>S.length-k) 0 (λ_=>rfl) ⟨As _,by simp⟩ (.refl _ _) ⟨rfl,rfl,rfl,rfl,rfl,rfl,rfl,trivial⟩ ⟨rfl,rfl,rfl,trivial⟩ ?_
    rintro k ⟨hk,hkl⟩
    refine BV Ty OC ?_
    have hSd:(S.map dE).length=S.length:=Ac _
    by_cases hks:k<S.length
    ·have hxk:=Ab hks
     generalize S[k]=x at hxk
     have hxkd:(S.map dE)[k]? =some (dE x):=by rw[Af,hxk];rfl
     by_cases hl:BW x ⟨ta,tb⟩<0
     ·(repeat' ((first|refine Ai ?_ ?_|refine AM hxkd rfl ?_|refine nx ?_|refine A5 (λ_=>?_) (λ_=>?_)|exact AA)<;>conv=>whnf))
      refine AH rfl (Pz x ⟨ta,tb⟩) ?_;rintro y rfl
      rw[decide_eq_true hl]
      ((conv=>whnf);repeat' ((first|refine odw ?_|refine nx ?_|refine A5 (λ_=>?_) (λ_=>?_))<;>conv=>whnf))
      refine⟨k+1,_,_,⟨hks,?_⟩,.refl _ _,⟨rfl,rfl,rfl,rfl,rfl,rfl,rfl,trivial⟩,⟨rfl,rfl,rfl,trivial⟩,by omega⟩
      intro z hz
      rw[DG hxk]at hz
      rcases Ag.1 hz with hz|hz
      ·exact hkl z hz
      ·simp only[AG]at hz
       subst hz;exact hl
     ·have hstop:∀z,S[k]? =some z->¬BW z ⟨ta,tb⟩<0:=λz hz=>by rw[hxk]at hz;cases hz;exact hl
      (repeat' ((first|refine Ai ?_ ?_|refine AM hxkd rfl ?_|refine nx ?_|refine A5 (λ_=>?_) (λ_=>?_)|exact AA)<;>conv=>whnf))
      refine AH rfl (Pz x ⟨ta,tb⟩) ?_;rintro y rfl
      rw[decide_eq_false hl]
      ((conv=>whnf);repeat' ((first|refine odw ?_|refine nx ?_|refine A5 (λ_=>?_) (λ_=>?_))<;>conv=>whnf))
      (repeat' ((first|refine Ai ?_ ?_|refine Ym k rfl (by rw[Ac];omega) ?_|refine nx ?_|refine A5 (λ_=>?_) (λ_=>?_)|exact AA)<;>conv=>whnf))
      have hfin:([]++(S.map dE).take k)++[.agg [.int .i64 ta,.int .i64 tb]]++(S.map dE).drop k=(Jx S k ⟨ta,tb⟩).map dE:=by simp[Jx,dE]
      refine⟨(i+1,Jx S k ⟨ta,tb⟩),_,_,⟨hlt,hnext k c4 hkl hstop,?_⟩,.frz 99 rfl (.refl _ _),⟨rfl,rfl,rfl,rfl,rfl,trivial⟩,⟨rfl,Vh hfin,trivial⟩,by simp only;omega⟩
      intro j hj
      rcases Nat.lt_succ_iff_lt_or_eq.1 hj with h|h
      ·exact hcode j h
      ·rw[h];exact hc
    ·have hke:k=S.length:=by omega
     have hstop:∀z,S[k]? =some z->¬BW z ⟨ta,tb⟩<0:=λz hz=>by rw[BB (by omega)]at hz;cases hz
     (repeat' ((first|refine Ai ?_ ?_|refine Ym k rfl (by rw[Ac];omega) ?_|refine nx ?_|refine A5 (λ_=>?_) (λ_=>?_)|exact AA)<;>conv=>whnf))
     have hfin:([]++(S.map dE).take k)++[.agg [.int .i64 ta,.int .i64 tb]]++(S.map dE).drop k=(Jx S k ⟨ta,tb⟩).map dE:=by simp[Jx,dE]
     refine⟨(i+1,Jx S k ⟨ta,tb⟩),_,_,⟨hlt,hnext k c4 hkl hstop,?_⟩,.frz 99 rfl (.refl _ _),⟨rfl,rfl,rfl,rfl,rfl,trivial⟩,⟨rfl,Vh hfin,trivial⟩,by simp only;omega⟩
     intro j hj
     rcases Nat.lt_succ_iff_lt_or_eq.1 hj with h|h
     ·exact hcode j h
     ·rw[h];exact hc
  ·have hin:i=edges.length:=by omega
   subst hin
   obtain rfl:=hpart.all (Av _)
   rw[Py (GV h0 hgood hcode)]
   ((conv=>whnf);repeat' ((first|refine odw ?_|refine nx ?_|refine A5 (λ_=>?_) (λ_=>?_))<;>conv=>whnf))
   exact rfl
theorem PT(edges:List Edg)(hm:edges.length<=4294967296):Pure C1 46 [Er edges] (λy=>y=Er edges):=by
 have hel:(edges.map dE).length=edges.length:=Ac _
 refine AT Tryz.func46 Tryz.ntmps46 [] [] ?_
 ((conv=>whnf);repeat' ((first|refine odw ?_|refine nx ?_|refine A5 (λ_=>?_) (λ_=>?_))<;>conv=>whnf))
 refine AN (ι:=Nat) (λi=>i<=edges.length) (λi=>[(4,.d (.int .i64 i)),(3,.own 300),(0,.d (Er edges))]) (λi=>[(300,.slice 103 2 ((edges.take i).map dE))]) (λi=>edges.length-i) 0 (λ_=>rfl) (As _)
  (.own 3 300 103 2 rfl rfl (.refl _ _)) ⟨rfl,rfl,rfl,trivial⟩ ⟨rfl,trivial⟩ ?_
 intro i hi
 refine BV [] [] ?_
 by_cases hlt:i<edges.length
 ·have hx:=Ab hlt
  generalize edges[i]=e at hx
  have hxd:(edges.map dE)[i]? =some (dE e):=by rw[Af,hx];rfl
  have htl:(edges.take i).length=i:=by rw[Aw];omega
  (repeat' ((first|refine Ai ?_ ?_|refine AM hxd rfl ?_|refine nx ?_|refine A5 (λ_=>?_) (λ_=>?_)|exact AA)<;>conv=>whnf))
  have hfin:(edges.take i).map dE++[dE e]=(edges.take (i+1)).map dE:=by rw[DG hx,AF];rfl
  exact⟨i+1,_,_,hlt,.refl _ _,⟨rfl,rfl,rfl,trivial⟩,⟨Bj hfin,trivial⟩,by omega⟩
 ·have hii:edges.take i=edges:=Ao (by omega)
  rw[hii]
  ((conv=>whnf);repeat' ((first|refine odw ?_|refine nx ?_|refine A5 (λ_=>?_) (λ_=>?_))<;>conv=>whnf))
  exact rfl
def Mi(labels:List Int)(edges:List Edg):Option Gr:=if labels.length<=10/\edges.length<=30 then(match De labels edges with|some _=>none|none=>some ⟨labels,Fx edges⟩)else none
def GB(labels:List Int)(edges:List Edg):Da:=match Mi labels edges with
 |some G=>.tuple [dG G,dM G.labels G.edges,.bool true]
 |none=>.tuple [.nilp,qW,.bool false]
theorem Xf {labels:List Int} {edges:List Edg} {G:Gr}(h:Mi labels edges=some G):G=⟨labels,Fx edges⟩/\G.Ok/\labels.length<=10/\edges.length<=30/\De labels edges=none:=by
 unfold Mi at h
 split at h
 ·rename_i hl
  split at h
  ·cases h
  ·rename_i hn
   cases h
   exact⟨rfl,MC hn,hl.1,hl.2,hn⟩
 ·cases h
def lR:List (Nat×Plan):=[(5,.leaf [0,1,0,0,0,0,0,0,0,3,0] [0,2,3,4,5,6,7,8,1,9,10] [0,0,0,4,12,28,60,124,29,287,1023])]
theorem R9(labels:List Int)(edges:List Edg):Pure C1 72 [Bx labels,Er edges] (λy=>y=GB labels edges):=by
 have hll:(labels.map dI).length=labels.length:=Ac _
 have hel:(edges.map dE).length=edges.length:=Ac _
 refine AT Tryz.func72 Tryz.ntmps72 [] lR ?_
 by_cases h1:10<labels.length
 ·have e:GB labels edges=.tuple [.nilp,qW,.bool false]:=by unfold GB Mi;rw[if_neg (by omega)]
  rw[e]
  ((conv=>whnf);repeat' ((first|refine odw ?_|refine nx ?_|refine A5 (λ_=>?_) (λ_=>?_))<;>conv=>whnf))
  exact rfl
 by_cases h2:30<edges.length
 ·have e:GB labels edges=.tuple [.nilp,qW,.bool false]:=by unfold GB Mi;rw[if_neg (by omega)]
  rw[e]
  ((conv=>whnf);repeat' ((first|refine odw ?_|refine nx ?_|refine A5 (λ_=>?_) (λ_=>?_))<;>conv=>whnf))
  exact rfl
 ((conv=>whnf);repeat' ((first|refine odw ?_|refine nx ?_|refine A5 (λ_=>?_) (λ_=>?_))<;>conv=>whnf))
 refine AH rfl (ZB labels edges) ?_;rintro y rfl
 rcases hn:De labels edges with _|⟨c,a,b⟩
 ·have e:GB labels edges=.tuple [dG ⟨labels,Fx edges⟩,dM labels (Fx edges),.bool true]:=by unfold GB Mi;rw[if_pos (by omega),hn]
  rw[e,Py hn]
  ((conv=>whnf);repeat' ((first|refine odw ?_|refine nx ?_|refine A5 (λ_=>?_) (λ_=>?_))<;>conv=>whnf))
  refine AH rfl (PT edges (by omega)) ?_;rintro y rfl
  ((conv=>whnf);repeat' ((first|refine odw ?_|refine nx ?_|refine A5 (λ_=>?_) (λ_=>?_))<;>conv=>whnf))
  refine AH rfl (PH labels edges) ?_;rintro y rfl
  rw[Nn hn]
  ((conv=>whnf);repeat' ((first|refine odw ?_|refine nx ?_|refine A5 (λ_=>?_) (λ_=>?_))<;>conv=>whnf))
  all_goals exact rfl
 ·have e:GB labels edges=.tuple [.nilp,qW,.bool false]:=by unfold GB Mi;rw[if_pos (by omega),hn]
  rw[e,DU hn]
  ((conv=>whnf);repeat' ((first|refine odw ?_|refine nx ?_|refine A5 (λ_=>?_) (λ_=>?_))<;>conv=>whnf))
  refine AH rfl (PT edges (by omega)) ?_;rintro y rfl
  ((conv=>whnf);repeat' ((first|refine odw ?_|refine nx ?_|refine A5 (λ_=>?_) (λ_=>?_))<;>conv=>whnf))
  refine AH rfl (PH labels edges) ?_;rintro y rfl
  rw[EF hn]
  cases b
  ·((conv=>whnf);repeat' ((first|refine odw ?_|refine nx ?_|refine A5 (λ_=>?_) (λ_=>?_))<;>conv=>whnf))
   all_goals exact rfl
  ·((conv=>whnf);repeat' ((first|refine odw ?_|refine nx ?_|refine A5 (λ_=>?_) (λ_=>?_))<;>conv=>whnf))
   all_goals exact rfl
theorem aA(labels:List Int)(edges:List Edg):GB labels edges=.tuple [.nilp,qW,.bool false]\/
  ∃G:Gr,GB labels edges=.tuple [dG G,dM G.labels G.edges,.bool true]/\G.Ok/\G.labels.length<=10/\G.edges.length<=30/\G=⟨labels,Fx edges⟩/\De labels edges=none/\edges.length=G.edges.length:=by
 rcases h:Mi labels edges with _|G
 ·left;unfold GB;rw[h]
 ·right
  obtain⟨h1,h2,h3,h4,h5⟩:=Xf h
  refine⟨G,by unfold GB;rw[h],h2,?_,?_,h1,h5,?_⟩
  ·rw[h1];exact h3
  ·rw[h1];simp only;rw[NB];exact h4
  ·rw[h1];simp only;rw[NB]
end Go.Proofs.YtjejpdfldmempaaGreatDoor
end
