/- Merged: Lmd Rft Rfu Rfl Lgg Tbl Rcf Tbr Tbs. -/
import Derived.Test.YtjejpdfldmempaaGreatDoorlzaz
import Derived.Test.YtjejpdfldmempaaGreatDoorlzay
import Derived.Test.YtjejpdfldmempaaGreatDoorlzaw
import Derived.Test.YtjejpdfldmempaaGreatDoorlzas
import Derived.Test.YtjejpdfldmempaaGreatDoorlzar
section
namespace Go.Proofs.YtjejpdfldmempaaGreatDoor
open Go.Sx Go.RowKit Go.Reg Go.Gr
set_option maxRecDepth 100000
theorem oH {O:List Nat} {w:World} {l:List Opp} {v:Value}(h:Rep O w (Ja l) v):l.length<=9223372036854775807:=by
 have:=Zh h
 rw[Ab]at this
 unfold maxLen at this
 omega
theorem Pure.len5 {f:FuncId} {a b c d:Da} {l:List Opp} {xs:List Da} {Q:Da->Prop}(h:l.length<=9223372036854775807->Sx.Pure C1 f (a::b::c::d::Ja l::xs) Q):Sx.Pure C1 f (a::b::c::d::Ja l::xs) Q:=
 Sx.Pure.assume (λO w us hr=>by
  obtain⟨_,_,rfl,_,h1⟩:=Ci hr
  obtain⟨_,_,rfl,_,h2⟩:=Ci h1
  obtain⟨_,_,rfl,_,h3⟩:=Ci h2
  obtain⟨_,_,rfl,_,h4⟩:=Ci h3
  obtain⟨_,_,rfl,h5,_⟩:=Ci h4
  exact oH h5) h
def qR(G:Gr)(e:Bool)(d:Int)(l:List Opp):Da:=.agg [dM G.labels G.edges,.bool e,.int .i64 d,Ja l]
def uP:Da:=.tuple [.agg [.nilp,.bool false,.int .i64 0,.nils],.agg [.agg [.nils,.nils],.bool false,.int .i64 0,.nils],.bool false]
def sQ:List (Nat×Plan):=[(5,.split 6 11 (.leaf [0,0,0,0,2,0,1,0,0,0,0,3,3,0] [0,1,2,3,7,8,9,6,10,4,5,11,12,13] [0,0,0,0,8,31,0,0,0,0,960,127,4095,8191]) (.leaf [0,0,0,0,2,0,1,0,0,0,0,3,3,0] [0,1,2,3,7,8,9,4,5,11,6,10,12,13] [0,0,0,0,8,31,2111,0,0,0,3071,63,4095,8191]))]
def vY:List FuncId:=[72,73,23]
theorem Ya(labels:List Int)(edges:List Edg)(e:Bool)(d:Int)(p:List Opp):Pure C1 22 [AS labels,D0 edges,.bool e,.int .i64 d,Ja p] (λy=>y=uP\/∃G,y=.tuple [dJ G e d p,qR G e d p,.bool true]/\JobOk G e d p):=by
 refine Pure.len5 λhpl=>?_
 have hll:(labels.map dI).length=labels.length:=Ab _
 have hel:(edges.map dE).length=edges.length:=Ab _
 have hmd:=Sm labels edges
 have hrr:=Rt p hpl
 refine AK Tryz.func22 Tryz.ntmps22 vY sQ ?_
 (conv=>whnf)
 rcases cN labels edges with hy|⟨G,hy,hG,_,hm,hGe,_,hlen⟩
 ·rw[hy]at hmd
  (repeat' ((first|refine Af ?_ ?_|refine Ad rfl hmd ?_|refine nx ?_|refine Aw (λ_=>?_) (λ_=>?_)|exact A0)<;>conv=>whnf))
  refine AI rfl hrr ?_
  rintro y (⟨rfl,hl16,hlok⟩|⟨c,i,hc,rfl⟩)
  ·((conv=>whnf);repeat' ((first|refine odw ?_|refine nx ?_|refine Aw (λ_=>?_) (λ_=>?_))<;>conv=>whnf))
   exact .inl rfl
  ·((conv=>whnf);repeat' ((first|refine odw ?_|refine nx ?_|refine Aw (λ_=>?_) (λ_=>?_))<;>conv=>whnf))
   exact .inl rfl
 ·rw[hy]at hmd
  have hGl:G.labels=labels:=by rw[hGe]
  (repeat' ((first|refine Af ?_ ?_|refine Ad rfl hmd ?_|refine nx ?_|refine Aw (λ_=>?_) (λ_=>?_)|exact A0)<;>conv=>whnf))
  refine AI rfl hrr ?_
  rintro y (⟨rfl,hl16,hlok⟩|⟨c,i,hc,rfl⟩)
  ·have hof:=T5 p (by omega)
   by_cases h7:7<labels.length
   ·((conv=>whnf);repeat' ((first|refine odw ?_|refine nx ?_|refine Aw (λ_=>?_) (λ_=>?_))<;>conv=>whnf))
    exact .inl rfl
   by_cases hd:1<=d/\d<=8
   ·cases e with
    |
     true=>
     by_cases h8:8<edges.length
     ·((conv=>whnf);repeat' ((first|refine odw ?_|refine nx ?_|refine Aw (λ_=>?_) (λ_=>?_))<;>conv=>whnf))
      exact .inl rfl
     ·(conv=>whnf)
      (repeat' ((first|refine Af ?_ ?_|refine Ad rfl hof ?_|refine nx ?_|refine Aw (λ_=>?_) (λ_=>?_)|exact A0)<;>conv=>whnf))
      exact .inr ⟨G,rfl,hG,by rw[hGl];omega,hm,λ_=>by omega,hd,hl16,hlok⟩
    |
     false=>
     by_cases h8:8<edges.length
     ·(conv=>whnf)
      (repeat' ((first|refine Af ?_ ?_|refine Ad rfl hof ?_|refine nx ?_|refine Aw (λ_=>?_) (λ_=>?_)|exact A0)<;>conv=>whnf))
      exact .inr ⟨G,rfl,hG,by rw[hGl];omega,hm,λh=>(by cases h),hd,hl16,hlok⟩
     ·(conv=>whnf)
      (repeat' ((first|refine Af ?_ ?_|refine Ad rfl hof ?_|refine nx ?_|refine Aw (λ_=>?_) (λ_=>?_)|exact A0)<;>conv=>whnf))
      exact .inr ⟨G,rfl,hG,by rw[hGl];omega,hm,λh=>(by cases h),hd,hl16,hlok⟩
   ·by_cases h8:8<edges.length<;>cases e<;>((conv=>whnf);repeat' ((first|refine odw ?_|refine nx ?_|refine Aw (λ_=>?_) (λ_=>?_))<;>conv=>whnf))
    all_goals exact .inl rfl
  ·by_cases h7:7<labels.length<;>by_cases h8:8<edges.length<;>cases e<;>((conv=>whnf);repeat' ((first|refine odw ?_|refine nx ?_|refine Aw (λ_=>?_) (λ_=>?_))<;>conv=>whnf))
   all_goals exact .inl rfl
def iX:List (Nat×Plan):=[(6,.leaf [0,0,0,1,0,0,0,1,2,0] [0,1,2,4,5,6,3,7,8,9] [0,0,3,7,0,0,48,112,255,511])]
def rR:List FuncId:=[28]
theorem XY(P:List (List Int))(hm:P.length<=9000000000):Pure C1 30 [Fy P,Fy P] (λy=>y=.bool true):=by
 have hl:(P.map AS).length=P.length:=Ab _
 refine AK Tryz.func30 Tryz.ntmps30 rR iX ?_
 ((conv=>whnf);repeat' ((first|refine odw ?_|refine nx ?_|refine Aw (λ_=>?_) (λ_=>?_))<;>conv=>whnf))
 refine AC (ι:=Nat) (λi=>i<=P.length) (λi=>[(5,.d (.int .i64 i)),(1,.d (Fy P)),(0,.d (Fy P))]) (λ_=>[]) (λi=>P.length-i) 0 (λ_=>rfl) (Aj _) (.refl _ _) ⟨rfl,rfl,rfl,trivial⟩ trivial ?_
 intro i hi
 refine Bj rR iX ?_
 by_cases hlt:i<P.length
 ·have hx:=Aa hlt
  generalize P[i]=x at hx
  have hxd:(P.map AS)[i]? =some (AS x):=by rw[Ac,hx];rfl
  have hs:=RK x x
  rw[decide_eq_true rfl]at hs
  (conv=>whnf)
  (repeat' ((first|refine Af ?_ ?_|refine A1 hxd rfl ?_|refine Ad rfl hs ?_|refine nx ?_|refine Aw (λ_=>?_) (λ_=>?_)|exact A0)<;>conv=>whnf))
  exact⟨i+1,_,_,hlt,.refl _ _,⟨rfl,rfl,rfl,trivial⟩,trivial,by omega⟩
 ·((conv=>whnf);repeat' ((first|refine odw ?_|refine nx ?_|refine Aw (λ_=>?_) (λ_=>?_))<;>conv=>whnf))
  exact rfl
theorem XX(b:Bool)(d:Int)(ds:List Da):Pure C1 75 [.agg [.nilp,.bool b,.int .i64 d,.list 2 ds]] (λy=>y=.tuple [.nilp,dF 10 0 Hb]):=by
 refine AK Tryz.func75 Tryz.ntmps75 rO sM ?_
 (conv=>whnf)
 (repeat' ((first|refine Af ?_ ?_|refine Ad rfl (Cj 10 0 Hb) ?_|refine nx ?_|refine Aw (λ_=>?_) (λ_=>?_)|exact A0)<;>conv=>whnf))
 exact rfl
theorem cQ {G:Da} {b:Bool} {d:Int} {ds:List Da} {x:Da}(hG:G=.nilp\/∃g,G=dG g)(h:Pure C1 75 [.agg [G,.bool b,.int .i64 d,.list 2 ds]] (λy=>y=.tuple [.nilp,x]))(hx:(∃c a s,x=dF c a s)\/∃z c a s,x=dS z (dF c a s)):Pure C1 25 [.agg [G,.bool b,.int .i64 d,.list 2 ds]] (λy=>y=x):=by
 rcases hG with rfl|⟨g,rfl⟩<;>rcases hx with⟨c,a,s,rfl⟩|⟨z,c,a,s,rfl⟩
 all_goals
  refine AK Tryz.func25 Tryz.ntmps25 vU sN ?_
  (conv=>whnf)
  (repeat' ((first|refine Af ?_ ?_|refine Ad rfl h ?_|refine nx ?_|refine Aw (λ_=>?_) (λ_=>?_)|exact A0)<;>conv=>whnf))
  exact rfl
theorem fM:GV [0,0,0] [⟨0,2⟩,⟨1,2⟩,⟨0,1⟩]=.tuple [dG DW,dM DW.labels DW.edges,.bool true]:=by
 have h1:Dt [0,0,0] [⟨0,2⟩,⟨1,2⟩,⟨0,1⟩]=none:=by decide
 have h2:FC [⟨0,2⟩,⟨1,2⟩,⟨0,1⟩]=DW.edges:=(M5 (by decide) (by decide) (by decide)).symm
 unfold GV Me
 rw[if_pos ⟨by decide,by decide⟩,h1]
 simp only[h2]
 rfl
theorem nH:JobOk DW false 3 []:=⟨WZ,by decide,by decide,λh=>(by cases h),by omega,by decide,λo ho=>by cases ho⟩
def uE:List FuncId:=[72]
theorem TR:Pure C1 21 [] (λy=>y=.bool true):=by
 have hm:=Sm [0,0,0] [⟨0,2⟩,⟨1,2⟩,⟨0,1⟩]
 rw[fM]at hm
 have ha:Pure C1 26 [.agg [dG DW,.bool false,.int .i64 3,.nils],.int .i64 100] (λz=>z=.tuple [.list 1 ([[[0],[1],[2]],[[0,1],[0,2],[1,2]],[[0,1,2]]].map Fy),.nili]):=by
  refine Sx.Pure.lax (.cons (.agg (.cons (.refl _) (.cons (.refl _) (.cons (.refl _) (.cons (.nils 2) .nil))))) (.cons (.refl _) .nil)) ?_
  have:=WC nH 100
  rw[show BQ DW false=DW from rfl]at this
  have hs:F4 DW (II DW false []) 3=7:=by
   unfold F4
   show((Bx _ _ 0).length+((Bx _ _ 1).length+((Bx _ _ 2).length+0)))=7
   rw[LD,LC,P1];rfl
  rw[show WD DW (II DW false []) (3:Int).toNat 100=.tuple [.list 1 ([[[0],[1],[2]],[[0,1],[0,2],[1,2]],[[0,1,2]]].map Fy),.nili]by
   show WD DW (II DW false []) 3 100=_
   unfold WD
   rw[hs,if_pos (by decide),fK]]at this
  exact this
 have hr:Pure C1 25 [.agg [.nilp,.bool false,.int .i64 0,.nils]] (λy=>y=dF 10 0 Hb):=
  Sx.Pure.lax (.cons (.agg (.cons (.refl _) (.cons (.refl _) (.cons (.refl _) (.cons (.nils 2) .nil))))) .nil) (cQ (.inl rfl) (XX false 0 []) (.inl ⟨_,_,_,rfl⟩))
 have hc:=SF 10 0 Hb
 have g0:(List.map Fy [[[0],[1],[2]],[[0,1],[0,2],[1,2]],[[0,1,2]]])[0]? =some (Fy [[0],[1],[2]]):=rfl
 have g1:(List.map Fy [[[0],[1],[2]],[[0,1],[0,2],[1,2]],[[0,1,2]]])[1]? =some (Fy [[0,1],[0,2],[1,2]]):=rfl
 have g2:(List.map Fy [[[0],[1],[2]],[[0,1],[0,2],[1,2]],[[0,1,2]]])[2]? =some (Fy [[0,1,2]]):=rfl
 have l0:(List.map Fy [[[0],[1],[2]],[[0,1],[0,2],[1,2]],[[0,1,2]]]).length=3:=rfl
 have l1:(List.map AS [[0],[1],[2]]).length=3:=rfl
 have l2:(List.map AS [[0,1],[0,2],[1,2]]).length=3:=rfl
 have l3:(List.map AS [[0,1,2]]).length=1:=rfl
 refine AK Tryz.func21 Tryz.ntmps21 uE [] ?_
 (conv=>whnf)
 (repeat' ((first|refine Af ?_ ?_|refine Ad (xs:=[AS [0,0,0],D0 [⟨0,2⟩,⟨1,2⟩,⟨0,1⟩]]) rfl hm ?_|refine D3 7 rfl ?_|refine D3 11 rfl ?_|refine Ad rfl ha ?_|refine Ad rfl hr ?_|refine Ad rfl hc ?_|refine A1 g0 rfl ?_|refine A1 g1 rfl ?_|refine A1 g2 rfl ?_|refine nx ?_|refine Aw (λ_=>?_) (λ_=>?_)|exact A0)<;>conv=>whnf))
 exact rfl
end Go.Proofs.YtjejpdfldmempaaGreatDoor
end
section
namespace Go.Proofs.YtjejpdfldmempaaGreatDoor
open Go.Sx Go.RowKit Go.Reg Go.Gr
set_option maxRecDepth 100000
theorem tJ {n:Nat} {p:Pt}(hp:PtOk n p)(a b:Int):OH p.edges a b=CN p.edges a b:=by
 rw[BT]
 unfold OH CN
 rw[Bn,decide_eq_true_eq]
 constructor
 ·rintro⟨e,he,h⟩
  have h:=of_decide_eq_true h
  have h2:=hp.edge e he
  have:turn ⟨a,b⟩=e:=by
   obtain⟨x,y⟩:=e
   simp only at h h2
   unfold turn
   simp only[Edg.mk.injEq]
   omega
  rw[this];exact he
 ·intro h
  refine⟨_,h,decide_eq_true ?_⟩
  unfold turn
  simp only
  omega
def My(p:Pt)(a b:Nat):Nat:=(List.range b).countP λb=>decide (a≠b)&&CN p.edges a b
theorem eH(p:Pt)(a b:Nat):My p a (b+1)=My p a b+(if(decide (a≠b)&&CN p.edges a b)=true then 1 else 0):=by
 unfold My
 rw[BN,List.countP_append,List.countP_cons,List.countP_nil]
 omega
theorem pN(p:Pt)(a b:Nat):My p a b<=b:=by
 unfold My
 have:=List.countP_le_length (p:=λb:Nat=>decide (a≠b)&&CN p.edges a b) (l:=List.range b)
 rwa [Bv]at this
def nZ(o:Opp)(p:Pt)(a b c:Nat):Bool:=!(decide (o.kind=8)&&CN p.edges a b&&CN p.edges a c&&CN p.edges b c)
theorem JZ {n k:Nat} {f:Nat->Bool}(hk:k<n)(h:f k=false):(List.range n).all f=false:=by
 rw[WN]
 exact⟨k,AJ.2 hk,by rw[h];decide⟩
theorem TQ {n:Nat} {f:Nat->Bool}(h:∀k,k<n->f k=true):(List.range n).all f=true:=by
 rw[BY]
 exactλk hk=>h k (AJ.1 hk)
def MY:List (Nat×Plan):=[(11,.leaf [0,1,0,0,0,1,0,0,1,0,1,0,0,0,0,1,0,0,0,1,0,0,1,0,1,0,0,0] [0,1,2,3,4,6,9,5,7,8,10,11,12,13,14,15,16,17,18,20,23,19,21,22,24,25,26,27] [0,1,3,7,15,31,15,127,255,15,527,2047,4095,8191,16383,32767,65535,131071,262143,524287,262143,2097151,4194303,262143,8650751,33554431,67108863,134217727]),
 (20,.leaf [0,1,0,0,0,0,0,0,0,1,0,0,0,1,0,0,1,0,1,0,0,1,0,0,0] [0,1,2,3,4,5,6,7,8,9,10,11,12,14,17,19,13,15,16,18,20,21,22,23,24] [0,1,3,7,15,31,63,127,255,511,1023,2047,4095,8191,4095,32767,65535,4095,135167,4095,921599,1970175,4194303,8388607,16777215])]
def SO:List FuncId:=[183]
set_option maxHeartbeats 8000000 in
theorem Tk(o:Opp)(p:Pt)(hp:FI p=none)(ho:D7 o=0):Pure C1 122 [dO o,GE p] (λz=>z=.bool (HG o p)):=by
 obtain⟨h8,hPe⟩:=HY hp
 have hpo:PtOk p.labels.length p:=⟨rfl,(GA hp).2.1,(GA hp).2.2⟩
 have hll:(p.labels.map dI).length=p.labels.length:=Ab _
 have hel:(p.edges.map dE).length=p.edges.length:=Ab _
 have hr:=Oi p (by omega) (by omega)
 rw[hp]at hr
 have hf:=J0 o
 rw[ho]at hf
 have hh:∀a b:Int,Pure C1 183 [GE p,.int .i64 a,.int .i64 b] (λy=>y=.bool (CN p.edges a b)):=λa b=>by rw[<-tJ hpo];exact RP p a b (by omega)
 have hk8:o.kind=1\/o.kind=2\/o.kind=3\/o.kind=4\/o.kind=5\/o.kind=6\/o.kind=7\/o.kind=8:=by
  unfold D7 at ho
  by_cases h:o.kind<1\/8<o.kind
  ·rw[if_pos h]at ho;cases ho
  ·omega
 by_cases h45:o.kind=4/\o.n<(p.labels.length:Int)\/o.kind=5/\o.n<(p.edges.length:Int)
 ·have e:HG o p=false:=by
   unfold HG
   rcases h45 with⟨h1,h2⟩|⟨h1,h2⟩
   ·rw[decide_eq_true h1,decide_eq_true h2];rfl
   ·rw[decide_eq_true h1,decide_eq_true h2];simp
  refine AK Tryz.func122 Tryz.ntmps122 SO MY ?_
  rw[e]
  rcases h45 with⟨hk,h2⟩|⟨hk,h2⟩
  all_goals
   (conv=>whnf)
   (repeat' ((first|refine Af (by(conv=>whnf);(repeat' ((first|refine Ad rfl hr ?_|refine Ad rfl hf ?_|refine nx ?_|refine Aw (λ_=>?_) (λ_=>?_))<;>conv=>whnf));(all_goals (repeat' (first|exact trivial|exact rfl|refine And.intro ?_ ?_)))) ?_|refine Ad rfl hr ?_|refine Ad rfl hf ?_|refine nx ?_|refine Aw (λ_=>?_) (λ_=>?_))<;>conv=>whnf))
   exact rfl
 have e:HG o p=(List.range p.labels.length).all (IG o p):=by
  unfold HG
  rw[show(decide (o.kind=4)&&decide (o.n<(p.labels.length:Int)))=false by rw[Hj,decide_eq_false_iff_not,decide_eq_false_iff_not];omega,show(decide (o.kind=5)&&decide (o.n<(p.edges.length:Int)))=false by rw[Hj,decide_eq_false_iff_not,decide_eq_false_iff_not];omega]
  rfl
 have eA1:∀a,(o.kind=2/\o.n<GX p a)\/(o.kind=7/\GX p a≠o.n)->IG o p a=false:=λa h=>by
  unfold IG
  rcases h with⟨h1,h2⟩|⟨h1,h2⟩
  ·rw[decide_eq_true h1,decide_eq_true h2];rfl
  ·rw[decide_eq_true h1,decide_eq_true h2];simp
 have eA2:∀a b,b<p.labels.length->HX o p a b=false->IG o p a=false:=λa b hb h=>by
  unfold IG
  rw[JZ hb h];simp
 have eA3:∀a,o.kind=3/\o.n<(My p a p.labels.length:Int)->IG o p a=false:=λa h=>by
  unfold IG
  rw[decide_eq_true h.1,show kZ p a=My p a p.labels.length from rfl,decide_eq_true h.2];simp
 have eA4:∀a,¬((o.kind=2/\o.n<GX p a)\/(o.kind=7/\GX p a≠o.n))->(∀b,b<p.labels.length->HX o p a b=true)->¬(o.kind=3/\o.n<(My p a p.labels.length:Int))->IG o p a=true:=λa h1 h2 h3=>by
  unfold IG
  rw[TQ h2,show kZ p a=My p a p.labels.length from rfl,show(decide (o.kind=2)&&decide (o.n<GX p a))=false by rw[Hj,decide_eq_false_iff_not,decide_eq_false_iff_not];omega,show(decide (o.kind=7)&&decide (GX p a≠o.n))=false by rw[Hj,decide_eq_false_iff_not,decide_eq_false_iff_not];omega,show(decide (o.kind=3)&&decide (o.n<(My p a p.labels.length:Int)))=false by rw[Hj,decide_eq_false_iff_not,decide_eq_false_iff_not];omega]
  rfl
 have eB1:∀a b:Nat,a≠b->(o.kind=1/\CN p.edges a b=false)\/(o.kind=6/\GX p a=GX p b)->HX o p a b=false:=λa b hab h=>by
  unfold HX
  rw[decide_eq_false hab]
  rcases h with⟨h1,h2⟩|⟨h1,h2⟩
  ·rw[decide_eq_true h1,h2];rfl
  ·rw[decide_eq_true h1,decide_eq_true h2];simp
 have eB2:∀a b c:Nat,a≠b->c<p.labels.length->nZ o p a b c=false->HX o p a b=false:=λa b c hab hc h=>by
  unfold HX
  have this:(List.range p.labels.length).all (λc=>!(decide (o.kind=8)&&CN p.edges a b&&CN p.edges a c&&CN p.edges b c))=false:=JZ hc h
  rw[decide_eq_false hab,this];simp
 have eB3:∀a b:Nat,a≠b->¬((o.kind=1/\CN p.edges a b=false)\/(o.kind=6/\GX p a=GX p b))->(∀c,c<p.labels.length->nZ o p a b c=true)->HX o p a b=true:=λa b hab h hc=>by
  unfold HX
  have h6:(decide (o.kind=6)&&decide (GX p a=GX p b))=false:=by
   rw[Hj,decide_eq_false_iff_not,decide_eq_false_iff_not]
   by_cases h6:o.kind=6
   ·exact .inr λhl=>h (.inr ⟨h6,hl⟩)
   ·exact .inl h6
  have h1:(decide (o.kind=1)&&!CN p.edges a b)=false:=by
   by_cases h1:o.kind=1
   ·cases hv:CN p.edges a b with
    |true=>simp
    |false=>exact absurd (.inl ⟨h1,hv⟩) h
   ·rw[decide_eq_false h1];rfl
  have this:(List.range p.labels.length).all (λc=>!(decide (o.kind=8)&&CN p.edges a b&&CN p.edges a c&&CN p.edges b c))=true:=TQ hc
  rw[decide_eq_false hab,this,h1,h6]
  rfl
 have eB0:∀a,HX o p a a=true:=λa=>by unfold HX;rw[decide_eq_true rfl];rfl
 have hlab:∀(a:Nat) (x:Int),p.labels[a]? =some x->GX p a=x:=λa x h=>by unfold GX;rw[h];rfl
 refine AK Tryz.func122 Tryz.ntmps122 SO MY ?_
 rw[e]
 rcases hk8 with hk|hk|hk|hk|hk|hk|hk|hk
 all_goals
  (conv=>whnf)
  (repeat' ((first|refine Af (by(conv=>whnf);(repeat' ((first|refine Ad rfl hr ?_|refine Ad rfl hf ?_|refine nx ?_|refine Aw (λ_=>?_) (λ_=>?_))<;>conv=>whnf));(all_goals (repeat' (first|exact trivial|exact rfl|refine And.intro ?_ ?_)))) ?_|refine Ad rfl hr ?_|refine Ad rfl hf ?_|refine nx ?_|refine Aw (λ_=>?_) (λ_=>?_))<;>conv=>whnf))
  refine AC (ι:=Nat) (λa=>a<=p.labels.length/\∀k,k<a->IG o p k=true) (λa=>[(8,.d (.int .i64 a)),(7,.d (.int .i64 (p.labels.map dI).length)),(3,.own 3),(2,.own 2)]) (λ_=>[(2,.cells 76 [.d (.int .i64 o.kind),.d (.int .i64 o.n)]),(3,.cells 35 [.d (AS p.labels),.d (D0 p.edges)])]) (λa=>p.labels.length-a) 0 (λ_=>rfl) ⟨Aj _,λk hk=>absurd hk (Ev _)⟩ (.refl _ _) ⟨rfl,rfl,rfl,rfl,trivial⟩ ⟨rfl,rfl,trivial⟩ ?_
  rintro a ⟨hal,hA⟩
  refine Bj SO MY ?_
  by_cases ha:a<p.labels.length
  ·have hx:=Aa ha
   generalize p.labels[a]=x at hx
   have hlx:=hlab a x hx
   have hxd:(p.labels.map dI)[a]? =some (.int .i64 x):=by rw[Ac,hx];rfl
   have a1:=eA1 a
   have a3:=eA3 a
   have a4:=eA4 a
   rw[hlx]at a1 a4
   by_cases c1:(o.kind=2/\o.n<x)\/(o.kind=7/\x≠o.n)
   ·rw[JZ ha (a1 c1)]
    first
     |(exfalso;omega)
     |(
        (conv=>whnf)
        (repeat' ((first|refine Af (by(conv=>whnf);(repeat' ((first|refine A1 hxd rfl ?_|refine nx ?_|refine Aw (λ_=>?_) (λ_=>?_))<;>conv=>whnf));(all_goals (repeat' (first|exact trivial|exact rfl|refine And.intro ?_ ?_)))) ?_|refine A1 hxd rfl ?_|refine nx ?_|refine Aw (λ_=>?_) (λ_=>?_))<;>conv=>whnf))
        exact rfl)
   (conv=>whnf)
   (repeat' ((first|refine Af (by(conv=>whnf);(repeat' ((first|refine A1 hxd rfl ?_|refine nx ?_|refine Aw (λ_=>?_) (λ_=>?_))<;>conv=>whnf));(all_goals (repeat' (first|exact trivial|exact rfl|refine And.intro ?_ ?_)))) ?_|refine A1 hxd rfl ?_|refine nx ?_|refine Aw (λ_=>?_) (λ_=>?_))<;>conv=>whnf))
   refine AC (ι:=Nat) (λb=>b<=p.labels.length/\∀k,k<b->HX o p a k=true) (λb=>[(10,.d (.int .i64 b)),(9,.d (.int .i64 (My p a b:Nat))),(8,.d (.int .i64 a)),(7,.d (.int .i64 (p.labels.map dI).length)),(3,.own 3),(2,.own 2)]) (λ_=>[(2,.cells 76 [.d (.int .i64 o.kind),.d (.int .i64 o.n)]),(3,.cells 35 [.d (AS p.labels),.d (D0 p.edges)])]) (λb=>p.labels.length-b) 0 (λ_=>rfl) ⟨Aj _,λk hk=>absurd hk (Ev _)⟩ (.refl _ _) ⟨rfl,rfl,rfl,rfl,rfl,rfl,trivial⟩ ⟨rfl,rfl,trivial⟩ ?_
   rintro b ⟨hbl,hB⟩
   refine Bj SO MY ?_
   have hcl:=pN p a b
   by_cases hb:b<p.labels.length
   ·have hy:=Aa hb
    generalize p.labels[b]=y at hy
    have hly:=hlab b y hy
    have hyd:(p.labels.map dI)[b]? =some (.int .i64 y):=by rw[Ac,hy];rfl
    have hst:=eH p a b
    by_cases hab:a=b
    ·rw[decide_eq_false (by omega),L4,if_neg (by decide),Dd]at hst
     ((conv=>whnf);repeat' ((first|refine odw ?_|refine nx ?_|refine Aw (λ_=>?_) (λ_=>?_))<;>conv=>whnf))
     refine⟨b+1,_,_,⟨hb,λk hk=>?_⟩,.refl _ _,⟨rfl,by rw[hst];rfl,rfl,rfl,rfl,rfl,trivial⟩,⟨rfl,rfl,trivial⟩,by omega⟩
     rcases AP k b with g|g
     ·exact hB k g
     ·rw[show k=b by omega,hab];exact eB0 b
    ·rw[decide_eq_true hab,FE]at hst
     have hE:=hh a b
     have b3:=eB3 a b hab
     have b1:=eB1 a b hab
     have b2:=λc=>eB2 a b c hab
     rw[hlx,hly]at b1 b3
     have hba:=eA2 a b hb
     have hcE:∀c,nZ o p a b c=!(decide (o.kind=8)&&CN p.edges a b&&CN p.edges a c&&CN p.edges b c):=λc=>rfl
     generalize nZ o p a b=C at b2 b3 hcE
     cases hv:CN p.edges a b with
     |
      true=>
      rw[hv]at hE
      rw[hv,if_pos rfl]at hst
      by_cases c2:o.kind=6/\x=y
      ·rw[JZ ha (hba (b1 (.inr c2)))]
       first
        |(exfalso;omega)
        |(
           (conv=>whnf)
           (repeat' ((first|refine Af (by(conv=>whnf);(repeat' ((first|refine A1 hxd rfl ?_|refine A1 hyd rfl ?_|refine Ad rfl hE ?_|refine nx ?_|refine Aw (λ_=>?_) (λ_=>?_))<;>conv=>whnf));(all_goals (repeat' (first|exact trivial|exact rfl|refine And.intro ?_ ?_)))) ?_|refine A1 hxd rfl ?_|refine A1 hyd rfl ?_|refine Ad rfl hE ?_|refine nx ?_|refine Aw (λ_=>?_) (λ_=>?_))<;>conv=>whnf))
           exact rfl)
      (conv=>whnf)
      (repeat' ((first|refine Af (by(conv=>whnf);(repeat' ((first|refine A1 hxd rfl ?_|refine A1 hyd rfl ?_|refine Ad rfl hE ?_|refine nx ?_|refine Aw (λ_=>?_) (λ_=>?_))<;>conv=>whnf));(all_goals (repeat' (first|exact trivial|exact rfl|refine And.intro ?_ ?_)))) ?_|refine A1 hxd rfl ?_|refine A1 hyd rfl ?_|refine Ad rfl hE ?_|refine nx ?_|refine Aw (λ_=>?_) (λ_=>?_))<;>conv=>whnf))
      refine AC (ι:=Nat) (λc=>c<=p.labels.length/\∀k,k<c->C k=true) (λc=>[(12,.d (.int .i64 c)),(11,.d (.bool true)),(10,.d (.int .i64 b)),(9,.d (.int .i64 (My p a (b+1):Nat))),(8,.d (.int .i64 a)),(7,.d (.int .i64 (p.labels.map dI).length)),(3,.own 3),(2,.own 2)]) (λ_=>[(2,.cells 76 [.d (.int .i64 o.kind),.d (.int .i64 o.n)]),(3,.cells 35 [.d (AS p.labels),.d (D0 p.edges)])]) (λc=>p.labels.length-c) 0 (λ_=>rfl) ⟨Aj _,λk hk=>absurd hk (Ev _)⟩ (.refl _ _) ⟨rfl,rfl,rfl,by rw[hst];rfl,rfl,rfl,rfl,rfl,trivial⟩ ⟨rfl,rfl,trivial⟩ ?_
      rintro c ⟨hcl2,hC⟩
      refine Bj SO MY ?_
      by_cases hc:c<p.labels.length
      ·have h1:=hh a c
       have h2:=hh b c
       have hcc:=hcE c
       have hstep:C c=true->∀k,k<c+1->C k=true:=λh k hk=>by
        rcases AP k c with g|g
        ·exact hC k g
        ·rw[show k=c by omega];exact h
       cases hw:CN p.edges a c<;>cases hz:CN p.edges b c<;>rw[hw]at h1<;>rw[hz]at h2<;>rw[hv,hw,hz]at hcc
       all_goals
        first
         |(
            have hct:C c=true:=by rw[hcc,hk];rfl
            (conv=>whnf)
            (repeat' ((first|refine Af (by(conv=>whnf);(repeat' ((first|refine Ad rfl h1 ?_|refine Ad rfl h2 ?_|refine nx ?_|refine Aw (λ_=>?_) (λ_=>?_))<;>conv=>whnf));(all_goals (repeat' (first|exact trivial|exact rfl|refine And.intro ?_ ?_)))) ?_|refine Ad rfl h1 ?_|refine Ad rfl h2 ?_|refine nx ?_|refine Aw (λ_=>?_) (λ_=>?_))<;>conv=>whnf))
            exact⟨c+1,_,_,⟨hc,hstep hct⟩,.refl _ _,⟨rfl,rfl,rfl,rfl,rfl,rfl,rfl,rfl,trivial⟩,⟨rfl,rfl,trivial⟩,by omega⟩)
         |(
            have hcf:C c=false:=by rw[hcc,hk];rfl
            rw[JZ ha (hba (b2 c hc hcf))]
            (conv=>whnf)
            (repeat' ((first|refine Af (by(conv=>whnf);(repeat' ((first|refine Ad rfl h1 ?_|refine Ad rfl h2 ?_|refine nx ?_|refine Aw (λ_=>?_) (λ_=>?_))<;>conv=>whnf));(all_goals (repeat' (first|exact trivial|exact rfl|refine And.intro ?_ ?_)))) ?_|refine Ad rfl h1 ?_|refine Ad rfl h2 ?_|refine nx ?_|refine Aw (λ_=>?_) (λ_=>?_))<;>conv=>whnf))
            exact rfl)
      ·have hBb:=b3 (λh=>c2 (h.elim (λh=>by rw[hv]at h;cases h.2) id)) λc' hc'=>hC c' (by omega)
       ((conv=>whnf);repeat' ((first|refine odw ?_|refine nx ?_|refine Aw (λ_=>?_) (λ_=>?_))<;>conv=>whnf))
       refine⟨b+1,_,_,⟨hb,λk hk=>?_⟩,.refl _ _,⟨rfl,rfl,rfl,rfl,rfl,rfl,trivial⟩,⟨rfl,rfl,trivial⟩,by omega⟩
       rcases AP k b with g|g
       ·exact hB k g
       ·rw[show k=b by omega];exact hBb
     |
      false=>
      rw[hv]at hE
      rw[hv,if_neg (by decide),Dd]at hst
      by_cases c2:o.kind=1\/(o.kind=6/\x=y)
      ·rw[JZ ha (hba (b1 ((c2.imp (λh=>⟨h,hv⟩) id))))]
       first
        |(exfalso;omega)
        |(
           (conv=>whnf)
           (repeat' ((first|refine Af (by(conv=>whnf);(repeat' ((first|refine A1 hxd rfl ?_|refine A1 hyd rfl ?_|refine Ad rfl hE ?_|refine nx ?_|refine Aw (λ_=>?_) (λ_=>?_))<;>conv=>whnf));(all_goals (repeat' (first|exact trivial|exact rfl|refine And.intro ?_ ?_)))) ?_|refine A1 hxd rfl ?_|refine A1 hyd rfl ?_|refine Ad rfl hE ?_|refine nx ?_|refine Aw (λ_=>?_) (λ_=>?_))<;>conv=>whnf))
           exact rfl)
      first
       |(exfalso;omega)
       |(
          (conv=>whnf)
          (repeat' ((first|refine Af (by(conv=>whnf);(repeat' ((first|refine A1 hxd rfl ?_|refine A1 hyd rfl ?_|refine Ad rfl hE ?_|refine nx ?_|refine Aw (λ_=>?_) (λ_=>?_))<;>conv=>whnf));(all_goals (repeat' (first|exact trivial|exact rfl|refine And.intro ?_ ?_)))) ?_|refine A1 hxd rfl ?_|refine A1 hyd rfl ?_|refine Ad rfl hE ?_|refine nx ?_|refine Aw (λ_=>?_) (λ_=>?_))<;>conv=>whnf))
          refine AC (ι:=Nat) (λc=>c<=p.labels.length/\∀k,k<c->C k=true) (λc=>[(12,.d (.int .i64 c)),(11,.d (.bool false)),(10,.d (.int .i64 b)),(9,.d (.int .i64 (My p a (b+1):Nat))),(8,.d (.int .i64 a)),(7,.d (.int .i64 (p.labels.map dI).length)),(3,.own 3),(2,.own 2)]) (λ_=>[(2,.cells 76 [.d (.int .i64 o.kind),.d (.int .i64 o.n)]),(3,.cells 35 [.d (AS p.labels),.d (D0 p.edges)])]) (λc=>p.labels.length-c) 0 (λ_=>rfl) ⟨Aj _,λk hk=>absurd hk (Ev _)⟩ (.refl _ _) ⟨rfl,rfl,rfl,by rw[hst];rfl,rfl,rfl,rfl,rfl,trivial⟩ ⟨rfl,rfl,trivial⟩ ?_
          rintro c ⟨hcl2,hC⟩
          refine Bj SO MY ?_
          by_cases hc:c<p.labels.length
          ·have h1:=hh a c
           have h2:=hh b c
           have hcc:=hcE c
           have hstep:C c=true->∀k,k<c+1->C k=true:=λh k hk=>by
            rcases AP k c with g|g
            ·exact hC k g
            ·rw[show k=c by omega];exact h
           cases hw:CN p.edges a c<;>cases hz:CN p.edges b c<;>rw[hw]at h1<;>rw[hz]at h2<;>rw[hv,hw,hz]at hcc
           all_goals
            first
             |(
                have hct:C c=true:=by rw[hcc,hk];rfl
                (conv=>whnf)
                (repeat' ((first|refine Af (by(conv=>whnf);(repeat' ((first|refine Ad rfl h1 ?_|refine Ad rfl h2 ?_|refine nx ?_|refine Aw (λ_=>?_) (λ_=>?_))<;>conv=>whnf));(all_goals (repeat' (first|exact trivial|exact rfl|refine And.intro ?_ ?_)))) ?_|refine Ad rfl h1 ?_|refine Ad rfl h2 ?_|refine nx ?_|refine Aw (λ_=>?_) (λ_=>?_))<;>conv=>whnf))
                exact⟨c+1,_,_,⟨hc,hstep hct⟩,.refl _ _,⟨rfl,rfl,rfl,rfl,rfl,rfl,rfl,rfl,trivial⟩,⟨rfl,rfl,trivial⟩,by omega⟩)
             |(
                have hcf:C c=false:=by rw[hcc,hk];rfl
                rw[JZ ha (hba (b2 c hc hcf))]
                (conv=>whnf)
                (repeat' ((first|refine Af (by(conv=>whnf);(repeat' ((first|refine Ad rfl h1 ?_|refine Ad rfl h2 ?_|refine nx ?_|refine Aw (λ_=>?_) (λ_=>?_))<;>conv=>whnf));(all_goals (repeat' (first|exact trivial|exact rfl|refine And.intro ?_ ?_)))) ?_|refine Ad rfl h1 ?_|refine Ad rfl h2 ?_|refine nx ?_|refine Aw (λ_=>?_) (λ_=>?_))<;>conv=>whnf))
                exact rfl)
          ·have hBb:=b3 (λh=>c2 (h.imp (λh=>h.1) id)) λc' hc'=>hC c' (by omega)
           ((conv=>whnf);repeat' ((first|refine odw ?_|refine nx ?_|refine Aw (λ_=>?_) (λ_=>?_))<;>conv=>whnf))
           refine⟨b+1,_,_,⟨hb,λk hk=>?_⟩,.refl _ _,⟨rfl,rfl,rfl,rfl,rfl,rfl,trivial⟩,⟨rfl,rfl,trivial⟩,by omega⟩
           rcases AP k b with g|g
           ·exact hB k g
           ·rw[show k=b by omega];exact hBb)
   ·have hbe:b=p.labels.length:=by omega
    subst hbe
    by_cases c4:o.kind=3/\o.n<(My p a p.labels.length:Int)
    ·rw[JZ ha (a3 c4)]
     first
      |(exfalso;omega)
      |(
         ((conv=>whnf);repeat' ((first|refine odw ?_|refine nx ?_|refine Aw (λ_=>?_) (λ_=>?_))<;>conv=>whnf))
         exact rfl)
    ·have hAa:=a4 c1 hB c4
     ((conv=>whnf);repeat' ((first|refine odw ?_|refine nx ?_|refine Aw (λ_=>?_) (λ_=>?_))<;>conv=>whnf))
     refine⟨a+1,_,_,⟨ha,λk hk=>?_⟩,.refl _ _,⟨rfl,rfl,rfl,rfl,trivial⟩,⟨rfl,rfl,trivial⟩,by omega⟩
     rcases AP k a with g|g
     ·exact hA k g
     ·rw[show k=a by omega];exact hAa
  ·rw[TQ λk hk=>hA k (by omega)]
   ((conv=>whnf);repeat' ((first|refine odw ?_|refine nx ?_|refine Aw (λ_=>?_) (λ_=>?_))<;>conv=>whnf))
   exact rfl
end Go.Proofs.YtjejpdfldmempaaGreatDoor
end
section
namespace Go.Proofs.YtjejpdfldmempaaGreatDoor
open Go.Sx Go.RowKit Go.Reg Go.Gr
set_option maxRecDepth 100000
theorem UA(l:List Opp)(h16:l.length<=16)(hok:∀o∈l,D7 o=0):Pure C1 73 [Ja l] (λy=>y=.tuple [.int .i64 0,.int .i64 0]):=by
 have hl:(l.map dO).length=l.length:=Ab _
 refine AK Tryz.func73 Tryz.ntmps73 ZL [] ?_
 ((conv=>whnf);repeat' ((first|refine odw ?_|refine nx ?_|refine Aw (λ_=>?_) (λ_=>?_))<;>conv=>whnf))
 refine AC (ι:=Nat) (λi=>i<=l.length) (λi=>[(4,.d (.int .i64 i)),(0,.d (Ja l))]) (λ_=>[]) (λi=>l.length-i) 0 (λ_=>rfl) (Aj _) (.refl _ _) ⟨rfl,rfl,trivial⟩ trivial ?_
 intro i hi
 refine Bj ZL [] ?_
 by_cases hlt:i<l.length
 ·have hx:=Aa hlt
  have hy:=hok _ (AL hlt)
  generalize l[i]=y at hx hy
  have hxd:(l.map dO)[i]? =some (.agg [.int .i64 y.kind,.int .i64 y.n]):=by rw[Ac,hx];rfl
  have hf:=J0 y
  rw[hy]at hf
  (conv=>whnf)
  (repeat' ((first|refine Af ?_ ?_|refine A1 hxd rfl ?_|refine Ad rfl hf ?_|refine nx ?_|refine Aw (λ_=>?_) (λ_=>?_)|exact A0)<;>conv=>whnf))
  exact⟨i+1,_,_,hlt,.refl _ _,⟨rfl,rfl,trivial⟩,trivial,by omega⟩
 ·((conv=>whnf);repeat' ((first|refine odw ?_|refine nx ?_|refine Aw (λ_=>?_) (λ_=>?_))<;>conv=>whnf))
  exact rfl
def iK:List (Nat×Plan):=[(8,.leaf [0,0,0,1,1,2,0] [0,1,2,3,4,5,6] [0,0,3,7,0,31,63])]
def rB:List FuncId:=[122]
theorem Rw(l:List Opp)(p:Pt)(hp:FI p=none)(h16:l.length<=16)(hok:∀o∈l,D7 o=0):Pure C1 80 [Ja l,GE p] (λz=>z=.bool (l.all λo=>HG o p)):=by
 obtain⟨h8,hPe⟩:=HY hp
 have hl:(l.map dO).length=l.length:=Ab _
 have hr:=Oi p (by omega) (by omega)
 rw[hp]at hr
 have hrl:=UA l h16 hok
 refine AK Tryz.func80 Tryz.ntmps80 rB iK ?_
 (conv=>whnf)
 (repeat' ((first|refine Af ?_ ?_|refine Ad rfl hrl ?_|refine Ad rfl hr ?_|refine nx ?_|refine Aw (λ_=>?_) (λ_=>?_)|exact A0)<;>conv=>whnf))
 refine AC (ι:=Nat) (λi=>i<=l.length/\∀y∈l.take i,HG y p=true) (λi=>[(9,.d (.int .i64 i)),(3,.own 3),(0,.d (Ja l))]) (λ_=>[(3,.cells 35 [.d (AS p.labels),.d (D0 p.edges)])]) (λi=>l.length-i) 0 (λ_=>rfl) ⟨Aj _,by simp⟩ (.refl _ _) ⟨rfl,rfl,rfl,trivial⟩ ⟨rfl,trivial⟩ ?_
 rintro i ⟨hi,hne⟩
 refine Bj rB iK ?_
 by_cases hlt:i<l.length
 ·have hx:=Aa hlt
  have hm:=AL hlt
  have hy:=hok _ hm
  generalize l[i]=y at hx hy hm
  have hxd:(l.map dO)[i]? =some (dO y):=by rw[Ac,hx];rfl
  have ht:=Tk y p hp hy
  cases hv:HG y p with
  |
   false=>
   rw[hv]at ht
   have e:(l.all λo=>HG o p)=false:=by rw[WN];exact⟨y,hm,by rw[hv];decide⟩
   rw[e]
   (conv=>whnf)
   (repeat' ((first|refine Af ?_ ?_|refine A1 hxd rfl ?_|refine Ad rfl ht ?_|refine nx ?_|refine Aw (λ_=>?_) (λ_=>?_)|exact A0)<;>conv=>whnf))
   exact rfl
  |
   true=>
   rw[hv]at ht
   (conv=>whnf)
   (repeat' ((first|refine Af ?_ ?_|refine A1 hxd rfl ?_|refine Ad rfl ht ?_|refine nx ?_|refine Aw (λ_=>?_) (λ_=>?_)|exact A0)<;>conv=>whnf))
   refine⟨i+1,_,_,⟨hlt,?_⟩,.refl _ _,⟨rfl,rfl,rfl,trivial⟩,⟨rfl,trivial⟩,by omega⟩
   intro z hz
   rw[Av,hx]at hz
   rcases Ag.1 hz with hz|hz
   ·exact hne z hz
   ·simp at hz;subst hz;exact hv
 ·have hii:l.take i=l:=Ak (by omega)
  rw[hii]at hne
  rw[BY.2 hne]
  ((conv=>whnf);repeat' ((first|refine odw ?_|refine nx ?_|refine Aw (λ_=>?_) (λ_=>?_))<;>conv=>whnf))
  exact rfl
def Lh(G:Gr)(e:Bool)(X:List Int):Pt:=if e=true then QQ G X else Ob G X
def WU(G:Gr)(e:Bool)(X:List Int):List Int:=if e=true then Bq (Bl G.edges X)else X
section
variable {G:Gr} {e:Bool} {d:Int} {l:List Opp}
theorem KK(h:JobOk G e d l):Pure C1 31 [qR G e d l] (λz=>z=dM (BQ G e).labels (BQ G e).edges):=by
 have hr:=gY G.labels G.edges (by have:=h.m;omega)
 refine AK Tryz.func31 Tryz.ntmps31 [] [] ?_
 cases e with
 |
  true=>
  (conv=>whnf)
  (repeat' ((first|refine Af ?_ ?_|refine Ad rfl hr ?_|refine nx ?_|refine Aw (λ_=>?_) (λ_=>?_)|exact A0)<;>conv=>whnf))
  exact rfl
 |
  false=>
  (conv=>whnf)
  (repeat' ((first|refine Af ?_ ?_|refine Ad rfl hr ?_|refine nx ?_|refine Aw (λ_=>?_) (λ_=>?_)|exact A0)<;>conv=>whnf))
  exact rfl
theorem Yc(_h:JobOk G true d l) {X:List Int}(hl:BW (G3 G) X=true):∀x∈X,0<=x/\x<(G.edges.length:Int):=λx hx=>by
 have:=IQ hl x hx
 have e:(G3 G).labels.length=G.edges.length:=Bu
 omega
theorem Oj(h:JobOk G e d l)(X:List Int)(hx:X.length<=900)(hl:BW (BQ G e) X=true):Pure C1 36 [qR G e d l,AS X] (λz=>z=.tuple [GE (Lh G e X),AS (WU G e X),.bool (decide ((WU G e X).length<=8))]):=by
 have hm:=h.m
 have hXl:(X.map dI).length=X.length:=Ab _
 have hb:∀V:List Int,(V.map dI).length=V.length:=λV=>Ab _
 refine AK Tryz.func36 Tryz.ntmps36 [] [] ?_
 cases e with
 |
  true=>
  have hxe:=Yc h hl
  have hv:=U6 G.labels G.edges X (by omega)
  have hlv:(Bq (Bl G.edges X)).length<=1000:=by
   have h1:=Fl G.edges X
   have h2:∀x∈Bq (Bl G.edges X),x∈Fc G.labels.length:=λx hx=>by
    obtain⟨e,he,hxe⟩:=((F3 _).2 x).1 hx
    have:=h.ok.edge e (JR e he)
    exact Gm.2 (by omega)
   have h3:=Ql ((F3 (Bl G.edges X)).1.imp λh=>by omega) h2
   rw[E6]at h3
   have:=h.n
   omega
  have hal:=YH G (Bq (Bl G.edges X)) X hlv (by omega) (by omega) (λx hx=>by
   obtain⟨e,he,hxe⟩:=((F3 _).2 x).1 hx
   have:=h.ok.edge e (JR e he)
   omega) hxe
  have hdv:=hb (Bq (Bl G.edges X))
  rw[show Lh G true X=⟨(Bq (Bl G.edges X)).map (C5 G),Hw (Bl G.edges X) (Bq (Bl G.edges X))⟩from rfl,show WU G true X=Bq (Bl G.edges X)from rfl]
  generalize Bq (Bl G.edges X)=V at hv hal hdv hlv⊢
  have hdec:decide (((V.map dI).length:Int)<=8)=decide (V.length<=8):=decide_eq_decide.2 (by omega)
  (conv=>whnf)
  (repeat' ((first|refine Af ?_ ?_|refine Ad rfl hv ?_|refine Ad rfl hal ?_|refine nx ?_|refine Aw (λ_=>?_) (λ_=>?_)|exact A0)<;>conv=>whnf))
  exact congrArg (λb=>Da.tuple [GE ⟨V.map (C5 G),Hw (Bl G.edges X) V⟩,AS V,.bool b]) hdec
 |
  false=>
  have hw:=WT G X (by omega) (by omega) (IQ hl)
  rw[show Lh G false X=⟨X.map (C5 G),Hw G.edges X⟩from rfl,show WU G false X=X from rfl]
  have hdec:decide (((X.map dI).length:Int)<=8)=decide (X.length<=8):=decide_eq_decide.2 (by omega)
  (conv=>whnf)
  (repeat' ((first|refine Af ?_ ?_|refine Ad rfl hw ?_|refine nx ?_|refine Aw (λ_=>?_) (λ_=>?_)|exact A0)<;>conv=>whnf))
  exact congrArg (λb=>Da.tuple [GE ⟨X.map (C5 G),Hw G.edges X⟩,AS X,.bool b]) hdec
theorem Qa(h:JobOk G e d l) {X:List Int}(hl:BW (BQ G e) X=true)(h8:(WU G e X).length<=8):FI (Lh G e X)=none:=by
 cases e with
 |true=>exact St h.ok h8
 |false=>exact Ns h.ok h8 hl
theorem iF(h:JobOk G e d l) {X:List Int}(hl:BW (BQ G e) X=true):II G e l X=(decide ((WU G e X).length<=8)&&l.all λo=>HG o (Lh G e X)):=by
 by_cases h8:(WU G e X).length<=8
 ·have hp:=Qa h hl h8
  have hk:=cY (l:=l) (p:=Lh G e X) ⟨rfl,(GA hp).2.1,(GA hp).2.2⟩ h.lok
  rw[hk]
  unfold II Nq
  rw[hl]
  cases e with
  |
   true=>
   rw[if_pos rfl]
   rw[show Lh G true X=QQ G X from rfl]at hp⊢
   rw[hp];rfl
  |
   false=>
   rw[if_neg (by decide)]
   rw[show Lh G false X=Ob G X from rfl]at hp⊢
   rw[hp];rfl
 ·rw[decide_eq_false h8,L4]
  unfold II
  rw[hl]
  cases e with
  |
   true=>
   rw[if_pos rfl]
   rw[show WU G true X=Bq (Bl G.edges X)from rfl]at h8
   rw[decide_eq_false h8];rfl
  |
   false=>
   rw[if_neg (by decide)]
   rw[show WU G false X=X from rfl]at h8
   rw[decide_eq_false h8];rfl
def iY:List (Nat×Plan):=[(6,.split 4 9 (.leaf [1,0,0,0,2,0,0,0,0,6,3,0,0] [1,2,3,0,4,5,6,7,8,9,10,11,12] [0,0,0,6,15,31,63,63,63,31,639,1791,4095]) (.leaf [1,0,0,0,2,0,0,0,0,6,3,0,0] [1,2,3,0,9,4,5,6,7,8,10,11,12] [0,0,0,6,527,543,575,575,575,0,639,1791,4095]))]
def rS:List FuncId:=[36]
theorem Rv(h:JobOk G e d l)(X:List Int)(hx:X.length<=900):Pure C1 32 [qR G e d l,AS X] (λz=>z=.bool (V8 (BQ G e) (II G e l) X)):=by
 have hXl:(X.map dI).length=X.length:=Ab _
 have hw:=KK h
 have hok:=GI h.ok (by have:=h.n;omega) h.m e
 have hc:=UQ (BQ G e) hok X (by omega)
 refine AK Tryz.func32 Tryz.ntmps32 rS iY ?_
 unfold V8
 cases hcv:Cz (BQ G e) X with
 |
  false=>
  rw[hcv]at hc
  rw[Bool.and_false,L4]
  (conv=>whnf)
  (repeat' ((first|refine Af ?_ ?_|refine Ad rfl hw ?_|refine Ad rfl hc ?_|refine nx ?_|refine Aw (λ_=>?_) (λ_=>?_)|exact A0)<;>conv=>whnf))
  exact rfl
 |
  true=>
  rw[hcv]at hc
  by_cases h0:X=[]
  ·subst h0
   rw[decide_eq_false (by simp)]
   have hd0:(([]:List Int).map dI).length=0:=rfl
   (conv=>whnf)
   (repeat' ((first|refine Af ?_ ?_|refine Ad rfl hw ?_|refine Ad rfl hc ?_|refine nx ?_|refine Aw (λ_=>?_) (λ_=>?_)|exact A0)<;>conv=>whnf))
   exact rfl
  have h0l:X.length≠0:=λe=>h0 (AF e)
  rw[decide_eq_true h0]
  (conv=>whnf)
  (repeat' ((first|refine Af ?_ ?_|refine Ad rfl hw ?_|refine Ad rfl hc ?_|refine nx ?_|refine Aw (λ_=>?_) (λ_=>?_)|exact A0)<;>conv=>whnf))
  refine AC (ι:=Nat) (λn=>(1<=n/\n<=X.length+1)/\∀k,k+1<n->II G e l (X.take (k+1))=true) (λn=>[(5,.d (.int .i64 n)),(2,.own 2),(1,.d (AS X))]) (λ_=>[(2,.cells 61 [.d (dM G.labels G.edges),.d (.bool e),.d (.int .i64 d),.d (Ja l)])]) (λn=>X.length+1-n) 1 (λ_=>rfl) ⟨by omega,λk hk=>by omega⟩ (.refl _ _) ⟨rfl,rfl,rfl,trivial⟩ ⟨rfl,trivial⟩ ?_
  rintro n ⟨hn,hps⟩
  refine Bj rS iY ?_
  by_cases hlt:n<=X.length
  ·have hlk:BW (BQ G e) (X.take n)=true:=EW hok (QY hcv n)
   have hp:=Oj h (X.take n) (by rw[As];omega) hlk
   rw[JV]at hp
   have hpe:=Qa h hlk
   have hpq:=iF h hlk
   have hi2:n<=(X.map dI).length:=by omega
   have hnn:X.take n=X.take (n-1+1):=by rw[show n-1+1=n by omega]
   generalize Lh G e (X.take n)=p at hp hpe hpq
   generalize WU G e (X.take n)=V at hp hpe hpq
   by_cases h8:V.length<=8
   ·have hk:=Rw l p (hpe h8) h.l16 h.lok
    rw[decide_eq_true h8]at hp
    rw[decide_eq_true h8,FE]at hpq
    cases hv:(l.all λo=>HG o p)with
    |
     false=>
     rw[hv]at hk hpq
     rw[ZJ (n:=n-1) (by omega) (by rw[<-hnn];exact hpq)]
     (conv=>whnf)
     (repeat' ((first|refine Af ?_ ?_|refine EE rfl hi2 ?_|refine Ad rfl hp ?_|refine Ad rfl hk ?_|refine nx ?_|refine Aw (λ_=>?_) (λ_=>?_)|exact A0)<;>conv=>whnf))
     exact rfl
    |
     true=>
     rw[hv]at hk hpq
     (conv=>whnf)
     (repeat' ((first|refine Af ?_ ?_|refine EE rfl hi2 ?_|refine Ad rfl hp ?_|refine Ad rfl hk ?_|refine nx ?_|refine Aw (λ_=>?_) (λ_=>?_)|exact A0)<;>conv=>whnf))
     refine⟨n+1,_,_,⟨by omega,λk hk=>?_⟩,.refl _ _,⟨rfl,rfl,rfl,trivial⟩,⟨rfl,trivial⟩,by omega⟩
     rcases AP (k+1) n with g|g
     ·exact hps k g
     ·rw[show k+1=n by omega];exact hpq
   ·rw[decide_eq_false h8]at hp
    rw[decide_eq_false h8,L4]at hpq
    rw[ZJ (n:=n-1) (by omega) (by rw[<-hnn];exact hpq)]
    (conv=>whnf)
    (repeat' ((first|refine Af ?_ ?_|refine EE rfl hi2 ?_|refine Ad rfl hp ?_|refine nx ?_|refine Aw (λ_=>?_) (λ_=>?_)|exact A0)<;>conv=>whnf))
    exact rfl
  ·rw[lR λk hk=>hps k (by omega)]
   ((conv=>whnf);repeat' ((first|refine odw ?_|refine nx ?_|refine Aw (λ_=>?_) (λ_=>?_))<;>conv=>whnf))
   exact rfl
end
end Go.Proofs.YtjejpdfldmempaaGreatDoor
end
section
namespace Go.Proofs.YtjejpdfldmempaaGreatDoor
open Go.Sx Go.RowKit Go.Reg Go.Gr
set_option maxRecDepth 100000
def jE:List (Nat×Plan):=[(4,.leaf [0,0,0,1,0,0,0,1,0] [0,1,2,4,5,6,3,7,8] [0,0,3,7,0,0,48,112,255]),
 (5,.leaf [0,0,0,1,0,0,0,1,0,0] [0,1,2,4,5,6,3,7,8,9] [0,0,3,7,0,0,48,112,255,511])]
theorem To(a b:List Int)(hab:a.length=b.length)(hm:a.length<=1000):Pure C1 95 [AS a,AS b] (λy=>y=.bool (D4 a b)):=by
 have hal:(a.map dI).length=a.length:=Ab _
 have hbl:(b.map dI).length=b.length:=Ab _
 refine AK Tryz.func95 Tryz.ntmps95 [] jE ?_
 ((conv=>whnf);repeat' ((first|refine odw ?_|refine nx ?_|refine Aw (λ_=>?_) (λ_=>?_))<;>conv=>whnf))
 refine AC (ι:=Nat) (λi=>i<=a.length/\D4 (a.drop i) (b.drop i)=D4 a b) (λi=>[(5,.d (.int .i64 i)),(1,.d (AS b)),(0,.d (AS a))]) (λ_=>[]) (λi=>a.length-i) 0 (λ_=>rfl) ⟨Aj _,rfl⟩ (.refl _ _) ⟨rfl,rfl,rfl,trivial⟩ trivial ?_
 rintro i ⟨hi,hc⟩
 rw[<-hc]
 refine Bj [] jE ?_
 by_cases hlt:i<a.length
 ·have hx:=Aa hlt
  have hy:=Aa (show i<b.length by omega)
  rw[AU hlt,AU (show i<b.length by omega)]at hc⊢
  generalize a[i]=x at hx hc⊢
  generalize b[i]'(by omega)=y at hy hc⊢
  have hxd:(a.map dI)[i]? =some (.int .i64 x):=by rw[Ac,hx];rfl
  have hyd:(b.map dI)[i]? =some (.int .i64 y):=by rw[Ac,hy];rfl
  have hbx:D4 (x::a.drop (i+1)) (y::b.drop (i+1))=(decide (x<y)||(decide (x=y)&&D4 (a.drop (i+1)) (b.drop (i+1)))):=rfl
  by_cases hxy:x=y
  ·have hb2:D4 (a.drop (i+1)) (b.drop (i+1))=D4 (x::a.drop (i+1)) (y::b.drop (i+1)):=by rw[hbx,decide_eq_false (show¬x<y by omega),decide_eq_true hxy,Bool.false_or,FE]
   (conv=>whnf)
   (repeat' ((first|refine Af ?_ ?_|refine A1 hxd rfl ?_|refine A1 hyd rfl ?_|refine nx ?_|refine Aw (λ_=>?_) (λ_=>?_)|exact A0)<;>conv=>whnf))
   exact⟨i+1,_,_,⟨hlt,hb2⟩,.refl _ _,⟨rfl,rfl,rfl,trivial⟩,trivial,by omega⟩
  ·rw[hbx,decide_eq_false hxy,L4,Bool.or_false]
   (conv=>whnf)
   (repeat' ((first|refine Af ?_ ?_|refine A1 hxd rfl ?_|refine A1 hyd rfl ?_|refine nx ?_|refine Aw (λ_=>?_) (λ_=>?_)|exact A0)<;>conv=>whnf))
   exact rfl
 ·have ha:a.drop i=[]:=BV (by omega)
  have hb:b.drop i=[]:=BV (by omega)
  rw[ha,hb]
  ((conv=>whnf);repeat' ((first|refine odw ?_|refine nx ?_|refine Aw (λ_=>?_) (λ_=>?_))<;>conv=>whnf))
  exact rfl
section
variable {G:Gr} {e:Bool} {d:Int} {l:List Opp}
theorem Yj {w:Gr} {ps:List Int->Bool} {X:List Int}(h0:X≠[])(hc:Cz w X=true):V8 w ps X=Ka ps X:=by
 unfold V8
 rw[decide_eq_true h0,hc,FE,FE]
def XF:List (Nat×Plan):=[(7,.leaf [1,0,0,0,1,2,0,0,0,0,0] [1,2,3,0,4,5,6,7,8,9,10] [0,0,0,6,14,31,63,127,127,255,1023])]
def mO:List FuncId:=[94,95]
set_option maxHeartbeats 4000000 in
theorem Ru(h:JobOk G e d l)(k:Nat)(hk:k<=500):Pure C1 41 [qR G e d l,.int .i64 ((k+1:Nat):Int)] (λz=>z=Fy (Bx (BQ G e) (II G e l) k)):=by
 have hw:=KK h
 have hok:=GI h.ok (by have:=h.n;omega) h.m e
 have hsm:=Kn h
 have hst:=aO (BQ G e) (k+1) hsm (by omega)
 have hkp:∀X:List Int,X.length<=900->Pure C1 32 [qR G e d l,AS X] (λz=>z=.bool (V8 (BQ G e) (II G e l) X)):=λX hX=>Rv h X hX
 generalize BQ G e=w at hw hok hsm hst hkp⊢
 generalize II G e l=ps at hkp⊢
 refine AK Tryz.func41 Tryz.ntmps41 mO XF ?_
 (conv=>whnf)
 (repeat' ((first|refine Af ?_ ?_|refine Ad rfl hw ?_|refine nx ?_|refine Aw (λ_=>?_) (λ_=>?_)|exact A0)<;>conv=>whnf))
 refine AI rfl hst ?_
 rintro y ⟨S,rfl,hS⟩
 have hSl:(S.map AS).length=S.length:=Ab _
 have hSb:S.length<=256:=by
  have hl:=Ql hS.1 (m:=(List.range (2^w.labels.length)).map (pick (Fc w.labels.length))) λp hp=>by
   obtain⟨⟨h1,h2,h3⟩,_⟩:=(hS.2 p).1 hp
   obtain⟨m,hm,he⟩:=J5 (PQ (Fq _) h1 h2)
   rw[E6]at hm
   exact Ar.2 ⟨m,AJ.2 hm,he⟩
  rw[Ab,Bv]at hl
  exact BE hl (BE (HK (by decide) hsm) (by decide))
 have hlv:∀t∈S,t.length=k+1/\∃r,Dg w t=some r/\r.length=k+1/\Cz w r=true:=λt ht=>by
  obtain⟨⟨h1,h2,h3⟩,h4⟩:=(hS.2 t).1 ht
  obtain⟨r,hr⟩:=Option.isSome_iff_exists.1 h4
  obtain⟨g1,g2⟩:=Ga hr
  rw[Ex (Ba t).1 h1 (Ba t).2]at g1
  exact⟨h3,r,hr,by rw[g1.length_eq,h3],g2⟩
 have hrow:∀(i:Nat) (P:List (List Int)),Kc w ps (S.take i) P->P.length<=256/\∀x∈P,x.length=k+1:=λi P hP=>by
  have hin:∀x∈P,x∈Bx w ps k:=λx hx=>by
   obtain⟨t,ht,g1,g2⟩:=(hP.2 x).1 hx
   obtain⟨_,r,hr,hrl,hrc⟩:=hlv t (Ek ht)
   rw[hr,Aq]at g1
   subst g1
   exact(El hok k).2 ⟨hrc,hrl,g2⟩
  have hnd:P.Nodup:=hP.1.imp λh=>lO h
  exact⟨BE (Ql hnd hin) (BE (LO hok ps k) (BE (HK (by decide) hsm) (by decide))),λx hx=>sC hok (hin x hx)⟩
 (conv=>whnf)
 (repeat' ((first|refine Af ?_ ?_|refine Q6 (λh=>h rfl) ?_|refine nx ?_|refine Aw (λ_=>?_) (λ_=>?_)|exact A0)<;>conv=>whnf))
 refine AC (ι:=Nat×List (List Int)) (λq=>q.1<=S.length/\Kc w ps (S.take q.1) q.2) (λq=>[(8,.d (.int .i64 (q.1:Nat))),(7,.d (Fy q.2)),(6,.d (Fy S)),(5,.own 5),(2,.own 2)]) (λ_=>[(2,.cells 61 [.d (dM G.labels G.edges),.d (.bool e),.d (.int .i64 d),.d (Ja l)]),(5,.cells 59 [.d (AS w.labels),.d (D0 w.edges)])]) (λq=>S.length-q.1) (0,[]) (λ_=>rfl) ⟨Aj _,X1 _ _⟩ (.lax 7 rfl (.nils 1) (.refl _ _)) ⟨rfl,rfl,rfl,rfl,rfl,trivial⟩ ⟨rfl,rfl,trivial⟩ ?_
 rintro⟨i,P⟩ ⟨hi,hP⟩
 dsimp only at hi hP
 obtain⟨hPl,hPx⟩:=hrow i P hP
 have hPm:(P.map AS).length=P.length:=Ab _
 refine Bj mO XF ?_
 by_cases hlt:i<S.length
 ·have hx:=Aa hlt
  have hmem:=AL hlt
  generalize S[i]=t at hx hmem
  have hxd:(S.map AS)[i]? =some (AS t):=by rw[Ac,hx];rfl
  obtain⟨htl,r,hr,hrl,hrc⟩:=hlv t hmem
  have hls:=Ld w t (by omega)
  rw[hr]at hls
  unfold So at hls
  have hkr:=hkp r (by omega)
  rw[Yj (λe=>by rw[e]at hrl;simp at hrl) hrc]at hkr
  have hS1:S.take (i+1)=S.take i++[t]:=by rw[Av,hx];rfl
  cases hv:Ka ps r with
  |
   false=>
   rw[hv]at hkr
   (conv=>whnf)
   (repeat' ((first|refine Af ?_ ?_|refine A1 hxd rfl ?_|refine Ad rfl hls ?_|refine Ad rfl hkr ?_|refine nx ?_|refine Aw (λ_=>?_) (λ_=>?_)|exact A0)<;>conv=>whnf))
   refine⟨(i+1,P),_,_,⟨hlt,?_⟩,.refl _ _,⟨rfl,rfl,rfl,rfl,rfl,trivial⟩,⟨rfl,rfl,trivial⟩,by dsimp only;omega⟩
   dsimp only
   rw[hS1]
   exact bK hP λx hx'=>by rw[hr,Aq]at hx';rw[<-hx'];exact hv
  |
   true=>
   rw[hv]at hkr
   have hno:∀t'∈S.take i,Dg w t'≠some r:=λt' ht'=>by
    obtain⟨j,hj,rfl⟩:=AQ.1 ht'
    exact Xm hS hx (Aa (by omega)) (by omega) hr
   have hyes:=λ(m:Nat)=>X0 hP hr hv hno (k:=m)
   rw[<-hS1]at hyes
   (conv=>whnf)
   (repeat' ((first|refine Af ?_ ?_|refine A1 hxd rfl ?_|refine Ad rfl hls ?_|refine Ad rfl hkr ?_|refine nx ?_|refine Aw (λ_=>?_) (λ_=>?_)|exact A0)<;>conv=>whnf))
   refine AC (ι:=Int) (λm=>(0<=m/\m<=P.length)/\∀x∈P.drop m.toNat,D4 r x=true) (λm=>[(11,.d (.int .i64 m)),(9,.d (AS r)),(8,.d (.int .i64 i)),(7,.d (Fy P)),(6,.d (Fy S)),(5,.own 5),(2,.own 2)]) (λ_=>[(2,.cells 61 [.d (dM G.labels G.edges),.d (.bool e),.d (.int .i64 d),.d (Ja l)]),(5,.cells 59 [.d (AS w.labels),.d (D0 w.edges)])]) (λm=>m.toNat) ((P.map AS).length:Int) (λ_=>rfl) ⟨⟨by omega,by omega⟩,by rw[hPm,AV,eY];simp⟩ (.refl _ _) ⟨rfl,rfl,rfl,rfl,rfl,rfl,rfl,trivial⟩ ⟨rfl,rfl,trivial⟩ ?_
   rintro m ⟨⟨hm0,hml⟩,hdr⟩
   obtain⟨m,rfl⟩:=Ax hm0
   rw[AV]at hdr
   refine Bj mO XF ?_
   have hfin:((P.map AS).take m++[.list 1 (r.map dI)])++(P.map AS).drop m=(P.take m++r::P.drop m).map AS:=by
    rw[Ay,Au,<-CW,<-GH,Bk];rfl
   by_cases h0:0<m
   ·obtain⟨j,rfl⟩:∃j,m=j+1:=⟨m-1,by omega⟩
    have hj:j<P.length:=by omega
    have hq:=Aa hj
    have hqm:=AL hj
    have hdj:=AU hj
    generalize P[j]=q at hq hqm hdj
    have hqd:(P.map AS)[j]? =some (AS q):=by rw[Ac,hq];rfl
    have hbe:=To r q (by rw[hrl,hPx q hqm]) (by omega)
    cases hz:D4 r q with
    |
     true=>
     rw[hz]at hbe
     (conv=>whnf)
     (repeat' ((first|refine Af ?_ ?_|refine A1 hqd (by omega) ?_|refine Ad rfl hbe ?_|refine nx ?_|refine Aw (λ_=>?_) (λ_=>?_)|exact A0)<;>conv=>whnf))
     refine⟨((j+1:Nat):Int)-1,_,_,⟨⟨by omega,by omega⟩,?_⟩,.refl _ _,⟨rfl,rfl,rfl,rfl,rfl,rfl,rfl,trivial⟩,⟨rfl,rfl,trivial⟩,by omega⟩
     rw[show(((j+1:Nat):Int)-1).toNat=j by omega,hdj]
     intro x hx'
     rcases An.1 hx' with e|e
     ·rw[e];exact hz
     ·exact hdr x e
    |
     false=>
     rw[hz]at hbe
     have hrw:=hyes (j+1) (by omega) hdr (λy _ hy=>by rw[TU,hq,Aq]at hy;rw[<-hy];exact hz)
     (conv=>whnf)
     (repeat' ((first|refine Af ?_ ?_|refine A1 hqd (by omega) ?_|refine Ad rfl hbe ?_|refine EE rfl (show j+1<=(P.map AS).length by omega) ?_|refine HP (j+1) rfl (by omega) ?_|refine nx ?_|refine Aw (λ_=>?_) (λ_=>?_)|exact A0)<;>conv=>whnf))
     exact⟨(i+1,P.take (j+1)++r::P.drop (j+1)),_,_,⟨hlt,hrw⟩,.frz 52 rfl (.refl _ _),⟨rfl,congrArg (λx=>Dat.d (.list 1 x)) hfin,rfl,rfl,rfl,trivial⟩,⟨rfl,rfl,trivial⟩,by dsimp only;omega⟩
   ·have hm:m=0:=by omega
    subst hm
    have hrw:=hyes 0 (by omega) hdr (λy h _=>absurd rfl h)
    (conv=>whnf)
    (repeat' ((first|refine Af ?_ ?_|refine EE rfl (show 0<=(P.map AS).length by omega) ?_|refine HP 0 rfl (by omega) ?_|refine nx ?_|refine Aw (λ_=>?_) (λ_=>?_)|exact A0)<;>conv=>whnf))
    exact⟨(i+1,P.take 0++r::P.drop 0),_,_,⟨hlt,hrw⟩,.frz 52 rfl (.refl _ _),⟨rfl,congrArg (λx=>Dat.d (.list 1 x)) hfin,rfl,rfl,rfl,trivial⟩,⟨rfl,rfl,trivial⟩,by dsimp only;omega⟩
 ·have hie:i=S.length:=by omega
  subst hie
  rw[De]at hP
  have:=bL hok hS hP
  rw[<-this]
  ((conv=>whnf);repeat' ((first|refine odw ?_|refine nx ?_|refine Aw (λ_=>?_) (λ_=>?_))<;>conv=>whnf))
  exact rfl
end
end Go.Proofs.YtjejpdfldmempaaGreatDoor
end
section
namespace Go.Proofs.YtjejpdfldmempaaGreatDoor
open Go.Sx Go.RowKit Go.Reg Go.Gr
set_option maxRecDepth 100000
section
variable {G:Gr} {e:Bool} {d:Int} {l:List Opp}
theorem jF(h:JobOk G e d l) {X:List Int}(hl:BW (BQ G e) X=true)(h8:(WU G e X).length<=8):XI G e X=.tuple [GE (Lh G e X),AS (WU G e X),.nili]:=by
 unfold XI
 cases e with
 |
  true=>
  rw[if_pos rfl]
  unfold SB
  rw[if_neg (by rw[show BW (G3 G) X=true from hl];decide),if_neg (by have:(Bq (Bl G.edges X)).length<=8:=h8;omega)];rfl
 |
  false=>
  rw[if_neg (by decide),if_neg (by have:X.length<=8:=h8;omega),if_neg (by rw[show BW G X=true from hl];decide)];rfl
end
end Go.Proofs.YtjejpdfldmempaaGreatDoor
end
section
namespace Go.Gr
section
variable {α:Type} {f:α->α->Int}
theorem pY {l:List (α×Int)} {p:α} {n:Int}(hn:0<=n)(hl:∀x∈l,0<=x.2):∀x∈DP f l p n,0<=x.2:=by
 induction l with
 |nil=>intro x hx;simp only[DP,AA]at hx;subst hx;exact hn
 |
  cons y l ih=>
  obtain⟨q,m⟩:=y
  have h0:=hl (q,m) (.head _)
  have ih:=ih (λx hx=>hl x (.tail _ hx))
  intro x hx
  simp only[DP]at hx
  split at hx
  ·rcases An.1 hx with rfl|hx
   ·exact h0
   ·exact ih x hx
  ·split at hx
   ·rcases An.1 hx with rfl|hx
    ·simp only at h0⊢;omega
    ·exact hl x (.tail _ hx)
   ·rcases An.1 hx with rfl|hx
    ·exact hn
    ·exact hl x hx
theorem lU {l:List (α×Int)} {p:α} {n:Int}:(DP f l p n).length<=l.length+1:=by
 induction l with
 |nil=>simp[DP]
 |
  cons y l ih=>
  obtain⟨q,m⟩:=y
  simp only[DP]
  split
  ·simp only[A4];omega
  ·split<;>simp only[A4]<;>omega
theorem Uq {l:List (α×Int)}(hl:∀x∈l,0<=x.2):(0<=OD l)/\∀x∈l,x.2<=OD l:=by
 unfold OD
 induction l with
 |nil=>exact⟨Int.le_refl _,λx hx=>by cases hx⟩
 |
  cons y l ih=>
  obtain⟨h1,h2⟩:=ih (λx hx=>hl x (.tail _ hx))
  have h0:=hl y (.head _)
  simp only[Au,List.foldr_cons]
  refine⟨by omega,λx hx=>?_⟩
  rcases An.1 hx with rfl|hx
  ·omega
  ·have:=h2 x hx;omega
def H9(ps:List Pt):List (Pt×Int):=ps.foldl (λl p=>DP G6 l p 1) []
theorem ML(ps:List Pt)(p:Pt):H9 (ps++[p])=DP G6 (H9 ps) p 1:=by unfold H9;rw[List.foldl_append];rfl
theorem Ki(ps:List Pt):OD (H9 ps)=ps.length/\(∀x∈H9 ps,0<=x.2)/\(H9 ps).length<=ps.length/\(∀x∈H9 ps,x.1∈ps)/\KS G6 (H9 ps):=by
 suffices h:∀qs:List Pt,OD (H9 qs.reverse)=qs.length/\(∀x∈H9 qs.reverse,0<=x.2)/\(H9 qs.reverse).length<=qs.length/\(∀x∈H9 qs.reverse,x.1∈qs)/\KS G6 (H9 qs.reverse)by
  have:=h ps.reverse
  rw[List.reverse_reverse,List.length_reverse]at this
  exact⟨this.1,this.2.1,this.2.2.1,λx hx=>List.mem_reverse.1 (this.2.2.2.1 x hx),this.2.2.2.2⟩
 intro qs
 induction qs with
 |nil=>exact⟨rfl,λx hx=>(by cases hx),Az _,λx hx=>(by cases hx),.nil⟩
 |
  cons q qs ih=>
  obtain⟨h1,h2,h3,h4,h5⟩:=ih
  rw[List.reverse_cons,ML]
  refine⟨by rw[gF,h1];simp,pY (by omega) h2,BE lU (by simpa using h3),λx hx=>?_,NS Rp h5⟩
  rcases WH x hx with e|hx
  ·rw[e];exact .head _
  ·exact .tail _ (h4 x hx)
end
end Go.Gr
namespace Go.Proofs.YtjejpdfldmempaaGreatDoor
open Go.Sx Go.RowKit Go.Reg Go.Gr
set_option maxRecDepth 100000
theorem nL {p:Pt}(h:FI p=none):TextOk p/\TT p:=by
 obtain⟨h1,h2,h3⟩:=GA h
 obtain⟨g1,g2⟩:=Sr h1
 obtain⟨s1,s2⟩:=HY h
 refine⟨⟨Jy h,by omega,λx hx=>?_,by omega,λe he=>?_⟩,λx hx=>(g2 x hx).1,λe he=>?_⟩
 ·have:=g2 x hx;omega
 ·have:=h2 e he;omega
 ·have:=h2 e he;omega
theorem DQ.mono {C:Cx} {f:FuncId} {args:List Dat} {σ0:Sg} {ks:List Nat} {Q R:Dat->Sg->Prop}(h:DQ C f args σ0 ks Q)(hq:∀d σ,Q d σ->R d σ):DQ C f args σ0 ks R:=by
 intro B S w η φ css hm hr
 obtain⟨h1,h2⟩:=h B S w η φ css hm hr
 refine⟨h1,h2.mono ?_⟩
 rintro e w' ⟨v,d,σ1,η1,φ1,e1,hQ,r⟩
 exact⟨v,d,σ1,η1,φ1,e1,hq _ _ hQ,r⟩
theorem nM {m:List (ByteArray×RowV)}(X:List (Value×Da)) {l:List (Pt×Int)} {p:Pt} {n:Int}(ht:MA l m)(hp:FI p=none)(hn:0<=n)(hl:∀x∈l,0<=x.2)(hs:OD l+n<=9223372036854775807):
  DQ C3 16 [.own 900,.d (GE p),.d (.int .i64 n)] (sT m X) [900] (λd σ=>∃z:List (ByteArray×RowV)×List (Value×Da),d=.d .nili/\σ=sT z.1 z.2/\MA (DP G6 l p n) z.1):=by
 obtain⟨hx,hnp⟩:=nL hp
 obtain⟨s0,s1⟩:=Uq hl
 cases hg:Reg.get m (bs (F9 p))with
 |
  none=>
  refine DQ.mono (fQ m X p n hx ⟨hn,by omega⟩ hg) ?_
  rintro d σ ⟨r,⟨r1,r2⟩,rfl,rfl⟩
  exact⟨(_,_),rfl,rfl,by rw[<-r1];exact fT ht hnp r2 hg⟩
 |
  some r=>
  obtain⟨e,hT⟩:=fR ht hnp n hg
  have hm:(bs (F9 p),r)∈m:=by
   unfold Reg.get at hg
   obtain⟨q,hq,e⟩:=Cg.1 hg
   have h1:=List.mem_of_find?_eq_some hq
   have h2:=List.find?_some hq
   have h3:q.1=bs (F9 p):=by simpa using h2
   have:q=(bs (F9 p),r):=by rw[<-h3,<-e]
   rw[<-this];exact h1
  have hin:=Uo ht hm
  have h0:=hl _ hin
  have h1:=s1 _ hin
  simp only at h0 h1
  refine DQ.mono (fP m X p n r hx hn hg h0 (by omega)) ?_
  rintro d σ ⟨rfl,rfl⟩
  exact⟨(_,_),rfl,rfl,hT⟩
section
variable {G:Gr} {e:Bool} {d:Int} {l:List Opp}
def Zm:List (Nat×Plan):=[]
def YT:List FuncId:=[34]
theorem lG:Cu Tryz.prog YT Zm (Tryz.f42.body.getD .skip)=true:=by kernel_rfl
theorem gT(vs:Array Value)(w:World):(callFunc 42 vs).run C1.P w=.ok (.enter 42 vs) w:=by kernel_rfl
theorem cP(R:List (List Int))(q:List Int->Pt)(hR:R.length<=1000000)(hq:∀X∈R,FI (q X)=none/\∃V,Pure C1 34 [dJ G e d l,AS X] (λz=>z=.tuple [GE (q X),AS V,.nili])):
  DQ C3 42 [.d (dJ G e d l),.d (Fy R)] [] [] (λd σ=>∃z:List (ByteArray×RowV)×List (Value×Da),d=.tuple [.own 900,.d .nili]/\σ=sT z.1 z.2/\MA (H9 (R.map q)) z.1):=by
 have hRl:(R.map AS).length=R.length:=Ab _
 refine MX Jj (pl:=Zm) (G:=YT) Tryz.func42 rfl Tryz.ntmps42 gT lG (by simp) 999 rfl ?_
 intro vs
 (conv=>whnf)
 refine QZ [] [] nK rfl rfl rfl rfl rfl rfl rfl ?_
 (conv=>whnf)
 refine AC (ι:=Nat×List (ByteArray×RowV)×List (Value×Da)) (λx=>x.1<=R.length/\MA (H9 ((R.take x.1).map q)) x.2.1) (λx=>[(16,.d (.int .i64 x.1)),(15,.d (.int .i64 (R.map AS).length)),(14,.d (Fy R)),(6,.own 900),(2,.own 2)])
  (λx=>[(999,.ghost vs []),(2,.cells 58 [.d (dG G),.d (.bool e),.d (.int .i64 d),.d (Ja l)]),(900,.cells 106 [.own 901]),(901,(F7 MW x.2.1 x.2.2).own)]) (λx=>R.length-x.1) (0,[],[]) (λ_=>rfl) ⟨Aj _,fS⟩ (.refl _ _) ⟨rfl,rfl,rfl,rfl,rfl,trivial⟩ ⟨rfl,rfl,rfl,rfl,trivial⟩ ?_
 rintro⟨i,m,X⟩ ⟨hi,hT⟩
 simp only at hi hT
 refine OA YT [] ?_
 by_cases hlt:i<R.length
 ·have hx:R[i]? =some R[i]:=Aa hlt
  have hxm:=AB hx
  have htk:(R.take (i+1)).map q=(R.take i).map q++[q R[i]]:=by rw[Av,hx,B9,Ay];rfl
  generalize R[i]=x at hx hxm htk
  obtain⟨hpe,V,hpt⟩:=hq x hxm
  have hpt:=Pure.up3 hpt
  have hxd:(R.map AS)[i]? =some (AS x):=by rw[Ac,hx];rfl
  obtain⟨t1,t2,t3,t4,t5⟩:=Ki ((R.take i).map q)
  have hsl:OD (H9 ((R.take i).map q))<=1000000:=by rw[t1,Ab,As];omega
  have had:=nM X hT hpe (n:=1) (by omega) t2 (by omega)
  rw[<-ML,<-htk]at had
  (conv=>whnf)
  (repeat' ((first|refine Af ?_ ?_|refine A1 hxd rfl ?_|refine Ad rfl hpt ?_|refine nx ?_|refine Aw (λ_=>?_) (λ_=>?_)|exact A0)<;>conv=>whnf))
  refine SI [] [900,901] had (λd σ h=>h) rfl rfl rfl rfl rfl rfl (λ_=>rfl) ?_
  rintro⟨m',X'⟩ hT'
  ((conv=>whnf);repeat' ((first|refine odw ?_|refine nx ?_|refine Aw (λ_=>?_) (λ_=>?_))<;>conv=>whnf))
  exact⟨(i+1,m',X'),_,_,⟨hlt,hT'⟩,.refl _ _,⟨rfl,rfl,rfl,rfl,rfl,trivial⟩,⟨rfl,rfl,rfl,rfl,trivial⟩,by simp only;omega⟩
 ·have e:R.take i=R:=Ak (by omega)
  rw[e]at hT
  ((conv=>whnf);repeat' ((first|refine odw ?_|refine nx ?_|refine Aw (λ_=>?_) (λ_=>?_))<;>conv=>whnf))
  exact⟨_,_,[],sT m X,.lo (.refl _ _),rfl,⟨rfl,rfl,trivial⟩,rfl,(m,X),rfl,rfl,hT⟩
end
end Go.Proofs.YtjejpdfldmempaaGreatDoor
end
section
namespace Go.Gr
open Go.Proofs.YtjejpdfldmempaaGreatDoor Go.Sx
theorem Mh(p:Pt):(GY p).length=2+p.labels.length+2*p.edges.length:=by
 unfold GY
 have:∀E:List Edg,(E.flatMap λe=>[e.a,e.b]).length=2*E.length:=λE=>by
  induction E with
  |nil=>rfl
  |cons x E ih=>rw[Bp,Ah,ih,A4];simp;omega
 simp[this];omega
theorem V6(p:Pt):(GY p)[0]? =some (p.labels.length:Int):=rfl
theorem Z0(p:Pt):(GY p)[1+p.labels.length]? =some (p.edges.length:Int):=by
 unfold GY
 rw[show 1+p.labels.length=p.labels.length+1 by omega,List.getElem?_cons_succ,Cm (Az _),Gu];rfl
theorem oS {p q:Pt} {i:Nat}(h:(GY p).take i=(GY q).take i)(hi:(GY p).length<=i\/(GY q).length<=i):GY p=GY q:=by
 have hg:∀j,j<i->(GY p)[j]? =(GY q)[j]? :=λj hj=>by
  have:=congrArg (λl=>l[j]?) h
  simpa[Cv,hj]using this
 have l1:=Mh p
 have l2:=Mh q
 have h0:=hg 0 (by omega)
 rw[V6,V6]at h0
 have hn:p.labels.length=q.labels.length:=by injection h0 with e;omega
 have hm:=hg (1+p.labels.length) (by omega)
 rw[Z0,hn,Z0]at hm
 have hE:p.edges.length=q.edges.length:=by injection hm with e;omega
 rwa [Ak (by omega),Ak (by omega)]at h
end Go.Gr
namespace Go.Proofs.YtjejpdfldmempaaGreatDoor
open Go.Sx Go.RowKit Go.Reg Go.Gr
set_option maxRecDepth 100000
def iO:List (Nat×Plan):=[(6,.leaf [0,0,1,0,0,0,1,0,1,0,0,0,1,6,3,0] [0,1,3,7,9,2,4,5,6,8,10,11,12,13,14,15] [0,0,2,0,14,30,62,0,128,0,896,1920,3968,8190,16383,32767])]
set_option maxHeartbeats 4000000 in
theorem PS(p:Pt)(hl:p.labels.length<=8)(hE:p.edges.length<=64):Pure C1 201 [GE p] (λy=>y=AS (GY p)):=by
 have hdl:(p.labels.map dI).length=p.labels.length:=Ab _
 have hde:(p.edges.map dE).length=p.edges.length:=Ab _
 refine AK Tryz.func201 Tryz.ntmps201 [] iO ?_
 ((conv=>whnf);repeat' ((first|refine odw ?_|refine nx ?_|refine Aw (λ_=>?_) (λ_=>?_))<;>conv=>whnf))
 refine AC (ι:=Nat) (λi=>i<=p.edges.length) (λi=>[(4,.d (.int .i64 i)),(3,.own 8),(1,.own 1)]) (λi=>[(1,.cells 35 [.d (AS p.labels),.d (D0 p.edges)]),(8,.slice 3 1 (((p.labels.length:Int)::(p.labels++(p.edges.length:Int)::(p.edges.take i).flatMap λe=>[e.a,e.b])).map dI))]) (λi=>p.edges.length-i) 0 (λ_=>rfl) (Aj _) (.refl _ _) ⟨rfl,rfl,rfl,trivial⟩ ⟨rfl,AO (by simp[dI]),trivial⟩ ?_
 intro i hi
 refine Bj [] iO ?_
 by_cases hil:i<p.edges.length
 ·have hx:=Aa hil
  generalize p.edges[i]=x at hx
  have hxd:(p.edges.map dE)[i]? =some (.agg [.int .i64 x.a,.int .i64 x.b]):=by rw[Ac,hx];rfl
  have hst:(p.edges.take (i+1)).flatMap (λe=>[e.a,e.b])=(p.edges.take i).flatMap (λe=>[e.a,e.b])++[x.a,x.b]:=by
   rw[Av,hx,B9,Dm];rfl
  have hlen:((p.edges.take i).flatMap λe=>[e.a,e.b]).length<=128:=by
   have:=Mh ⟨[],p.edges.take i⟩
   unfold GY at this
   simp only[Ca,A4,Cb,As]at this
   omega
  generalize (p.edges.take i).flatMap (λe=>[e.a,e.b])=F at hst hlen⊢
  (conv=>whnf)
  (repeat' ((first|refine Af ?_ ?_|refine A1 hxd rfl ?_|refine nx ?_|refine Aw (λ_=>?_) (λ_=>?_)|exact A0)<;>conv=>whnf))
  exact⟨i+1,_,_,hil,.refl _ _,⟨rfl,rfl,rfl,trivial⟩,⟨rfl,AO (by rw[hst];simp[dI]),trivial⟩,by omega⟩
 ·have e:p.edges.take i=p.edges:=Ak (by omega)
  rw[e]
  ((conv=>whnf);repeat' ((first|refine odw ?_|refine nx ?_|refine Aw (λ_=>?_) (λ_=>?_))<;>conv=>whnf))
  exact rfl
def iP:List (Nat×Plan):=[(1,.leaf [1,2,1,2,0,0] [0,2,1,3,4,5] [0,1,0,7,15,31]),
 (5,.leaf [0,0,0,1,0,0,0,1,0] [0,1,2,4,5,6,3,7,8] [0,0,3,7,0,0,48,112,255]),
 (7,.leaf [0,0,0,1,0,0,0,1,0] [0,1,2,4,5,6,3,7,8] [0,0,3,7,0,0,48,112,255])]
def rE:List FuncId:=[201]
set_option maxHeartbeats 4000000 in
theorem bN(p q:Pt)(hp:p.labels.length<=8)(hE:p.edges.length<=64)(hq:q.labels.length<=8)(hF:q.edges.length<=64):Pure C1 139 [GE p,GE q] (λy=>y=.int .i64 (G6 p q)):=by
 have f1:=PS p hp hE
 have f2:=PS q hq hF
 have l1:=Mh p
 have l2:=Mh q
 have hpre:=λi=>oS (p:=p) (q:=q) (i:=i)
 rw[He]
 generalize GY p=a at f1 l1 hpre⊢
 generalize GY q=b at f2 l2 hpre⊢
 have hda:(a.map dI).length=a.length:=Ab _
 have hdb:(b.map dI).length=b.length:=Ab _
 refine AK Tryz.func139 Tryz.ntmps139 rE iP ?_
 (conv=>whnf)
 (repeat' ((first|refine Af ?_ ?_|refine Ad rfl f1 ?_|refine Ad rfl f2 ?_|refine nx ?_|refine Aw (λ_=>?_) (λ_=>?_)|exact A0)<;>conv=>whnf))
 refine AC (ι:=Nat) (λi=>(i<=a.length/\i<=b.length)/\a.take i=b.take i/\EJ CF a b=EJ CF (a.drop i) (b.drop i)) (λi=>[(7,.d (.int .i64 i)),(6,.d (AS b)),(5,.d (AS a))]) (λ_=>[]) (λi=>a.length-i) 0 (λ_=>rfl) ⟨⟨Aj _,Aj _⟩,by simp,rfl⟩ (.refl _ _) ⟨rfl,rfl,rfl,trivial⟩ trivial ?_
 rintro i ⟨⟨hi1,hi2⟩,htk,hc⟩
 refine Bj rE iP ?_
 by_cases h1:i<a.length
 ·by_cases h2:i<b.length
  ·have hx:=Aa h1
   have hy:=Aa h2
   rw[AU h1,AU h2,Dr]at hc
   generalize a[i]=x at hx hc
   generalize b[i]=y at hy hc
   have hxd:(a.map dI)[i]? =some (.int .i64 x):=by rw[Ac,hx];rfl
   have hyd:(b.map dI)[i]? =some (.int .i64 y):=by rw[Ac,hy];rfl
   by_cases hlt:x<y
   ·have e:CF x y=-1:=by unfold CF;rw[if_pos hlt]
    rw[e,if_neg (by decide)]at hc
    rw[hc]
    (conv=>whnf)
    (repeat' ((first|refine Af ?_ ?_|refine A1 hxd rfl ?_|refine A1 hyd rfl ?_|refine nx ?_|refine Aw (λ_=>?_) (λ_=>?_)|exact A0)<;>conv=>whnf))
    exact rfl
   ·by_cases hgt:y<x
    ·have e:CF x y=1:=by unfold CF;rw[if_neg hlt,if_pos hgt]
     rw[e,if_neg (by decide)]at hc
     rw[hc]
     (conv=>whnf)
     (repeat' ((first|refine Af ?_ ?_|refine A1 hxd rfl ?_|refine A1 hyd rfl ?_|refine nx ?_|refine Aw (λ_=>?_) (λ_=>?_)|exact A0)<;>conv=>whnf))
     exact rfl
    ·have e:x=y:=by omega
     subst e
     rw[(K6 x x).2 rfl,if_pos rfl]at hc
     (conv=>whnf)
     (repeat' ((first|refine Af ?_ ?_|refine A1 hxd rfl ?_|refine A1 hyd rfl ?_|refine nx ?_|refine Aw (λ_=>?_) (λ_=>?_)|exact A0)<;>conv=>whnf))
     exact⟨i+1,_,_,⟨⟨h1,h2⟩,by rw[Av,Av,htk,hx,hy],hc⟩,.refl _ _,⟨rfl,rfl,rfl,trivial⟩,trivial,by omega⟩
  ·have e:=hpre i htk (.inr (by omega))
   have hz:EJ CF a b=0:=by rw[e];exact(fN aB).self b
   rw[hz]
   ((conv=>whnf);repeat' ((first|refine odw ?_|refine nx ?_|refine Aw (λ_=>?_) (λ_=>?_))<;>conv=>whnf))
   exact rfl
 ·have e:=hpre i htk (.inl (by omega))
  have hz:EJ CF a b=0:=by rw[e];exact(fN aB).self b
  rw[hz]
  ((conv=>whnf);repeat' ((first|refine odw ?_|refine nx ?_|refine Aw (λ_=>?_) (λ_=>?_))<;>conv=>whnf))
  exact rfl
end Go.Proofs.YtjejpdfldmempaaGreatDoor
end
section
namespace Go.Gr
section
variable {α:Type} {f:α->α->Int}
theorem pX {l:List (α×Int)} {p:α} {n:Int} {k:Nat} {x:α×Int}(h:DP f l p n=l.take k++DP f (l.drop k) p n)(hx:l[k]? =some x)(hlt:f x.1 p<0):DP f l p n=l.take (k+1)++DP f (l.drop (k+1)) p n:=by
 obtain⟨hk,e⟩:=Ae.1 hx
 rw[h,AU hk,Av,hx,e]
 obtain⟨q,m⟩:=x
 simp only[DP]
 rw[if_pos hlt]
 simp
theorem lV {l:List (α×Int)} {p:α} {n:Int} {k:Nat} {x:α×Int}(h:DP f l p n=l.take k++DP f (l.drop k) p n)(hx:l[k]? =some x)(h0:f x.1 p=0):DP f l p n=l.take k++(p,x.2+n)::l.drop (k+1):=by
 obtain⟨hk,e⟩:=Ae.1 hx
 rw[h,AU hk,e]
 obtain⟨q,m⟩:=x
 simp only[DP]
 rw[if_neg (by simp only at h0;omega),if_pos h0]
theorem WG {l:List (α×Int)} {p:α} {n:Int} {k:Nat}(h:DP f l p n=l.take k++DP f (l.drop k) p n)(hx:∀x,l[k]? =some x->0<f x.1 p):DP f l p n=l.take k++(p,n)::l.drop k:=by
 rw[h]
 by_cases hk:k<l.length
 ·have h1:=hx _ (Aa hk)
  rw[AU hk]
  generalize l[k]=x at h1⊢
  obtain⟨q,m⟩:=x
  simp only at h1
  simp only[DP]
  rw[if_neg (by omega),if_neg (by omega)]
 ·rw[BV (by omega)];rfl
end
end Go.Gr
namespace Go.Proofs.YtjejpdfldmempaaGreatDoor
open Go.Sx Go.RowKit Go.Reg Go.Gr
set_option maxRecDepth 100000
def qP(l:List (Pt×Int)):Da:=.list 3 (l.map FJ)
def NU(p:Pt):Prop:=p.labels.length<=8/\p.edges.length<=64
def iQ:List (Nat×Plan):=[(2,.leaf [0,0,0,0,0,0,0,0,0,1,1,2,0,0] [0,1,2,3,4,5,6,7,8,9,10,11,12,13] [0,0,2,7,15,31,31,127,255,511,31,2047,4095,8191]),
 (5,.leaf [0,0,0,0,0,0,0,0,0,1,1,2,0,0] [0,1,2,3,4,5,6,7,8,9,10,11,12,13] [0,0,2,7,15,31,31,127,255,511,31,2047,4095,8191]),
 (8,.leaf [0,1,0,0,0,0,1,0,0,0,6,3,0] [0,2,3,4,5,7,1,6,8,9,10,11,12] [0,0,0,0,12,28,60,0,252,510,1022,2047,4095])]
def rH:List FuncId:=[139]
set_option maxHeartbeats 2000000 in
theorem UR(l:List (Pt×Int))(p:Pt)(n:Int)(hl:l.length<=1000000)(hs:∀x∈l,NU x.1/\0<=x.2/\x.2+n<=9223372036854775807)(hp:NU p)(hn:0<=n/\n<=9223372036854775807):
  Pure C1 96 [qP l,GE p,.int .i64 n] (λy=>y=.tuple [qP (DP G6 l p n),.bool true]):=by
 have hlm:(l.map FJ).length=l.length:=Ab _
 refine AK Tryz.func96 Tryz.ntmps96 rH iQ ?_
 ((conv=>whnf);repeat' ((first|refine odw ?_|refine nx ?_|refine Aw (λ_=>?_) (λ_=>?_))<;>conv=>whnf))
 refine AC (ι:=Nat) (λk=>k<=l.length/\DP G6 l p n=l.take k++DP G6 (l.drop k) p n) (λk=>[(8,.d (.int .i64 k)),(4,.own 4),(2,.d (.int .i64 n)),(0,.d (qP l))]) (λ_=>[(4,.cells 35 [.d (AS p.labels),.d (D0 p.edges)])]) (λk=>l.length-k) 0 (λ_=>rfl) ⟨Aj _,by simp⟩ (.refl _ _) ⟨rfl,rfl,rfl,rfl,trivial⟩ ⟨rfl,trivial⟩ ?_
 rintro k ⟨hk,hin⟩
 refine Bj rH iQ ?_
 have hput:∀q:Pt×Int,((l.map FJ).take k++[FJ q])++(l.map FJ).drop k=(l.take k++q::l.drop k).map FJ:=λq=>by
  rw[Ay,Au,<-CW,<-GH,Bk];rfl
 by_cases hlt:k<l.length
 ·have hx:l[k]? =some l[k]:=Aa hlt
  have hxm:=AB hx
  generalize l[k]=x at hx hxm
  obtain⟨hsx,hx0,hxn⟩:=hs x hxm
  have hxd:(l.map FJ)[k]? =some (.agg [.agg [AS x.1.labels,D0 x.1.edges],.int .i64 x.2]):=by rw[Ac,hx];rfl
  have hc:=bN x.1 p hsx.1 hsx.2 hp.1 hp.2
  by_cases h1:G6 x.1 p<0
  ·(conv=>whnf)
   (repeat' ((first|refine Af ?_ ?_|refine A1 hxd rfl ?_|refine Ad rfl hc ?_|refine nx ?_|refine Aw (λ_=>?_) (λ_=>?_)|exact A0)<;>conv=>whnf))
   exact⟨k+1,_,_,⟨hlt,pX hin hx h1⟩,.refl _ _,⟨rfl,rfl,rfl,rfl,trivial⟩,⟨rfl,trivial⟩,by omega⟩
  ·by_cases h0:G6 x.1 p=0
   ·have he:=lV hin hx h0
    have hput1:((l.map FJ).take k++[FJ (p,x.2+n)])++(l.map FJ).drop (k+1)=(l.take k++(p,x.2+n)::l.drop (k+1)).map FJ:=by
     rw[Ay,Au,<-CW,<-GH,Bk];rfl
    rw[he]
    (conv=>whnf)
    (repeat' ((first|refine Af ?_ ?_|refine A1 hxd rfl ?_|refine Ad rfl hc ?_|refine EE rfl (show k<=(l.map FJ).length by omega) ?_|refine HP (k+1) rfl (by omega) ?_|refine nx ?_|refine Aw (λ_=>?_) (λ_=>?_)|exact A0)<;>conv=>whnf))
    exact congrArg (λx=>Da.tuple [.list 3 x,.bool true]) hput1
   ·have he:=WG hin (λy hy=>by rw[hx]at hy;cases hy;omega)
    rw[he]
    (conv=>whnf)
    (repeat' ((first|refine Af ?_ ?_|refine A1 hxd rfl ?_|refine Ad rfl hc ?_|refine EE rfl (show k<=(l.map FJ).length by omega) ?_|refine HP k rfl (by omega) ?_|refine nx ?_|refine Aw (λ_=>?_) (λ_=>?_)|exact A0)<;>conv=>whnf))
    exact congrArg (λx=>Da.tuple [.list 3 x,.bool true]) (hput (p,n))
 ·have he:=WG hin (λy hy=>by rw[Bh (by omega)]at hy;cases hy)
  rw[he]
  (conv=>whnf)
  (repeat' ((first|refine Af ?_ ?_|refine EE rfl (show k<=(l.map FJ).length by omega) ?_|refine HP k rfl (by omega) ?_|refine nx ?_|refine Aw (λ_=>?_) (λ_=>?_)|exact A0)<;>conv=>whnf))
  exact congrArg (λx=>Da.tuple [.list 3 x,.bool true]) (hput (p,n))
end Go.Proofs.YtjejpdfldmempaaGreatDoor
end
section
namespace Go.Proofs.YtjejpdfldmempaaGreatDoor
open Go.Sx Go.RowKit Go.Reg Go.Gr
set_option maxRecDepth 100000
section
variable {G:Gr} {e:Bool} {d:Int} {l:List Opp}
def iG:List (Nat×Plan):=[(5,.split 5 10 (.leaf [1,0,0,0,1,2,0,0,0,0,6,3,0,0] [1,2,3,0,4,5,6,7,8,9,10,11,12,13] [0,0,0,6,14,31,63,127,127,127,63,1279,3583,8191]) (.leaf [1,0,0,0,1,2,0,0,0,0,6,3,0,0] [1,2,3,0,4,10,5,6,7,8,9,11,12,13] [0,0,0,6,14,1055,1087,1151,1151,1151,0,1279,3583,8191]))]
def qZ:List FuncId:=[36,96]
theorem Rs(R:List (List Int))(q:List Int->Pt)(hR:R.length<=1000000)(hq:∀X∈R,NU (q X)/\∃V,∃b:Bool,Pure C1 36 [qR G e d l,AS X] (λz=>z=.tuple [GE (q X),AS V,.bool b])):
  Pure C1 44 [qR G e d l,Fy R] (λy=>y=qP (H9 (R.map q))):=by
 have hRl:(R.map AS).length=R.length:=Ab _
 refine AK Tryz.func44 Tryz.ntmps44 qZ iG ?_
 (conv=>whnf)
 refine AC (ι:=Nat) (λi=>i<=R.length) (λi=>[(6,.d (.int .i64 i)),(5,.d (qP (H9 ((R.take i).map q)))),(2,.own 2),(1,.d (Fy R))]) (λ_=>[(2,.cells 61 [.d (dM G.labels G.edges),.d (.bool e),.d (.int .i64 d),.d (Ja l)])]) (λi=>R.length-i) 0 (λ_=>rfl) (Aj _) (.lax 5 rfl (.nils 3) (.refl _ _)) ⟨rfl,rfl,rfl,rfl,trivial⟩ ⟨rfl,trivial⟩ ?_
 intro i hi
 refine Bj qZ iG ?_
 by_cases hlt:i<R.length
 ·have hx:R[i]? =some R[i]:=Aa hlt
  have hxm:=AB hx
  have htk:(R.take (i+1)).map q=(R.take i).map q++[q R[i]]:=by rw[Av,hx,B9,Ay];rfl
  generalize R[i]=x at hx hxm htk
  obtain⟨hsm,V,b,hpt⟩:=hq x hxm
  have hxd:(R.map AS)[i]? =some (AS x):=by rw[Ac,hx];rfl
  obtain⟨t1,t2,t3,t4,t5⟩:=Ki ((R.take i).map q)
  have hlen:((R.take i).map q).length<=1000000:=by rw[Ab,As];omega
  have hsl:OD (H9 ((R.take i).map q))<=1000000:=by rw[t1];omega
  obtain⟨_,s1⟩:=Uq t2
  have had:=UR (H9 ((R.take i).map q)) (q x) 1 (by omega) (λy hy=>by
   refine⟨?_,t2 y hy,by have:=s1 y hy;omega⟩
   obtain⟨X,hX,e⟩:=Ar.1 (t4 y hy)
   rw[<-e]
   exact(hq X (Ek hX)).1) hsm (by omega)
  rw[<-ML,<-htk]at had
  (conv=>whnf)
  (repeat' ((first|refine Af ?_ ?_|refine A1 hxd rfl ?_|refine Ad rfl hpt ?_|refine Ad rfl had ?_|refine nx ?_|refine Aw (λ_=>?_) (λ_=>?_)|exact A0)<;>conv=>whnf))
  exact⟨i+1,_,_,hlt,.refl _ _,⟨rfl,rfl,rfl,rfl,trivial⟩,⟨rfl,trivial⟩,by omega⟩
 ·have e:R.take i=R:=Ak (by omega)
  rw[e]
  ((conv=>whnf);repeat' ((first|refine odw ?_|refine nx ?_|refine Aw (λ_=>?_) (λ_=>?_))<;>conv=>whnf))
  exact rfl
end
def Ts:List (Nat×Plan):=[(7,.leaf [0,0,0,0,1,0,0,0,0,1,0,0,0,0,0,0,1,0,0,0,0,1,2,0,0] [0,1,2,3,5,6,7,8,4,9,10,11,12,13,14,15,17,18,19,20,16,21,22,23,24] [0,0,3,7,15,0,0,96,224,480,1023,2047,4095,4095,16383,32767,65535,4095,4095,397311,921599,1970175,4194303,8388607,16777215])]
def YQ:List FuncId:=[37]
theorem lE:Cu Tryz.prog YQ Ts (Tryz.f43.body.getD .skip)=true:=by kernel_rfl
theorem gR(vs:Array Value)(w:World):(callFunc 43 vs).run C1.P w=.ok (.enter 43 vs) w:=by kernel_rfl
theorem aQ {l:List (Pt×Int)} {m:List (ByteArray×RowV)}(X:List (Value×Da))(ht:MA l m)(hl:l.length<=1000000)(hp:∀x∈l,NU x.1):
  DQ C3 43 [.own 900,.d (qP l)] (sT m X) [900] (λd σ=>d=.d (.bool true)/\σ=sT m []):=by
 have hlm:(l.map FJ).length=l.length:=Ab _
 have hrw:=fJ l m X ht hl (λx hx=>⟨by have:=(hp x hx).1;omega,by have:=(hp x hx).2;omega⟩)
 refine MX Jj (pl:=Ts) (G:=YQ) Tryz.func43 rfl Tryz.ntmps43 gR lE (by simp) 999 rfl ?_
 intro vs
 (conv=>whnf)
 refine QZ [] [900,901] hrw rfl rfl rfl rfl rfl rfl rfl ?_
 ((conv=>whnf);repeat' ((first|refine odw ?_|refine nx ?_|refine Aw (λ_=>?_) (λ_=>?_))<;>conv=>whnf))
 refine AC (ι:=Nat) (λi=>i<=l.length) (λi=>[(6,.d (.int .i64 i)),(5,.d (qP l)),(1,.d (qP l))]) (λ_=>[(999,.ghost vs [.own 900]),(900,.cells 106 [.own 901]),(901,(F7 MW m []).own)]) (λi=>l.length-i) 0 (λ_=>rfl) (Aj _) (.frz 910 rfl (.refl _ _)) ⟨rfl,rfl,rfl,trivial⟩ ⟨rfl,rfl,rfl,trivial⟩ ?_
 intro i hi
 refine OA YQ Ts ?_
 by_cases hlt:i<l.length
 ·have hx:l[i]? =some l[i]:=Aa hlt
  have hxm:=AB hx
  generalize l[i]=x at hx hxm
  have hxd:(l.map FJ)[i]? =some (.agg [.agg [AS x.1.labels,D0 x.1.edges],.int .i64 x.2]):=by rw[Ac,hx];rfl
  have hs8:=Pure.up3 (Xu x.1 (by have:=(hp x hxm).2;omega))
  (conv=>whnf)
  (repeat' ((first|refine Af ?_ ?_|refine A1 hxd rfl ?_|refine Ad rfl hs8 ?_|refine nx ?_|refine Aw (λ_=>?_) (λ_=>?_)|exact A0)<;>conv=>whnf))
  exact⟨i+1,_,_,hlt,.refl _ _,⟨rfl,rfl,rfl,trivial⟩,⟨rfl,rfl,rfl,trivial⟩,by omega⟩
 ·((conv=>whnf);repeat' ((first|refine odw ?_|refine nx ?_|refine Aw (λ_=>?_) (λ_=>?_))<;>conv=>whnf))
  exact⟨_,_,[],sT m [],.lo (.refl _ _),rfl,⟨rfl,rfl,trivial⟩,rfl,rfl,rfl⟩
end Go.Proofs.YtjejpdfldmempaaGreatDoor
end
