/- Merged: Qii Qta Qtb Pgx Vpl Lvp Lvs Lvj Lvw Dlg Vof Vta Vtc Lvx Lvo Lvk Lvq Pgo Pgq Lve Lmd Rft Rfu Rfl Lgg Tbl Wpb Rcf Tbr Tbs Ltb Afa Seb Sec Sed See. -/
import Derived.Test.YtjejpdfldmempaaGreatDooragax
import Derived.Test.YtjejpdfldmempaaGreatDooragas
import Derived.Test.YtjejpdfldmempaaGreatDooragat
import Derived.Test.YtjejpdfldmempaaGreatDooragaq
import Derived.Test.YtjejpdfldmempaaGreatDooragaw
import Derived.Test.YtjejpdfldmempaaGreatDooragav
import Derived.Test.YtjejpdfldmempaaGreatDooragau
import Derived.WalkKit
import Derived.OwnWalkIn
import Derived.TacticsInMore
import Derived.LoopNIn
import Derived.LoopIn
import Derived.Laws.Bits64b
section
namespace Go.Proofs.YtjejpdfldmempaaGreatDoor
open Go.Sx Go.RowKit Go.Reg Go.Gr
set_option maxRecDepth 100000
theorem Hp {p:Pt}(h:Dr p=none):p.labels.length<=8/\p.edges.length<=64:=by
 obtain⟨h1,h2,h3⟩:=BL h
 have h8:p.labels.length<=8:=by
  apply Classical.byContradiction
  intro hn
  unfold Iw at h1
  rw[if_pos (by omega)]at h1
  cases h1
 have:=NH h3.nodup (m:=Ye p.labels.length) λe he=>Sy.2 (h2 e he)
 rw[Sh]at this
 have hm:p.labels.length*(p.labels.length-1)<=8*8:=Nat.mul_le_mul h8 (by omega)
 omega
end Go.Proofs.YtjejpdfldmempaaGreatDoor
end
section
namespace Go.Proofs.YtjejpdfldmempaaGreatDoor
open Go.Gr
def pick:List Int->Nat->List Int
 |[],_=>[]
 |x::s,m=>(if m % 2=1 then[x]else[])++pick s (m/2)
end Go.Proofs.YtjejpdfldmempaaGreatDoor
end
section
namespace Go.Proofs.YtjejpdfldmempaaGreatDoor
open Go.Sx Go.RowKit Go.Reg Go.Gr
set_option maxRecDepth 100000
structure JobOk(G:Gr)(e:Bool)(d:Int)(l:List Opp):Prop where
 ok:G.Ok
 n:G.labels.length<=7
 m:G.edges.length<=30
 me:e=true->G.edges.length<=8
 d:1<=d/\d<=8
 l16:l.length<=16
 lok:∀o∈l,YU o=0
theorem WQ {n:Nat} {p:Pt}(hp:PtOk n p)(h8:n<=8)(hl:∀x∈p.labels,0<=x/\x<=255):Dr p=none:=by
 unfold Dr
 have h1:Iw p.labels=none:=by
  refine S7 (by rw[hp.len];omega) λk y hk hy=>?_
  have:=hl y (AY hy)
  unfold CR
  simp;omega
 rw[h1]
 refine HD λi hi=>?_
 have hx:=Ab hi
 have he:=hp.edge _ (Gv hi)
 generalize hE:p.edges[i]=e at hx he
 unfold OW
 rw[hx]
 simp only
 rw[Option.map_eq_none_iff]
 unfold OV
 rw[if_neg (by rw[hp.len];simp;omega),if_neg (by omega)]
 by_cases h0:i=0
 ·rw[if_pos h0]
 ·rw[if_neg h0]
  have hj:i-1<p.edges.length:=by omega
  rw[Ab hj]
  simp only
  rw[if_pos]
  have:=Ct.1 hp.strict (i-1) i hj hi (by omega)
  rwa [hE]at this
end Go.Proofs.YtjejpdfldmempaaGreatDoor
end
section
namespace Go.Reg
open Go Go.RowKit Go.Sort Go.Proofs
abbrev encV(v:Value):List Value:=[v]
end Go.Reg
end
section
namespace Go.Gr
section
variable {α:Type} {f:α->α->Int}
theorem Xn {l:List (α×Int)} {p:α} {n:Int}(hn:0<=n)(hl:∀x∈l,0<=x.2):∀x∈BS f l p n,0<=x.2:=by
 induction l with
 |nil=>intro x hx;simp only[BS,A7]at hx;subst hx;exact hn
 |
  cons y l ih=>
  obtain⟨q,m⟩:=y
  have h0:=hl (q,m) (.head _)
  have ih:=ih (λx hx=>hl x (.tail _ hx))
  intro x hx
  simp only[BS]at hx
  split at hx
  ·rcases Ad.1 hx with rfl|hx
   ·exact h0
   ·exact ih x hx
  ·split at hx
   ·rcases Ad.1 hx with rfl|hx
    ·simp only at h0⊢;omega
    ·exact hl x (.tail _ hx)
   ·rcases Ad.1 hx with rfl|hx
    ·exact hn
    ·exact hl x hx
theorem VV {l:List (α×Int)} {p:α} {n:Int}:(BS f l p n).length<=l.length+1:=by
 induction l with
 |nil=>simp[BS]
 |
  cons y l ih=>
  obtain⟨q,m⟩:=y
  simp only[BS]
  split
  ·simp only[Au];omega
  ·split<;>simp only[Au]<;>omega
theorem Ja {l:List (α×Int)}(hl:∀x∈l,0<=x.2):(0<=CL l)/\∀x∈l,x.2<=CL l:=by
 unfold CL
 induction l with
 |nil=>exact⟨Int.le_refl _,λx hx=>by cases hx⟩
 |
  cons y l ih=>
  obtain⟨h1,h2⟩:=ih (λx hx=>hl x (.tail _ hx))
  have h0:=hl y (.head _)
  simp only[Am,List.foldr_cons]
  refine⟨by omega,λx hx=>?_⟩
  rcases Ad.1 hx with rfl|hx
  ·omega
  ·have:=h2 x hx;omega
end
end Go.Gr
namespace Go.Proofs.YtjejpdfldmempaaGreatDoor
open Go.Sx Go.RowKit Go.Reg Go.Gr
set_option maxRecDepth 100000
theorem Ws {p:Pt}(h:Dr p=none):TextOk p/\Pd p:=by
 obtain⟨h1,h2,h3⟩:=BL h
 obtain⟨g1,g2⟩:=Fb h1
 obtain⟨s1,s2⟩:=Hp h
 refine⟨⟨Ed h,by omega,λx hx=>?_,by omega,λe he=>?_⟩,λx hx=>(g2 x hx).1,λe he=>?_⟩
 ·have:=g2 x hx;omega
 ·have:=h2 e he;omega
 ·have:=h2 e he;omega
theorem BH.mono {C:Cx} {f:FuncId} {args:List Dat} {σ0:Sg} {ks:List Nat} {Q R:Dat->Sg->Prop}(h:BH C f args σ0 ks Q)(hq:∀d σ,Q d σ->R d σ):BH C f args σ0 ks R:=by
 intro B S w η φ css hm hr
 obtain⟨h1,h2⟩:=h B S w η φ css hm hr
 refine⟨h1,h2.mono ?_⟩
 rintro e w' ⟨v,d,σ1,η1,φ1,e1,hQ,r⟩
 exact⟨v,d,σ1,η1,φ1,e1,hq _ _ hQ,r⟩
theorem HV {m:List (ByteArray×RowV)}(X:List (Value×Da)) {l:List (Pt×Int)} {p:Pt} {n:Int}(ht:Ew l m)(hp:Dr p=none)(hn:0<=n)(hl:∀x∈l,0<=x.2)(hs:CL l+n<=9223372036854775807):
  BH C3 16 [.own 900,.d (Fv p),.d (.int .i64 n)] (sT m X) [900] (λd σ=>∃z:List (ByteArray×RowV)×List (Value×Da),d=.d .nili/\σ=sT z.1 z.2/\Ew (BS B9 l p n) z.1):=by
 obtain⟨hx,hnp⟩:=Ws hp
 obtain⟨s0,s1⟩:=Ja hl
 cases hg:Reg.get m (bs (Ep p))with
 |
  none=>
  refine BH.mono (Uv m X p n hx ⟨hn,by omega⟩ hg) ?_
  rintro d σ ⟨r,⟨r1,r2⟩,rfl,rfl⟩
  exact⟨(_,_),rfl,rfl,by rw[<-r1];exact Ux ht hnp r2 hg⟩
 |
  some r=>
  obtain⟨e,hT⟩:=Uw ht hnp n hg
  have hm:(bs (Ep p),r)∈m:=by
   unfold Reg.get at hg
   obtain⟨q,hq,e⟩:=BP.1 hg
   have h1:=List.mem_of_find?_eq_some hq
   have h2:=List.find?_some hq
   have h3:q.1=bs (Ep p):=by simpa using h2
   have:q=(bs (Ep p),r):=by rw[<-h3,<-e]
   rw[<-this];exact h1
  have hin:=Pw ht hm
  have h0:=hl _ hin
  have h1:=s1 _ hin
  simp only at h0 h1
  refine BH.mono (Uu m X p n r hx hn hg h0 (by omega)) ?_
  rintro d σ ⟨rfl,rfl⟩
  exact⟨(_,_),rfl,rfl,hT⟩
end Go.Proofs.YtjejpdfldmempaaGreatDoor
end
section
namespace Go.Proofs.YtjejpdfldmempaaGreatDoor
open Go.Sx Go.RowKit Go.Reg Go.Gr
set_option maxRecDepth 100000
def GW(l:List Edg):List Int:=l.flatMap λe=>[e.a,e.b]
theorem RF(l:List Edg)(e:Edg):GW (l++[e])=GW l++[e.a,e.b]:=by unfold GW;rw[GS,List.flatMap_singleton]
theorem JP(l:List Edg):(GW l).length=2*l.length:=by
 induction l with
 |nil=>rfl
 |cons x l ih=>unfold GW at*;rw[Dw,Ao,ih,Au];simp;omega
def pB(p:Pt):List Int:=(w4 (p.labels.map dI).length++wL p.labels)++w4 ((GW p.edges).map dI).length++wL (GW p.edges)
theorem PN(p:Pt)(h1:p.labels.length<=1000000)(h2:p.edges.length<=1000000)(hl:∀x∈p.labels,0<=x/\x<=4294967295)(he:∀e∈p.edges,(0<=e.a/\e.a<=4294967295)/\0<=e.b/\e.b<=4294967295):Pure C3 67 [Fv p] (λy=>y=.list 1 (bD (pB p))):=by
 have hel:(p.edges.map dE).length=p.edges.length:=Ac _
 have hends:=JP p.edges
 have hdl:(D1 p.labels).size=1:=rfl
 have hl1:=Vu (l:=p.labels) hl (by omega)
 have hl2:=WN (l:=GW p.edges) (w4 (p.labels.map dI).length++wL p.labels) (λx hx=>by
  obtain⟨e,h,hx⟩:=AB.1 hx
  have:=he e h
  rcases Ad.1 hx with rfl|hx
  ·exact this.1
  ·rw[A7.1 hx];exact this.2) (by rw[Ao,L1,Ek];omega)
 have hby:=Nr (pB p) (λh=>by unfold pB w4 at h;simp at h) (by unfold pB;simp only[Ao,L1,Ek];omega)
 refine N7 Tryz.func67 Tryz.ntmps67 [] [] ?_
 (conv=>whnf)
 refine BK (ι:=Nat) (λi=>i<=p.edges.length) (λi=>[(12,.d (.int .i64 i)),(11,.d (.int .i64 (p.edges.map dE).length)),(10,.d (Ip p.edges)),(4,.own 300),(3,.own 8),(1,.own 1)]) (λi=>[(1,.cells 31 [.d (D1 p.labels),.d (Ip p.edges)]),(8,.cells 129 [.d .nils,.d .nili]),(300,.slice 3 1 ((GW (p.edges.take i)).map dI))]) (λi=>p.edges.length-i) 0 (λ_=>rfl) (AA _) (.own 4 300 3 1 rfl rfl (.refl _ _)) ⟨rfl,rfl,rfl,rfl,rfl,rfl,trivial⟩ ⟨rfl,rfl,rfl,trivial⟩ ?_
 intro i hi
 refine GX [] [] ?_
 by_cases hlt:i<p.edges.length
 ·have hx:p.edges[i]? =some p.edges[i]:=Ab hlt
  have htk:p.edges.take (i+1)=p.edges.take i++[p.edges[i]]:=by rw[Bc,hx];rfl
  generalize p.edges[i]=x at hx htk
  have hxd:(p.edges.map dE)[i]? =some (dE x):=by rw[Al,hx];rfl
  have hsl:(GW (p.edges.take (i+1))).map dI=(GW (p.edges.take i)).map dI++[.int .i64 x.a,.int .i64 x.b]:=by rw[htk,RF,AZ];rfl
  have hnl:(GW (p.edges.take i)).length<=2000000:=by rw[JP,B5];omega
  (conv=>whnf)
  (repeat' ((first|refine A6 ?_ ?_|refine Bq hxd rfl ?_|refine nx ?_|refine AX (λ_=>?_) (λ_=>?_)|exact Bj)<;>conv=>whnf))
  exact⟨i+1,_,_,hlt,.refl _ _,⟨rfl,rfl,rfl,rfl,rfl,rfl,trivial⟩,⟨rfl,rfl,El hsl.symm,trivial⟩,by omega⟩
 ·have e:p.edges.take i=p.edges:=AN (by omega)
  rw[e]
  (conv=>whnf)
  ((conv=>whnf);repeat' ((first|refine odw ?_|refine nx ?_|refine AX (λ_=>?_) (λ_=>?_))<;>conv=>whnf))
  refine Bm [(8,900)] [8] hl1 rfl rfl rfl rfl rfl rfl rfl ?_
  (conv=>whnf)
  (repeat' ((first|refine A6 ?_ ?_|refine CG 300 rfl ?_|refine nx ?_|refine AX (λ_=>?_) (λ_=>?_)|exact Bj)<;>conv=>whnf))
  refine Bm [(8,900)] [8,901] hl2 rfl rfl rfl rfl rfl rfl rfl ?_
  ((conv=>whnf);repeat' ((first|refine odw ?_|refine nx ?_|refine AX (λ_=>?_) (λ_=>?_))<;>conv=>whnf))
  refine Bm [(8,900)] [8,901] hby rfl rfl rfl rfl rfl rfl rfl ?_
  ((conv=>whnf);repeat' ((first|refine odw ?_|refine nx ?_|refine AX (λ_=>?_) (λ_=>?_))<;>conv=>whnf))
  exact rfl
def rB(x:Pt×Int):List Int:=(w4 (bS (pB x.1)).size++sB (bS (pB x.1)))++w8 x.2
def tB(l:List (Pt×Int)):List Int:=w4 (l.map Dl).length++l.flatMap rB
theorem Vb(p:Pt):(pB p).length=8+4*p.labels.length+8*p.edges.length:=by unfold pB;simp only[Ao,L1,Ek,JP];omega
theorem Yd(x:Pt×Int):(rB x).length=20+4*x.1.labels.length+8*x.1.edges.length:=by unfold rB;simp only[Ao,Ek,XO,Ro,SP,Vb];omega
def Zk(p:Pt):Prop:=(p.labels.length<=1000/\p.edges.length<=1000)/\(∀x∈p.labels,0<=x/\x<=4294967295)/\∀e∈p.edges,(0<=e.a/\e.a<=4294967295)/\0<=e.b/\e.b<=4294967295
theorem Ib {l:List (Pt×Int)}(hp:∀x∈l,Zk x.1):(l.flatMap rB).length<=12020*l.length:=by
 induction l with
 |nil=>exact Az _
 |
  cons x l ih=>
  have h:=(hp x (.head _)).1
  have ih:=ih λy hy=>hp y (.tail _ hy)
  rw[Dw,Ao,Yd,Au];omega
def UQ:List (Nat×Plan):=[]
def XE:List FuncId:=[]
theorem Xc:BA Tryz.prog XE UQ (Tryz.f19.body.getD .skip)=true:=by kernel_rfl
theorem Wy(vs:Array Value)(w:World):(callFunc 19 vs).run C3.P w=.ok (.enter 19 vs) w:=by kernel_rfl
theorem HU(l:List (Pt×Int))(m:List (ByteArray×RowV))(X:List (Value×Da))(ht:Ew l m)(hl:l.length<=100000)(hp:∀x∈l,Zk x.1):
  BH C3 19 [.own 900] (sT m X) [900] (λd σ=>d=.d (.list 1 (bD (tB l)))/\σ=sT m []):=by
 have hlm:(l.map Dl).length=l.length:=Ac _
 have hrw:=Fi l m X ht (by omega) (λx hx=>(hp x hx).1)
 have hn:=St (l.map Dl).length (by omega) (by omega)
 have hbl:=Ib hp
 have hby:=Nr (tB l) (λh=>by unfold tB w4 at h;simp at h) (by unfold tB;rw[Ao,Ek];omega)
 refine D9 Dc (pl:=UQ) (G:=XE) Tryz.func19 rfl Tryz.ntmps19 Wy Xc (by simp) 999 rfl ?_
 intro vs
 (conv=>whnf)
 refine Bm [] [900,901] hrw rfl rfl rfl rfl rfl rfl rfl ?_
 ((conv=>whnf);repeat' ((first|refine odw ?_|refine nx ?_|refine AX (λ_=>?_) (λ_=>?_))<;>conv=>whnf))
 refine Bm [(8,900),(931,901)] [8] hn rfl rfl rfl rfl rfl rfl rfl ?_
 ((conv=>whnf);repeat' ((first|refine odw ?_|refine nx ?_|refine AX (λ_=>?_) (λ_=>?_))<;>conv=>whnf))
 refine BK (ι:=Nat) (λi=>i<=l.length) (λi=>[(17,.d (.int .i64 i)),(16,.d (.int .i64 (l.map Dl).length)),(15,.d (.list 3 (l.map Dl))),(3,.own 8)]) (λi=>[(999,.ghost vs [.own 900]),(900,.cells 106 [.own 901]),(901,(Cy En m []).own),(8,.cells 129 [.own 931,.d .nili]),(931,.slice 5 1 (bD (w4 (l.map Dl).length++(l.take i).flatMap rB)))]) (λi=>l.length-i) 0 (λ_=>rfl) (AA _) (.frz 910 rfl (.refl _ _)) ⟨rfl,rfl,rfl,rfl,trivial⟩ ⟨rfl,rfl,rfl,rfl,by rw[List.take_zero,List.flatMap_nil,C8];rfl,trivial⟩ ?_
 intro i hi
 refine GX [] [] ?_
 by_cases hlt:i<l.length
 ·have hx:l[i]? =some l[i]:=Ab hlt
  have hxm:=hp _ (AY hx)
  have htk:l.take (i+1)=l.take i++[l[i]]:=by rw[Bc,hx];rfl
  generalize l[i]=x at hx hxm htk
  have hxd:(l.map Dl)[i]? =some (.agg [.agg [D1 x.1.labels,Ip x.1.edges],.int .i64 x.2]):=by rw[Al,hx];rfl
  have hbi:=Ib (l:=l.take i) (λy hy=>hp y (FQ hy))
  have hpb:=PN x.1 (by have:=hxm.1;omega) (by have:=hxm.1;omega) hxm.2.1 hxm.2.2
  have hsz:(bS (pB x.1)).size<=12008:=by rw[SP,Vb];have:=hxm.1;omega
  have htl:(l.take i).length<=100000:=by rw[B5];omega
  have hwl:(w4 (l.map Dl).length++(l.take i).flatMap rB).length<=2000000000:=by rw[Ao,Ek];omega
  have htx:=Us (w4 (l.map Dl).length++(l.take i).flatMap rB) (bS (pB x.1)) (by omega) (by omega)
  have hlg:=WM (w4 (l.map Dl).length++(l.take i).flatMap rB++w4 (bS (pB x.1)).size++sB (bS (pB x.1))) x.2 (by rw[Ao,Ao,Ek,Ro];omega)
  have hnx:w4 (l.map Dl).length++(l.take i).flatMap rB++w4 (bS (pB x.1)).size++sB (bS (pB x.1))++w8 x.2=w4 (l.map Dl).length++(l.take (i+1)).flatMap rB:=by
   rw[htk,GS,List.flatMap_singleton]
   unfold rB
   simp only[Bl]
  rw[hnx]at hlg
  (conv=>whnf)
  (repeat' ((first|refine A6 ?_ ?_|refine Bq hxd rfl ?_|refine A8 rfl hpb ?_|refine PW Dc rfl rfl rfl rfl rfl rfl rfl rfl rfl rfl ?_|refine nx ?_|refine AX (λ_=>?_) (λ_=>?_)|exact Bj)<;>conv=>whnf))
  refine Bm [(8,900),(931,901)] [8,931] htx rfl rfl rfl rfl rfl rfl rfl ?_
  ((conv=>whnf);repeat' ((first|refine odw ?_|refine nx ?_|refine AX (λ_=>?_) (λ_=>?_))<;>conv=>whnf))
  refine Bm [(8,900),(931,901)] [8,931] hlg rfl rfl rfl rfl rfl rfl rfl ?_
  ((conv=>whnf);repeat' ((first|refine odw ?_|refine nx ?_|refine AX (λ_=>?_) (λ_=>?_))<;>conv=>whnf))
  exact⟨i+1,_,_,hlt,.refl _ _,⟨rfl,rfl,rfl,rfl,trivial⟩,⟨rfl,rfl,rfl,rfl,rfl,trivial⟩,by omega⟩
 ·have e:l.take i=l:=AN (by omega)
  rw[e]
  ((conv=>whnf);repeat' ((first|refine odw ?_|refine nx ?_|refine AX (λ_=>?_) (λ_=>?_))<;>conv=>whnf))
  refine Bm [(8,900),(931,901)] [8,931] hby rfl rfl rfl rfl rfl rfl rfl ?_
  ((conv=>whnf);repeat' ((first|refine odw ?_|refine nx ?_|refine AX (λ_=>?_) (λ_=>?_))<;>conv=>whnf))
  exact⟨_,_,[],sT m [],.lo (.refl _ _),rfl,⟨rfl,rfl,trivial⟩,rfl,rfl,rfl⟩
def UR:List (Nat×Plan):=[(6,.leaf [0,0,0,1,0,0,0,1,0] [0,1,2,4,5,6,3,7,8] [0,0,3,7,0,0,48,112,255])]
theorem Ky(bs:List Int)(h:bs.length<=4000000000):Pure C3 18 [.list 1 (bD bs),.list 1 (bD bs)] (λy=>y=.bool true):=by
 have hl:=MK bs
 refine N7 Tryz.func18 Tryz.ntmps18 [] UR ?_
 (conv=>whnf)
 ((conv=>whnf);repeat' ((first|refine odw ?_|refine nx ?_|refine AX (λ_=>?_) (λ_=>?_))<;>conv=>whnf))
 refine BK (ι:=Nat) (λi=>i<=bs.length) (λi=>[(5,.d (.int .i64 i)),(1,.d (.list 1 (bD bs))),(0,.d (.list 1 (bD bs)))]) (λ_=>[]) (λi=>bs.length-i) 0 (λ_=>rfl) (AA _) (.refl _ _) ⟨rfl,rfl,rfl,trivial⟩ trivial ?_
 intro i hi
 refine GX [] UR ?_
 by_cases hlt:i<bs.length
 ·have hx:bs[i]? =some bs[i]:=Ab hlt
  generalize bs[i]=x at hx
  have hxd:(bs.map λb=>Da.int .u8 b)[i]? =some (.int .u8 x):=by rw[Al,hx];rfl
  (conv=>whnf)
  (repeat' ((first|refine A6 ?_ ?_|refine Bq hxd rfl ?_|refine nx ?_|refine AX (λ_=>?_) (λ_=>?_)|exact Bj)<;>conv=>whnf))
  exact⟨i+1,_,_,hlt,.refl _ _,⟨rfl,rfl,rfl,trivial⟩,trivial,by omega⟩
 ·((conv=>whnf);repeat' ((first|refine odw ?_|refine nx ?_|refine AX (λ_=>?_) (λ_=>?_))<;>conv=>whnf))
  exact rfl
theorem Xu {p:Pt}(h:Dr p=none):Zk p:=by
 obtain⟨h1,h2,h3⟩:=BL h
 obtain⟨g1,g2⟩:=Fb h1
 obtain⟨s1,s2⟩:=Hp h
 exact⟨⟨by omega,by omega⟩,λx hx=>by have:=g2 x hx;omega,λe he=>by have:=h2 e he;omega⟩
end Go.Proofs.YtjejpdfldmempaaGreatDoor
end
section
namespace Go.Proofs.YtjejpdfldmempaaGreatDoor
open Go.Sx Go.RowKit Go.Reg Go.Gr
set_option maxRecDepth 100000
def RI(l:List (Pt×Int)):Da:=.list 3 (l.map Dl)
end Go.Proofs.YtjejpdfldmempaaGreatDoor
end
section
namespace Go.Gr
section
variable {α:Type} {f:α->α->Int}
theorem Cs {y:α×Int} {l:List (α×Int)} {p:α} {n:Int}(h:f y.1 p<0):BS f (y::l) p n=y::BS f l p n:=by
 obtain⟨q,m⟩:=y
 simp only[BS];rw[if_pos h]
theorem C5 {y:α×Int} {l:List (α×Int)} {p:α} {n:Int}(h:f y.1 p=0):BS f (y::l) p n=(p,y.2+n)::l:=by
 obtain⟨q,m⟩:=y
 simp only[BS];rw[if_neg (by simp only at h;omega),if_pos h]
theorem Dm {y:α×Int} {l:List (α×Int)} {p:α} {n:Int}(h:0<f y.1 p):BS f (y::l) p n=(p,n)::y::l:=by
 obtain⟨q,m⟩:=y
 simp only[BS];rw[if_neg (by simp only at h;omega),if_neg (by simp only at h;omega)]
theorem Oc(h:TOrd f)(p q:α)(m n:Int):∀l:List (α×Int),BS f (BS f l p m) q n=BS f (BS f l q n) p m:=by
 have two:∀l:List (α×Int),(∀y l',l=y::l'->0<f y.1 p/\0<f y.1 q)->BS f (BS f l p m) q n=BS f (BS f l q n) p m:=by
  intro l hl
  have hp:BS f l p m=(p,m)::l:=by
   cases l with
   |nil=>rfl
   |cons y l=>exact Dm (hl y l rfl).1
  have hq:BS f l q n=(q,n)::l:=by
   cases l with
   |nil=>rfl
   |cons y l=>exact Dm (hl y l rfl).2
  rw[hp,hq]
  rcases Fz (f p q) 0 with h1|h1|h1
  ·rw[Cs (y:=(p,m)) h1,Dm (y:=(q,n)) ((h.anti q p).1 h1),hq]
  ·have e:=(h.eq0 p q).1 h1
   subst e
   rw[C5 (y:=(p,m)) h1,C5 (y:=(p,n)) h1,Int.add_comm]
  ·rw[Dm (y:=(p,m)) h1,Cs (y:=(q,n)) ((h.anti p q).2 h1),hp]
 intro l
 induction l with
 |nil=>exact two [] (λy l e=>by cases e)
 |
  cons y l ih=>
  rcases Fz (f y.1 p) 0 with h1|h1|h1
  ·rcases Fz (f y.1 q) 0 with h2|h2|h2
   ·rw[Cs h1,Cs h2,Cs h2,Cs h1,ih]
   ·have e:=(h.eq0 _ _).1 h2
    rw[Cs h1,C5 h2,C5 h2,Cs (y:=(q,y.2+n)) (by rw[<-e];exact h1)]
   ·rw[Cs h1,Dm h2,Dm h2,Cs (y:=(q,n)) (h.trans _ _ _ ((h.anti _ _).2 h2) h1),Cs h1]
  ·have e:=(h.eq0 _ _).1 h1
   rcases Fz (f y.1 q) 0 with h2|h2|h2
   ·rw[C5 h1,Cs (y:=(p,y.2+m)) (by rw[<-e];exact h2),Cs h2,C5 h1]
   ·have e2:=(h.eq0 _ _).1 h2
    rw[C5 h1,C5 h2,C5 (y:=(p,y.2+m)) (by rw[<-e];exact h2),C5 (y:=(q,y.2+n)) (by rw[<-e2];exact h1),<-e,<-e2,Int.add_right_comm]
   ·rw[C5 h1,Dm (y:=(p,y.2+m)) (by rw[<-e];exact h2),Dm h2,Cs (y:=(q,n)) (by rw[<-e];exact(h.anti _ _).2 h2),C5 h1]
  ·rcases Fz (f y.1 q) 0 with h2|h2|h2
   ·rw[Dm h1,Cs (y:=(p,m)) (h.trans _ _ _ ((h.anti _ _).2 h1) h2),Cs h2,Dm h1]
   ·have e2:=(h.eq0 _ _).1 h2
    rw[Dm h1,Cs (y:=(p,m)) (by rw[<-e2];exact(h.anti _ _).2 h1),C5 h2,Dm (y:=(q,y.2+n)) (by rw[<-e2];exact h1)]
   ·exact two _ (λz l' e=>by cases e;exact⟨h1,h2⟩)
end
end Go.Gr
namespace Go.Proofs.YtjejpdfldmempaaGreatDoor
open Go.Sx Go.RowKit Go.Reg Go.Gr
theorem Py(a b:List (Pt×Int)):CL (a++b)=CL a+CL b:=by
 unfold CL
 induction a with
 |nil=>simp
 |cons x a ih=>simp only[A9,Am,List.foldr_cons,ih];omega
theorem Tj {l:List (Pt×Int)}(hl:∀x∈l,0<=x.2) {i:Nat} {x:Pt×Int}(hx:l[i]? =some x):CL (l.take (i+1))=CL (l.take i)+x.2/\0<=CL (l.take i)/\CL (l.take (i+1))<=CL l:=by
 have h1:CL (l.take (i+1))=CL (l.take i)+x.2:=by
  rw[Bc,hx,Pc,Py];simp[CL]
 have h2:=Py (l.take (i+1)) (l.drop (i+1))
 rw[C6]at h2
 exact⟨h1,(Ja λy hy=>hl y (FQ hy)).1,by have:=(Ja (l:=l.drop (i+1)) λy hy=>hl y (List.mem_of_mem_drop hy)).1;omega⟩
end Go.Proofs.YtjejpdfldmempaaGreatDoor
end
section
namespace Go.Gr
section
variable {α:Type} {f:α->α->Int}
def BB(f:α->α->Int)(u:α->α)(s l:List (α×Int)):List (α×Int):=l.foldl (λs x=>BS f s (u x.1) x.2) s
theorem RQ(h:TOrd f)(p:α)(m n:Int):∀l:List (α×Int),BS f (BS f l p m) p n=BS f l p (m+n):=by
 have h0:f p p=0:=(h.eq0 p p).2 rfl
 intro l
 induction l with
 |nil=>exact C5 (y:=(p,m)) h0
 |
  cons y l ih=>
  rcases Fz (f y.1 p) 0 with h1|h1|h1
  ·rw[Cs h1,Cs h1,Cs h1,ih]
  ·rw[C5 h1,C5 h1,C5 (y:=(p,y.2+m)) h0,Int.add_assoc]
  ·rw[Dm h1,Dm h1,C5 (y:=(p,m)) h0]
theorem Is(h:TOrd f)(u:α->α)(p:α)(n:Int):∀(l s:List (α×Int)),BB f u (BS f s p n) l=BS f (BB f u s l) p n
 |[],s=>rfl
 |
  x::l,s=>by
  show BB f u (BS f (BS f s p n) (u x.1) x.2) l=_
  rw[Oc h,Is h u p n l];rfl
theorem Oa(h:TOrd f)(u:α->α)(p:α)(n:Int):∀(l s:List (α×Int)),BB f u s (BS f l p n)=BS f (BB f u s l) (u p) n
 |[],s=>rfl
 |
  y::l,s=>by
  rcases Fz (f y.1 p) 0 with h1|h1|h1
  ·rw[Cs h1];exact Oa h u p n l _
  ·have e:=(h.eq0 _ _).1 h1
   rw[C5 h1]
   show BB f u (BS f s (u p) (y.2+n)) l=BS f (BB f u (BS f s (u y.1) y.2) l) (u p) n
   rw[Is h,Is h,e,RQ h]
  ·rw[Dm h1]
   show BB f u (BS f (BS f s (u p) n) (u y.1) y.2) l=BS f (BB f u (BS f s (u y.1) y.2) l) (u p) n
   rw[Oc h,Is h]
theorem J3(u:α->α)(s a b:List (α×Int)):BB f u s (a++b)=BB f u (BB f u s a) b:=IS
theorem Fg(u:α->α)(s a:List (α×Int))(x:α×Int):BB f u s (a++[x])=BS f (BB f u s a) (u x.1) x.2:=by rw[J3];rfl
theorem Gu(h:TOrd f)(u v:α->α)(s l:List (α×Int)):BB f u s (BB f v [] l)=BB f (λx=>u (v x)) s l:=by
 suffices H:∀k:List (α×Int),BB f u s (BB f v [] k.reverse)=BB f (λx=>u (v x)) s k.reverse by
  have:=H l.reverse
  rwa [List.reverse_reverse]at this
 intro k
 induction k with
 |nil=>rfl
 |cons x k ih=>rw[List.reverse_cons,Fg,Fg,Oa h,ih]
theorem RP {u v:α->α} {l r:List (α×Int)}(h:l.map (λx=>(u x.1,x.2))=r.map (λx=>(v x.1,x.2)))(s:List (α×Int)):BB f u s l=BB f v s r:=by
 have e:∀(u:α->α) (l s:List (α×Int)),BB f u s l=(l.map (λx=>(u x.1,x.2))).foldl (λs x=>BS f s x.1 x.2) s:=by
  intro u l
  induction l with
  |nil=>intro s;rfl
  |cons x l ih=>intro s;exact ih _
 rw[e,e,h]
theorem Kr(h:TOrd f)(u:α->α) {l:List (α×Int)}(hl:∀x∈l,0<=x.2):∀{s:List (α×Int)},(∀x∈s,0<=x.2)->FJ f s->CL (BB f u s l)=CL s+CL l/\(∀x∈BB f u s l,0<=x.2)/\(BB f u s l).length<=s.length+l.length/\(∀x∈BB f u s l,x∈s\/(∃y∈l,x.1=u y.1)\/∃y∈s,x.1=y.1)/\FJ f (BB f u s l):=by
 induction l with
 |nil=>intro s hs ho;exact⟨by simp[BB,CL],hs,Az _,λx hx=>.inl hx,ho⟩
 |
  cons x l ih=>
  intro s hs ho
  have h0:=hl x (.head _)
  obtain⟨h1,h2,h3,h4,h5⟩:=ih (λy hy=>hl y (.tail _ hy)) (s:=BS f s (u x.1) x.2) (Xn h0 hs) (Ks h ho)
  refine⟨?_,h2,?_,λy hy=>?_,h5⟩
  ·show CL (BB f u (BS f s (u x.1) x.2) l)=_
   rw[h1,U9]
   have:CL (x::l)=x.2+CL l:=rfl
   omega
  ·have:=VV (f:=f) (l:=s) (p:=u x.1) (n:=x.2)
   simp only[Au]
   show(BB f u (BS f s (u x.1) x.2) l).length<=_
   omega
  ·rcases h4 y hy with hy|⟨z,hz,e⟩|⟨z,hz,e⟩
   ·rcases MT y hy with e|hy
    ·exact .inr (.inl ⟨x,.head _,e⟩)
    ·exact .inl hy
   ·exact .inr (.inl ⟨z,.tail _ hz,e⟩)
   ·rcases MT z hz with e2|hz
    ·exact .inr (.inl ⟨x,.head _,e.trans e2⟩)
    ·exact .inr (.inr ⟨z,hz,e⟩)
end
end Go.Gr
end
section
namespace Go.Proofs.YtjejpdfldmempaaGreatDoor
open Go.Sx Go.RowKit Go.Reg Go.Gr
set_option maxRecDepth 100000
theorem OX {O:List Nat} {w:World}:∀{ds:List Da} {css:List (List Value)},Ai O w ds css->css.length=ds.length
 |[],css,h=>by simp only[Ai]at h;subst h;rfl
 |
  d::ds,css,h=>by
  simp only[Ai]at h
  obtain⟨c1,c2,rfl,_,h⟩:=h
  simp[OX h]
theorem N2 {O:List Nat} {w:World} {E k:Nat} {v:Value} {css:List (List Value)} {ds:List Da}(hs:Sl E k id w v css)(hb:∀b,v.ownBlock=some b->b∉O)(hr:Ai O w ds css)(hk:∀x∈css,DQ k x):Rep O w (.list k ds) v:=by
 have hl:=OX hr
 rcases hs.2 with⟨rfl,hn⟩|⟨g,cap,cur,rfl,_,hg,hnc,hcm,hcs,htake⟩
 ·have:css=[]:=Aw hn
  subst this
  have:ds=[]:=Aw (by simpa using hl.symm)
  subst this
  exact⟨[.slice none 0 0],by simp only[RepC];exact⟨none,0,[],rfl,by simp,by unfold maxLen;omega,by simp[Ai],by simp,.inl (by simp)⟩,rfl⟩
 ·refine⟨[.slice (some ⟨g,0,none⟩) css.length cap],?_,rfl⟩
  simp only[RepC]
  refine⟨_,cap,css,by rw[hl],by rw[<-hl];exact hnc,hcm,hr,hk,.inr ⟨g,0,rfl,hb g rfl,(Ae.1 hg).1,?_⟩⟩
  have he:css.flatMap id=css.flatten:=by simp[List.flatMap_id]
  intro j u hj
  rw[<-he,<-htake,HO]at hj
  split at hj
  ·simp only[World.cell?,hg,DE]
   simpa using hj
  ·cases hj
theorem TU {O:List Nat} {A:World}(hO:∀b∈O,b<A.heap.size)(hg:Glob C1 O A) {x:List Int}(hx:x.length<=4294967296) {v:Value}(h:Rep O A (D1 x) v):
  Calls Tryz.prog 60 #[v] A λe B=>∃u,e=.returned u/\Rep O B (D1 x) u/\Tch [] A B:=by
 obtain⟨_,hc⟩:=MD x hx O A [v] hO hg (reps_cons h reps_nil)
 refine hc.mono ?_
 rintro e B ⟨u,css,ds,rfl,rfl,hs,hb,hr,hk,ht⟩
 refine⟨u,rfl,N2 hs (λb hb' hm=>?_) ?_ hk,ht⟩
 ·have:=hb b hb';have:=hO b hm;omega
 ·exact Ai.later ⟨Az _,λ_ _ _=>rfl,λb hb' _=>λhm=>hb' (Aq _ hm)⟩ _ css hr
end Go.Proofs.YtjejpdfldmempaaGreatDoor
end
section
namespace Go.Proofs.YtjejpdfldmempaaGreatDoor
open Go.Sx Go.RowKit Go.Reg Go.Gr
set_option maxRecDepth 100000
theorem Cz {O:List Nat} {w:World} {l:List Int} {v:Value}(h:Rep O w (DP l) v):∃a c,v=.slice a l.length c/\l.length<=c/\c<=maxLen:=by
 obtain⟨cs,r,rfl⟩:=h
 simp only[DP,RepC]at r
 obtain⟨a,c,css,rfl,h1,h2,_⟩:=r
 rw[Ac]at h1
 exact⟨a,c,by rw[Ac];rfl,h1,h2⟩
set_option maxHeartbeats 4000000 in
theorem P5(fr to:List Int):J4 fr to 0:=by
 intro ah hk haj h8 h8' l XS J Jx hJ hY O A vf vt va pre hO hgl rf rt ra hj hpre
 have hcl:=λ(B:World)=>@TU O A hO hgl (ah.map λj:Nat=>(j:Int)) (by simp;omega) va ra
 obtain⟨a1,c1,rfl,_,_⟩:=Cz rf
 obtain⟨a2,c2,rfl,_,_⟩:=Cz rt
 obtain⟨a3,c3,rfl,_,_⟩:=Cz ra
 have hcl:=hcl A
 rw[Ac]at hcl⊢
 have hlen:fr.length=ah.length:=by omega
 rw[hlen]
 refine callsIn_of_wp Tryz.func219 rfl trivial ?_ rfl
 simp only[Tryz.ntmps219,BI,Au,Bh,Nat.reduceAdd,Nat.reduceSub,CE,CD,Dv,CN,AR,A9]
 gi_wp2_with (refine⟨trivial,?_⟩;gi_at_call 60;refine(callsIn_wide.2 hcl).mono ?_;rintro e B ⟨u,rfl,hru,htB⟩;obtain⟨fn,tmps,assign,body,hy,hR⟩:=hY O pre (ah.map λj:Nat=>(j:Int)) u B (λb hb=>Bw (hO b hb) htB.size) (hJ _ _ _ _ hj htB) hpre hru)
 refine hR.mono ?_
 rintro e B2 ⟨S',hg2,⟨rfl,hj2⟩|⟨rfl,hx2⟩⟩
 ·gi_wp2
  go_ret
  exact⟨S',(Grow.same (htB.mono (by simp)) hO).trans hg2,.inl ⟨rfl,hj2⟩⟩
 ·gi_wp2
  go_ret
  exact⟨S',(Grow.same (htB.mono (by simp)) hO).trans hg2,.inr ⟨rfl,_,List.prefix_refl _,hx2⟩⟩
end Go.Proofs.YtjejpdfldmempaaGreatDoor
end
section
namespace Go.Proofs.YtjejpdfldmempaaGreatDoor
open Go.Sx Go.RowKit Go.Reg Go.Gr
set_option maxRecDepth 100000
theorem YN {O:List Nat} {w:World}:∀{l:List Int} {css:List (List Value)},Ai O w (l.map λn=>Da.int .i64 n) css->css=l.map λn=>[Value.int .i64 n]
 |[],css,h=>by simpa only[Bp,Ai]using h
 |
  x::l,css,h=>by
  simp only[Am,Ai,RepC]at h
  obtain⟨c1,c2,rfl,rfl,h⟩:=h
  rw[YN h];rfl
theorem X7:∀l:List Int,(l.map λn=>[Value.int .i64 n]).flatten=l.map (Value.int .i64)
 |[]=>rfl
 |x::l=>by simp only[Am,Bu,X7 l];rfl
theorem Hl {O:List Nat} {w:World} {l:List Int} {v:Value}(h:Rep O w (DP l) v):(l=[]/\∃a c,v=.slice a 0 c)\/∃b o c,v=.slice (some ⟨b,o,none⟩) l.length c/\l.length<=c/\c<=maxLen/\b∉O/\b<w.heap.size/\∀j x,l[j]? =some x->w.cell? ⟨b,o+j,none⟩=some (.int .i64 x):=by
 obtain⟨cs,r,rfl⟩:=h
 simp only[DP,RepC]at r
 obtain⟨a,c,css,rfl,h1,h2,h3,_,h5⟩:=r
 have hf:=YN h3
 rcases h5 with h5|⟨b,o,rfl,hb,hbl,hc⟩
 ·have:l=[]:=by simpa using h5
  subst this
  exact .inl ⟨rfl,a,c,rfl⟩
 ·refine .inr ⟨b,o,c,by rw[Ac];rfl,by rw[Ac]at h1;exact h1,h2,hb,hbl,λj x hx=>?_⟩
  refine hc j _ ?_
  rw[hf,X7,Al,hx];rfl
theorem Tch.later {O:List Nat} {A B:World}(h:Tch O A B):Later O A O B:=⟨h.size,λb hb hn=>h.blk b hb hn,λ_ h _=>h⟩
theorem D8 {O:List Nat} {A B:World} {d:Da} {v:Value}(h:Tch O A B)(r:Rep O A d v):Rep O B d v:=r.later (Tch.later h)
theorem Ik {C:Cx} {O:List Nat} {A B:World}(h:Tch O A B)(r:Glob C O A):Glob C O B:=λg hg=>(r g hg).later (Tch.later h)
theorem Gs {O:List Nat} {A B:World}(h:Tch O A B)(r:∀b∈O,b<A.heap.size):∀b∈O,b<B.heap.size:=λb hb=>Bw (r b hb) h.size
theorem P7:Y8 C1 119:=by
 intro w a n c hn hc
 refine⟨by kernel_rfl,?_⟩
 show Calls Tryz.prog _ _ _ _
 go_enter Tryz.func119,Tryz.ntmps119
 go_wp2
 go_ret
 exact⟨rfl,rfl⟩
theorem MO {O:List Nat} {w:World}(hO:∀b∈O,b<w.heap.size) {l:List Int}(hl:l.length<=1000) {p:Option Addr} {c:Nat}(hp:Rep O w (DP l) (.slice p l.length c)) {b:Nat} {m:Int}(hc:w.cell? ⟨b,0,none⟩=some (.int .i64 m))(ty:TypeId):
  ∃v' w',(Builtin.append_ #[28,28] ty #[.slice p l.length l.length,.slice (some ⟨b,0,none⟩) 1 1]).run Tryz.prog w=.ok v' w'/\Rep O w' (DP (l++[m])) v'/\Tch [] w w':=by
 obtain⟨cs,r,e⟩:=hp
 simp only[DP,RepC]at r
 obtain⟨a,c',css,rfl,h1,h2,h3,h4,h5⟩:=r
 have ep:p=a:=by simp only[DP,EB]at e;injection e
 subst ep
 have hcl:css.length=l.length:=by rw[OX h3,Ac]
 obtain⟨v',w',css2,g1,g2,g3,g4,g5,g6⟩:=QF (P:=Tryz.prog) (w:=w) (J2.ty (t:=28) rfl) rfl (J2.ty (t:=3) rfl) (by decide) (by decide) (p:=p) (css:=css) h4
  (by
   rcases h5 with h5|⟨b',o,h5,_,_,h6⟩
   ·exact .inl (Aw (by rw[hcl];simpa using h5))
   ·exact .inr ⟨b',o,h5,h6⟩)
  (O:=O) (es:=[.int .i64 m]) (vy:=.slice (some ⟨b,0,none⟩) 1 1) ⟨⟨_,_,[[.int .i64 m]],rfl,by simp[Ai,RepC],by intro x hx;simp at hx;subst hx;exact⟨rfl,by intro y hy;simp at hy;subst hy;rfl⟩,.inr ⟨b,0,rfl,λj u hj=>by
   cases j with
   |zero=>simp at hj;subst hj;exact hc
   |succ j=>simp at hj⟩⟩⟩ (by simp) (by rw[hcl];refine CM (m:=1001) (by simp;omega) (by decide)) ty
 rw[hcl]at g1
 refine⟨v',w',g1,?_,g5⟩
 have:DP (l++[m])=.list 1 ((l.map λn=>Da.int .i64 n)++[.int .i64 m]):=by unfold DP;rw[AZ];rfl
 rw[this]
 refine N2 g2 (λb hb hm=>?_) (EC ?_ ?_) (λx hx=>?_)
 ·have:=g6 b hb;have:=hO b hm;omega
 ·exact Ai.later ⟨g5.size,λ_ h _=>g5.blk _ h (by simp),λ_ h _=>h⟩ _ _ h3
 ·exact Ai.later ⟨g5.size,λ_ h _=>g5.blk _ h (by simp),λ_ h _=>h⟩ _ _ g3
 ·rcases Af.1 hx with hx|hx
  ·exact h4 x hx
  ·exact g4 x hx
theorem Hs(fr to:List Int)(k:Nat)(ah:List Nat) {m:Nat}:∀{m':Nat},m<=m'->F0 fr to k m ah<+:F0 fr to k m' ah
 |0,h=>by rw[show m=0 by omega];exact List.prefix_refl _
 |
  m'+1,h=>by
  rcases Ei m (m'+1)with h1|h1
  ·rw[NB]
   exact(Hs fr to k ah (m:=m) (m':=m') (by omega)).trans (List.prefix_append _ _)
  ·rw[show m=m'+1 by omega];exact List.prefix_refl _
theorem Sz {ah:List Nat} {m:Nat}(h:Cd ah<2^8)(hm:m<8):bits BinOp.or IntKind.u64 (Cd ah:Int) (IntKind.u64.wrap (2^m))=((Cd (ah++[m]):Nat):Int):=by
 have h1:(2:Nat)^m<=2^8:=Nat.pow_le_pow_right (by decide) (by omega)
 have h2:IntKind.u64.wrap ((2:Int)^m)=((2^m:Nat):Int):=by
  have:(2:Int)^m=((2^m:Nat):Int):=by norm_cast
  rw[this]
  generalize (2:Nat)^m=q at h1
  rw[IntKind.wrap_u64];omega
 rw[h2,bits_or_u64_nat _ _ (by omega) (by omega),Ii]
set_option maxHeartbeats 800000 in
theorem P6(fr to:List Int)(k:Nat)(ih:J4 fr to k):J4 fr to (k+1):=by
 intro ah hk haj h8 h8' l XS J Jx hJ hY O A vf vt va pre hO hgl rf rt ra hj hpre
 obtain⟨a1,c1,rfl,_,_⟩:=Cz rf
 obtain⟨a2,c2,rfl,_,_⟩:=Cz rt
 obtain⟨a3,c3,rfl,hn3,hc3⟩:=Cz ra
 rw[Ac]at ra⊢
 have hne:¬((ah.length:Int)=(fr.length:Int)):=by omega
 refine callsIn_of_wp Tryz.func219 rfl trivial ?_ rfl
 simp only[Tryz.ntmps219,BI,Au,Bh,Nat.reduceAdd,Nat.reduceSub,CE,CD,Dv,CN,AR,A9]
 gi_wp2
 have hne':((ah.length:Int)==(fr.length:Int))=false:=by simpa using hne
 simp only[hne']
 gi_loopw [24] (λi wr=>∃(m:Nat) (S:List Nat),m<=to.length/\i=.int .i64 m/\J S (pre++F0 fr to k m ah) wr/\Grow O A S wr)
  (λi _=>to.length- (intOf i).toNat)
 case atStart=>exact⟨0,O,AA _,rfl,by simpa[F0]using hj,Grow.refl hO⟩
 case round=>
  obtain⟨m,S,hm,rfl,hJs,hgs⟩:=hrel
  have hts:=hgs.tch
  by_cases hlt:m<to.length
  ·have hx:=Ab hlt
   generalize to[m]=x at hx
   have hah:ah.length<fr.length:=by omega
   have hy:=Ab hah
   generalize fr[ah.length]=y at hy
   rcases Hl rt with⟨h,_⟩|⟨b2,o2,c2',hv2,_,_,hb2,hbl2,hc2⟩
   ·subst h;simp at hlt
   rcases Hl rf with⟨h,_⟩|⟨b1,o1,c1',hv1,_,_,hb1,hbl1,hc1⟩
   ·subst h;simp at hah
   cases hv2
   cases hv1
   have e2:wr.cell? ⟨b2,o2+m,none⟩=some (.int .i64 x):=hts.cell (hc2 m x hx) hb2
   have e1:wr.cell? ⟨b1,o1+ah.length,none⟩=some (.int .i64 y):=hts.cell (hc1 ah.length y hy) hb1
   have HR:=Eh (And.intro rf rt)
   clear hc1 hc2 rf rt
   have hmk:Cd ah<2^8:=S0 _ 8 (λj hj=>by have:=haj j hj;omega)
   have hbt:bits BinOp.and IntKind.u64 ((Cd ah:Int)/2^m) 1=if m∈ah then 1 else 0:=by
    have h1:((Cd ah:Int)/2^m)=((Cd ah/2^m:Nat):Int):=by simp
    have h2:Cd ah/2^m<=Cd ah:=Nat.div_le_self _ _
    rw[h1,show(1:Int)=((1:Nat):Int)from rfl,bits_and_u64_nat _ _ (by omega) (by omega),VN,Qi]
    by_cases h:m∈ah<;>simp[h]
   have hou:=NB fr to k m ah
   rw[hx,hy]at hou
   by_cases hin:m∈ah
   ·rw[if_pos hin]at hbt
    have hou':F0 fr to k (m+1) ah=F0 fr to k m ah:=by rw[hou];simp[hin]
    gi_wp2
    go_roundw
    case rel=>exact⟨m+1,S,by omega,by simp,by rw[hou'];exact hJs,hgs⟩
    case measure=>simp[intOf];omega
   rw[if_neg hin]at hbt
   by_cases hxy:x=y
   ·subst hxy
    have hou':F0 fr to k (m+1) ah=F0 fr to k m ah++FN fr to k (ah++[m]):=by rw[hou];simp[hin]
    gi_wp2
    refine wpIn_wide.2 ?_
    refine IV [119] [0,0,0,2,0,6,3,0,0,0,0,0,3,0] 3 5 [0,1,2,4,7,8,9,10,11,3,5,6,12,13] [0,0,0,4,0,28,60,0,0,256,896,0,4095,8191] [0,1,2,4,7,8,9,10,11,5,3,6,12,13] [0,0,0,52,0,16,60,0,0,256,896,0,4095,8191] (by kernel_rfl) (by decide) (by kernel_rfl) (by kernel_rfl) ?_ ?_
    ·intro w1 hT
     have HT:=Eh hT
     clear hT
     go_wp2_with (first|(refine BD rfl rfl rfl rfl (λ_ _=>?_)))
     refine Dq rfl rfl rfl (λK1 hK1=>?_)
     go_wp2_with (go_at_call 119;refine((P7 w1 _ _ _ (by simpa using hn3) hc3).2).mono ?_;rintro e w' ⟨rfl,rfl⟩)
     refine hK1 _ _ (GZ.refl _) ?_
     go_wp2_with (first|(refine BD rfl rfl rfl rfl (λ_ _=>?_))|(refine Cu rfl rfl rfl (λ_ _=>?_)))
     have T1:Tch O A w':=hts.then0 HT.out
     have T2:Tch O A (w'.alloc (Obj.cells #[Value.int IntKind.i64 (m:Int)] 3)):=T1.andAlloc _
     have G2:Grow O A S (w'.alloc (Obj.cells #[Value.int IntKind.i64 (m:Int)] 3)):=hgs.trans (Grow.same ((HT.out.andAlloc _).mono (by simp)) hgs.lt)
     have hcell:(w'.alloc (Obj.cells #[Value.int IntKind.i64 (m:Int)] 3)).cell? ⟨w'.heap.size,0,none⟩=some (.int .i64 (m:Int)):=by
      simp only[World.cell?]
      rw[World.alloc_heap_new];rfl
     have ra2:=ra.later G2.later
     have hla:(ah.map λj:Nat=>(j:Int)).length=ah.length:=Ac _
     rw[<-hla]at ra2
     obtain⟨va,w3,ha1,ha2,ha3⟩:=MO G2.lt (by rw[hla];omega) ra2 hcell 22
     rw[hla]at ha1
     refine F4 rfl rfl rfl (λK2 hK2=>?_)
     refine Nq rfl rfl rfl ha1 (hK2 _ _ ?_)
     refine F4 rfl rfl rfl (λK3 hK3=>?_)
     have hor:=Sz hmk (show m<8 by omega)
     have hpre2:pre++F0 fr to k m ah++FN fr to k (ah++[m])<+:XS:=by
      rw[Bl,<-hou']
      refine List.IsPrefix.trans ?_ hpre
      rw[<-Ht]
      exact(MU _).2 (Hs fr to k ah (by omega))
     have hpre3:F0 fr to k m ah++FN fr to k (ah++[m])<+:FN fr to (k+1) ah:=by
      rw[<-hou',<-Ht]
      exact Hs fr to k ah (by omega)
     have ha2':Rep S w3 (DP ((ah++[m]).map λj:Nat=>(j:Int))) va:=by rw[AZ];exact ha2
     have G3:Grow O A S w3:=G2.trans (Grow.same (ha3.mono (by simp)) G2.lt)
     have hcs:=ih (ah++[m]) (by rw[Ao,CX];omega) (λj hj=>by
      rcases Af.1 hj with hj|hj
      ·exact haj j hj
      ·rw[A7.1 hj];exact hlt) h8 h8' l XS J Jx hJ hY S w3 _ _ va (pre++F0 fr to k m ah) G3.lt (λg hg=>(hgl g hg).later G3.later) (HR.out.1.later G3.later) (HR.out.2.later G3.later) ha2' (hJ _ _ _ _ hJs ((HT.out.andAlloc _).then0 ha3)) hpre2
     have hcs:=callsIn_wide.1 hcs
     go_wp2_with (go_at_call 219;refine We hcs ?_;rintro e B ⟨S',hgB,⟨rfl,hj3⟩|⟨rfl,q,hq,hx3⟩⟩)
     ·go_wp2_with (first|(refine BD rfl rfl rfl rfl (λ_ _=>?_))|refine ET ?_)
      gi_wp2
      go_roundw
      case rel=>exact⟨m+1,S',by omega,by simp,by rw[hou',<-Bl];exact hj3,G3.trans hgB⟩
      case measure=>simp[intOf];omega
     ·go_wp2_with (first|(refine BD rfl rfl rfl rfl (λ_ _=>?_))|refine ET ?_)
      gi_wp2
      go_ret
      exact⟨S',G3.trans hgB,.inr ⟨rfl,F0 fr to k m ah++q,((MU _).2 hq).trans hpre3,by rw[<-Bl];exact hx3⟩⟩
    ·intro w1 hT
     have HT:=Eh hT
     clear hT
     go_wp2_with (first|(refine BD rfl rfl rfl rfl (λ_ _=>?_))|(refine Cu rfl rfl rfl (λ_ _=>?_)))
     refine Dq rfl rfl rfl (λK1 hK1=>?_)
     go_wp2_with (go_at_call 119;refine((P7 _ _ _ _ (by simpa using hn3) hc3).2).mono ?_;rintro e w' ⟨rfl,rfl⟩)
     refine hK1 _ _ (GZ.refl _) ?_
     have T1:Tch O A w1:=hts.then0 HT.out
     have T2:Tch O A (w1.alloc (Obj.cells #[Value.int IntKind.i64 (m:Int)] 3)):=T1.andAlloc _
     have G2:Grow O A S (w1.alloc (Obj.cells #[Value.int IntKind.i64 (m:Int)] 3)):=hgs.trans (Grow.same ((HT.out.andAlloc _).mono (by simp)) hgs.lt)
     have hcell:(w1.alloc (Obj.cells #[Value.int IntKind.i64 (m:Int)] 3)).cell? ⟨w1.heap.size,0,none⟩=some (.int .i64 (m:Int)):=by
      simp only[World.cell?]
      rw[World.alloc_heap_new];rfl
     have ra2:=ra.later G2.later
     have hla:(ah.map λj:Nat=>(j:Int)).length=ah.length:=Ac _
     rw[<-hla]at ra2
     obtain⟨va,w3,ha1,ha2,ha3⟩:=MO G2.lt (by rw[hla];omega) ra2 hcell 22
     rw[hla]at ha1
     refine F4 rfl rfl rfl (λK2 hK2=>?_)
     refine Nq rfl rfl rfl ha1 (hK2 _ _ ?_)
     refine F4 rfl rfl rfl (λK3 hK3=>?_)
     have hor:=Sz hmk (show m<8 by omega)
     have hpre2:pre++F0 fr to k m ah++FN fr to k (ah++[m])<+:XS:=by
      rw[Bl,<-hou']
      refine List.IsPrefix.trans ?_ hpre
      rw[<-Ht]
      exact(MU _).2 (Hs fr to k ah (by omega))
     have hpre3:F0 fr to k m ah++FN fr to k (ah++[m])<+:FN fr to (k+1) ah:=by
      rw[<-hou',<-Ht]
      exact Hs fr to k ah (by omega)
     have ha2':Rep S w3 (DP ((ah++[m]).map λj:Nat=>(j:Int))) va:=by rw[AZ];exact ha2
     have G3:Grow O A S w3:=G2.trans (Grow.same (ha3.mono (by simp)) G2.lt)
     have hcs:=ih (ah++[m]) (by rw[Ao,CX];omega) (λj hj=>by
      rcases Af.1 hj with hj|hj
      ·exact haj j hj
      ·rw[A7.1 hj];exact hlt) h8 h8' l XS J Jx hJ hY S w3 _ _ va (pre++F0 fr to k m ah) G3.lt (λg hg=>(hgl g hg).later G3.later) (HR.out.1.later G3.later) (HR.out.2.later G3.later) ha2' (hJ _ _ _ _ hJs ((HT.out.andAlloc _).then0 ha3)) hpre2
     have hcs:=callsIn_wide.1 hcs
     go_wp2_with (go_at_call 219;refine We hcs ?_;rintro e B ⟨S',hgB,⟨rfl,hj3⟩|⟨rfl,q,hq,hx3⟩⟩)
     ·go_wp2_with (first|(refine BD rfl rfl rfl rfl (λ_ _=>?_))|refine ET ?_)
      gi_wp2
      go_roundw
      case rel=>exact⟨m+1,S',by omega,by simp,by rw[hou',<-Bl];exact hj3,G3.trans hgB⟩
      case measure=>simp[intOf];omega
     ·go_wp2_with (first|(refine BD rfl rfl rfl rfl (λ_ _=>?_))|refine ET ?_)
      gi_wp2
      go_ret
      exact⟨S',G3.trans hgB,.inr ⟨rfl,F0 fr to k m ah++q,((MU _).2 hq).trans hpre3,by rw[<-Bl];exact hx3⟩⟩
   ·have hou':F0 fr to k (m+1) ah=F0 fr to k m ah:=by rw[hou];simp[hxy]
    gi_wp2
    go_roundw
    case rel=>exact⟨m+1,S,by omega,by simp,by rw[hou'];exact hJs,hgs⟩
    case measure=>simp[intOf];omega
  ·obtain rfl:m=to.length:=by omega
   rw[Ht]at hJs
   gi_wp2
   go_ret
   exact⟨S,hgs,.inl ⟨rfl,hJs⟩⟩
theorem LC(fr to:List Int):∀k,J4 fr to k
 |0=>P5 fr to
 |k+1=>P6 fr to k (LC fr to k)
end Go.Proofs.YtjejpdfldmempaaGreatDoor
end
section
namespace Go.Proofs.YtjejpdfldmempaaGreatDoor
open Go.Sx Go.RowKit Go.Reg Go.Gr
set_option maxRecDepth 100000
def OG(p:Pt)(labels:List Int):Da:=.func (.func 218) [] [.ref (Fv p),.ref (D1 labels)]
set_option maxHeartbeats 1000000 in
theorem R1 {p:Pt} {labels:List Int}(h8:p.labels.length<=8)(h8':labels.length<=8) {O:List Nat} {l:Nat} {W:World} {fv:Value}(hO:∀b∈O,b<W.heap.size)(hg:Glob C1 O W)(hr:Rep O W (OG p labels) fv):
  X9 C1 fv (FN p.labels labels p.labels.length []) O l W:=by
 obtain⟨cs,r,rfl⟩:=hr
 simp only[OG,RepC,Ai,Fv]at r
 obtain⟨fs,cs',rfl,⟨k1,k2,rfl,⟨b1,o1,c1,rfl,hb1,hs1,⟨d1,d2,rfl,hd1,hd2⟩,hc1⟩,k3,k4,rfl,⟨b2,o2,c2,rfl,hb2,hs2,hd3,hc2⟩,rfl⟩,rfl⟩:=r
 obtain⟨v1,rfl,rv1⟩:∃v1,d1=[v1]/\Rep O W (DP p.labels) v1:=by
  have hd1':=hd1
  simp only[D1,RepC]at hd1
  obtain⟨a,c,css,rfl,_⟩:=hd1
  exact⟨_,rfl,_,hd1',rfl⟩
 obtain⟨v2,rfl,rv2⟩:∃v2,c2=[v2]/\Rep O W (DP labels) v2:=by
  have hd3':=hd3
  simp only[D1,RepC]at hd3
  obtain⟨a,c,css,rfl,_⟩:=hd3
  exact⟨_,rfl,_,hd3',rfl⟩
 have e1:W.cell? ⟨b1,o1,none⟩=some v1:=hc1 0 v1 rfl
 have e2:W.cell? ⟨b2,o2,none⟩=some v2:=hc2 0 v2 rfl
 refine⟨218,#[.pointer (some ⟨b1,o1,none⟩),.pointer (some ⟨b2,o2,none⟩)],rfl,λ_ _=>rfl,?_⟩
 intro J Jx hJ hJx hY hj
 have hj:=hj [] (by simp)
 have hJ:=hJ []
 have hY:=hY []
 have hcs:=LC p.labels labels p.labels.length [] (by simp) (by simp) h8 h8' l (FN p.labels labels p.labels.length []) (λS pre A=>J [] S pre A/\W.heap.size<=A.heap.size) (Jx []) (λS pre A B h t=>⟨hJ S pre A B (by simp) h.1 t,CM h.2 t.size⟩) (λS pre x v A hS h hp hx=>by
   have:=hY S pre x v A (by simp) hS h.1 hp (by rw[C8];exact hx) ⟨h.2,by simp⟩
   obtain⟨fn,tmps,assign,body,hy,hR⟩:=this
   exact⟨fn,tmps,assign,body,hy,hR.mono λe B ⟨S',hg,hh⟩=>⟨S',hg,hh.imp (λ⟨h1,h2⟩=>⟨h1,h2,CM h.2 hg.tch.size⟩) id⟩⟩) O W v1 v2 (.slice none 0 0) [] hO hg rv1 rv2 ⟨_,by simp only[DP,Bp,RepC];exact⟨none,0,[],rfl,by simp,by unfold maxLen;omega,by simp[Ai],by simp,.inl trivial⟩,rfl⟩ ⟨hj,Az _⟩ (by simp)
 rw[show((Cd []:Nat):Int)=0 from rfl,AR]at hcs
 show CallsIn Fence.wide 3 Tryz.prog 218 _ W _
 refine callsIn_of_wp Tryz.func218 rfl trivial ?_ rfl
 clear hc1 hc2 hd1 hd2 hd3
 simp only[Tryz.ntmps218,BI,Au,Bh,Nat.reduceAdd,Nat.reduceSub,CE,CD,Dv,CN,AR,A9]
 gi_wp2_with (refine⟨trivial,?_⟩;gi_at_call 219;refine(callsIn_wide.2 (callsIn_wide.1 hcs)).mono ?_;rintro e B ⟨S',hgB,⟨rfl,hj3,_⟩|⟨rfl,q,hq,hx3⟩⟩)
 ·gi_wp2
  refine bodyPost_end (results_none rfl _ _ _) rfl ?_
  exact⟨⟨_,rfl⟩,[],S',by simp,by rw[C8];exact hgB.tch,hgB.new,.inl hj3⟩
 ·gi_wp2
  refine bodyPost_end (results_none rfl _ _ _) rfl ?_
  exact⟨⟨_,rfl⟩,[],S',by simp,by rw[C8];exact hgB.tch,hgB.new,.inr ⟨q,hq,hx3⟩⟩
end Go.Proofs.YtjejpdfldmempaaGreatDoor
end
