/- Merged: Rtx Ral Rtu Rdx Rtp Rtk. -/
import Derived.Test.YtjpmmkodoeipmaaGreatDoorrtba
import Derived.Test.YtjpmmkodoeipmaaGreatDoorrtax
import Derived.Test.YtjpmmkodoeipmaaGreatDoorrtar
import Derived.Test.YtjpmmkodoeipmaaGreatDoorrtay
import Derived.Test.YtjpmmkodoeipmaaGreatDoorrtak
import Derived.Test.YtjpmmkodoeipmaaGreatDoorCards
import Derived.Test.YtjpmmkodoeipmaaGreatDoorTie
import Derived.WalkKit
import Derived.ProofKit
import Derived.OpenShut
import Derived.ChangeMaps5
import Derived.ChangeSame
import Derived.SizedLaws
import Derived.Deep.DeepHandedRow
import Derived.Lib.LaidTab
import Derived.LaidHandle
import Derived.Carry
import Derived.Stop.LaidErr
import Derived.Test.YtjpmmkodoeipmaaGreatDoorRows
import Derived.JoinedCond
section
namespace Go.Sx
open Go Go.RowKit Go.Reg
theorem Ly {C:Cx} {fr:Fr} {σ:Sg} {f:FuncId} {i:Nat} {args:List Dat} {xs:List Da} {r:Absn} {z:Da} {r0:Absn} {K:KD}(hg:BJ i σ=some r.own)(ha:EU args=some xs)(hp:Th C f r xs (λy r'=>y=z/\r'=r0))(hK:Ch (AX id i r0.own σ) λσ=>K (.d z) fr σ):Ci C false f (.own i::args) K fr σ:=
 tY hg ha hp λy r' h=>by obtain⟨rfl,rfl⟩:=h;exact hK
end Go.Sx
namespace Go.Proofs.YtjpmmkodoeipmaaGreatDoor
open Go.Sx Go.RowKit Go.Reg Go.Gr
set_option maxRecDepth 100000
theorem lD {a b:List UInt8}(h:a=b):some (bld a).own=some (bld b).own:=by rw[h]
theorem sD {n:Int}(h0:0<=n)(h1:n<=999999):(Lib.itoa n).length<=6:=Gb h0 h1
theorem xT {p:Pt}(h:Dk p=none):(DW p).length<=2000:=by
 obtain⟨⟨_,x1,x2,x3,x4⟩,_⟩:=Nv h
 have h8:=(CQ (BK h).1).1
 have h64:=Kk h
 have l1:=Jm (m:=6) [44] (p.labels.map Lib.itoa) (λx hx=>by
  obtain⟨y,hy,rfl⟩:=An.1 hx
  exact Gb (x2 y hy).1 (x2 y hy).2)
 have l2:=Jm (m:=13) [44] (p.edges.map JO) (λx hx=>by
  obtain⟨y,hy,rfl⟩:=An.1 hx
  have:=x4 y hy
  have h1:=Gb this.1.1 this.1.2
  have h2:=Gb this.2.1 this.2.2
  unfold JO
  rw[Ah,Ax];omega)
 rw[Ac,B8]at l1 l2
 unfold DW
 rw[Ah,Ax];omega
theorem WW {x:Pt×Int}(h:Dk x.1=none)(h0:0<=x.2)(h1:x.2<=999999):(Jl x).length<=2010:=by
 unfold Jl
 have:=xT h
 have:=sD h0 h1
 simp only[Ah,Ax,Br];omega
theorem OR:∀A:List (Pt×Int),(∀x∈A,Dk x.1=none/\0<=x.2/\x.2<=999999)->(A.flatMap Jl).length<=2010*A.length
 |[],_=>Am _
 |
  x::A,h=>by
  obtain⟨h1,h2,h3⟩:=h x (.head _)
  have:=WW h1 h2 h3
  have:=OR A λy hy=>h y (.tail _ hy)
  rw[BE,Ah,Ax];omega
theorem Zl {s:List Int}(h:s.length<=100/\∀v∈s,0<=v/\v<=999999):(P7 s).length<=701:=by
 have l1:=Jm (m:=6) [32] (s.map Lib.itoa) (λx hx=>by
  obtain⟨y,hy,rfl⟩:=An.1 hx
  exact Gb (h.2 y hy).1 (h.2 y hy).2)
 rw[Ac,B8]at l1
 unfold P7
 rw[Ah,B8];omega
theorem QV:∀S:List (List Int),(∀s∈S,s.length<=100/\∀v∈s,0<=v/\v<=999999)->(S.flatMap P7).length<=701*S.length
 |[],_=>Am _
 |
  s::S,h=>by
  have:=Zl (h s (.head _))
  have:=QV S λy hy=>h y (.tail _ hy)
  rw[BE,Ah,Ax];omega
def XR:List (Nat×Plan):=[(5,.leaf [0,1,2,0,0,1,2,0,0,3] [0,4,1,5,2,3,6,7,8,9] [0,1,3,7,0,16,55,127,255,511])]
def oK:List FuncId:=[41,42,43,44]
set_option maxHeartbeats 4000000 in
theorem Ua(k:Int)(A:List (Pt×Int))(S:List (List Int))(hA:∀x∈A,Dk x.1=none/\0<=x.2/\x.2<=999999)(hm:A.length<=100000)(hS:∀s∈S,s.length<=100/\∀v∈s,0<=v/\v<=999999)(hm2:S.length<=100000):Pure C3 14 [tI k A S] (λy=>y=.str (bs (VZ A S))):=by
 have hdA:(A.map Dp).length=A.length:=Ac _
 have hdS:(S.map Bh).length=S.length:=Ac _
 refine On Tryz.func14 Tryz.ntmps14 oK XR ?_
 ((conv=>whnf);repeat' ((first|refine odw ?_|refine nx ?_|refine AB (λ_=>?_) (λ_=>?_))<;>conv=>whnf))
 refine tT 3 (bld []) rfl (λ_ _ _ _ _ _=>AC3) ?_
 (conv=>whnf)
 refine AQ (ι:=Nat) (λi=>i<=A.length) (λi=>[(14,.d (.int .i64 i)),(13,.d (.int .i64 (A.map Dp).length)),(12,.d (.list 3 (A.map Dp))),(3,.own 3),(1,.own 1)]) (λi=>[(1,.cells 48 [.d (.int .i64 k),.d (.list 3 (A.map Dp)),.d (.list 1 (S.map Bh))]),(3,(bld ((A.take i).flatMap Jl)).own)]) (λi=>A.length-i) 0 (λ_=>rfl) (Am _) (.refl _ _) ⟨rfl,rfl,rfl,rfl,rfl,trivial⟩ ⟨rfl,rfl,trivial⟩ ?_
 intro i hi
 refine GZ oK XR ?_
 by_cases hil:i<A.length
 ·have hx:=Ab hil
  have htk:(A.take (i+1)).flatMap Jl=(A.take i).flatMap Jl++Jl A[i]:=by rw[Au,hx,AS,Cy,AAK]
  have hxm:=hA _ (A6 hx)
  have hbl:=OR (A.take i) (λx hx=>hA x (DO hx))
  rw[A8]at hbl
  generalize A[i]=x at hx htk hxm
  obtain⟨hp,hn0,hn1⟩:=hxm
  have hll:=WW hp hn0 hn1
  have hxd:(A.map Dp)[i]? =some (.agg [.agg [Bh x.1.labels,ET x.1.edges],.int .i64 x.2]):=by rw[Ad,hx];rfl
  obtain⟨⟨_,x1,x2,x3,x4⟩,_⟩:=Nv hp
  have htx:=Lc _ x1 x2 x3 x4
  have hfm:=zV x.2 (by omega) (by omega)
  have el:bs (Lib.itoa x.2)++bs [32]++bs (DW x.1)++bs [10]=bs (Jl x):=by
   rw[HS,HS,HS];unfold Jl;simp
  have hw:=YN ((A.take i).flatMap Jl) (Jl x) (by omega)
  rw[<-el]at hw
  unfold Jl at hll
  simp only[Ah,Ax,Br]at hll
  have c1:(bs (Lib.itoa x.2)).size+(bs [32]).size<=9223372036854775807:=by rw[Ek,Ek];simp only[Ax,Br];omega
  have c2:(bs (Lib.itoa x.2)++bs [32]).size+(bs (DW x.1)).size<=9223372036854775807:=by rw[HS,Ek,Ek];simp only[Ah,Ax,Br];omega
  have c3:(bs (Lib.itoa x.2)++bs [32]++bs (DW x.1)).size+(bs [10]).size<=9223372036854775807:=by rw[HS,HS,Ek,Ek];simp only[Ah,Ax,Br];omega
  (conv=>whnf)
  (repeat' ((first|refine Aj ?_ ?_|refine AO hxd rfl ?_|refine Af rfl hfm ?_|refine Af rfl htx ?_|refine Ni c1 ?_|refine Ni c2 ?_|refine Ni c3 ?_|refine Ly rfl rfl hw ?_|refine nx ?_|refine AB (λ_=>?_) (λ_=>?_)|exact AE)<;>conv=>whnf))
  exact⟨i+1,_,_,hil,.refl _ _,⟨rfl,rfl,rfl,rfl,rfl,trivial⟩,⟨rfl,lD htk.symm,trivial⟩,by omega⟩
 ·rw[Ak (show A.length<=i by omega)]
  ((conv=>whnf);repeat' ((first|refine odw ?_|refine nx ?_|refine AB (λ_=>?_) (λ_=>?_))<;>conv=>whnf))
  obtain⟨TA,hTA⟩:∃TA,A.flatMap Jl=TA:=⟨_,rfl⟩
  have hTl:TA.length<=201000000:=by
   have:=OR A hA
   rw[hTA]at this
   omega
  have htr:VZ A S=TA++S.flatMap P7:=by unfold VZ;rw[hTA]
  rw[hTA,htr]
  refine AQ (ι:=Nat) (λi=>i<=S.length) (λi=>[(32,.d (.int .i64 i)),(31,.d (.int .i64 (S.map Bh).length)),(30,.d (.list 1 (S.map Bh))),(3,.own 3)]) (λi=>[(3,(bld (TA++(S.take i).flatMap P7)).own)]) (λi=>S.length-i) 0 (λ_=>rfl) (Am _) (.refl _ _) ⟨rfl,rfl,rfl,rfl,trivial⟩ ⟨lD (by simp),trivial⟩ ?_
  intro j hj
  refine GZ oK XR ?_
  by_cases hjl:j<S.length
  ·have hy:=Ab hjl
   have htk:(S.take (j+1)).flatMap P7=(S.take j).flatMap P7++P7 S[j]:=by rw[Au,hy,AS,Cy,AAK]
   have hsm:=hS _ (A6 hy)
   have hsl:=QV (S.take j) (λx hx=>hS x (DO hx))
   rw[A8]at hsl
   generalize S[j]=s at hy htk hsm
   have hyd:(S.map Bh)[j]? =some (Bh s):=by rw[Ad,hy];rfl
   have hds:(s.map dI).length=s.length:=Ac _
   have hbl:=Zl hsm
   have jl:=Jm (m:=6) [32] (s.map Lib.itoa) (λx hx=>by
    obtain⟨y,hy,rfl⟩:=An.1 hx
    exact Gb (hsm.2 y hy).1 (hsm.2 y hy).2)
   rw[Ac,B8]at jl
   have hjn:=R0 C3 rfl (s.map Lib.itoa) [32] (by rw[Ac];omega) (by omega)
   have el:bs (Lib.join (s.map Lib.itoa) [32])++bs [10]=bs (P7 s):=HS _ _
   have hw:=YN (TA++(S.take j).flatMap P7) (P7 s) (by rw[Ah];omega)
   rw[<-el]at hw
   have c1:(bs (Lib.join (s.map Lib.itoa) [32])).size+(bs [10]).size<=9223372036854775807:=by rw[Ek,Ek];simp only[Ax,Br];omega
   (conv=>whnf)
   (repeat' ((first|refine Aj ?_ ?_|refine AO hyd rfl ?_|refine nx ?_|refine AB (λ_=>?_) (λ_=>?_)|exact AE)<;>conv=>whnf))
   refine AQ (ι:=Nat) (λm=>m<=s.length) (λm=>[(38,.d (.int .i64 m)),(37,.d (.int .i64 (s.map dI).length)),(36,.d (Bh s)),(8,.own 300),(32,.d (.int .i64 j)),(31,.d (.int .i64 (S.map Bh).length)),(30,.d (.list 1 (S.map Bh))),(3,.own 3)]) (λm=>[(3,(bld (TA++(S.take j).flatMap P7)).own),(300,.slice 9 1 (((s.take m).map Lib.itoa).map KS))]) (λm=>s.length-m) 0 (λ_=>rfl) (Am _) (.own 8 300 9 1 rfl rfl (.refl _ _)) ⟨rfl,rfl,rfl,rfl,rfl,rfl,rfl,rfl,trivial⟩ ⟨rfl,rfl,trivial⟩ ?_
   intro m hm3
   refine GZ oK XR ?_
   by_cases hml:m<s.length
   ·have hz:=Ab hml
    have htm:((s.take (m+1)).map Lib.itoa).map KS=((s.take m).map Lib.itoa).map KS++[KS (Lib.itoa s[m])]:=by rw[Au,hz,AS,A7,A7];rfl
    have hvm:=hsm.2 _ (A6 hz)
    generalize s[m]=v at hz htm hvm
    have hzd:(s.map dI)[m]? =some (.int .i64 v):=by rw[Ad,hz];rfl
    have hit:=Lp v (by omega) (by omega)
    have hzl:(((s.take m).map Lib.itoa).map KS).length<=100:=by rw[Ac,Ac,A8];omega
    generalize ((s.take m).map Lib.itoa).map KS=Z at htm hzl⊢
    (conv=>whnf)
    (repeat' ((first|refine Aj ?_ ?_|refine AO hzd rfl ?_|refine Af rfl hit ?_|refine nx ?_|refine AB (λ_=>?_) (λ_=>?_)|exact AE)<;>conv=>whnf))
    exact⟨m+1,_,_,hml,.refl _ _,⟨rfl,rfl,rfl,rfl,rfl,rfl,rfl,rfl,trivial⟩,⟨rfl,Bj htm.symm,trivial⟩,by omega⟩
   ·rw[Ak (show s.length<=m by omega)]
    (conv=>whnf)
    (repeat' ((first|refine Aj ?_ ?_|refine Dq 300 rfl ?_|refine Af rfl hjn ?_|refine Ni c1 ?_|refine Ly rfl rfl hw ?_|refine nx ?_|refine AB (λ_=>?_) (λ_=>?_)|exact AE)<;>conv=>whnf))
    exact⟨j+1,_,_,hjl,.refl _ _,⟨rfl,rfl,rfl,rfl,trivial⟩,⟨lD (by rw[htk,Bk]),trivial⟩,by omega⟩
  ·rw[Ak (show S.length<=j by omega)]
   have hsl:=QV S hS
   have hst:=ABp (TA++S.flatMap P7) (by rw[Ah];omega)
   (conv=>whnf)
   (repeat' ((first|refine Aj ?_ ?_|refine Ly rfl rfl hst ?_|refine nx ?_|refine AB (λ_=>?_) (λ_=>?_)|exact AE)<;>conv=>whnf))
   exact rfl
end Go.Proofs.YtjpmmkodoeipmaaGreatDoor
end
section
namespace Go.Proofs.YtjpmmkodoeipmaaGreatDoor
open Go.Sx Go.RowKit Go.Reg Go.Gr
set_option maxRecDepth 100000
def qM:Pt:=⟨[0,0,0],[⟨0,1⟩,⟨1,2⟩]⟩
theorem qL:sortI qM.labels=[0,0,0]:=(YW X3).antisymm (IB (Zi _) ((Po _).trans (IW _).symm)) (IB (by decide) ((IW _).trans (Po _)))
theorem wT:GN qM.labels [0,0,0] qM.labels.length []=[[0,1,2],[0,2,1],[1,0,2],[1,2,0],[2,0,1],[2,1,0]]:=by decide
theorem wV:Ce qM=⟨[0,0,0],[⟨0,1⟩,⟨0,2⟩]⟩:=by
 have h:∃o,Xe qM=some (⟨[0,0,0],[⟨0,1⟩,⟨0,2⟩]⟩,o):=by
  unfold Xe Ou
  rw[qL,wT]
  exact⟨_,rfl⟩
 obtain⟨o,h⟩:=h
 unfold Ce
 rw[h];rfl
def DV:Gr:=⟨[0,0,0],[⟨0,2⟩,⟨1,2⟩]⟩
theorem Wv:Hs DV.edges=DV.edges:=(Vv (by decide) (by decide) (by decide)).symm
theorem mQ:Eo DV.labels DV.edges=none:=by decide
theorem gU:DV.Ok:=by
 have:=Q6 mQ
 rwa [Wv]at this
theorem wU:Jj [0,0,0] [⟨0,2⟩,⟨1,2⟩]=.tuple [dG DV,dM DV.labels DV.edges,.bool true]:=by
 unfold Jj Qf
 rw[if_pos ⟨by decide,by decide⟩,show Eo [0,0,0] [⟨0,2⟩,⟨1,2⟩]=none from mQ]
 simp only[show Hs [⟨0,2⟩,⟨1,2⟩]=DV.edges from Wv]
 rfl
theorem wS {x:List Int}(h:C9 DV x=true)(h8:x.length<=8):Ld DV false [] x=true:=by
 unfold Ld CL
 rw[if_neg (by decide),h,if_neg (by decide),decide_eq_true h8]
 unfold Rx
 rw[Rz gU h8 h];rfl
theorem PN:CF DV (Ld DV false []) 0=[[0],[1],[2]]:=by
 show([[0],[1],[2]]:List (List Int)).filter _=_
 refine H9.2 λx hx=>wS ?_ ?_
 ·revert x;decide
 ·revert x;decide
theorem Mg {l:List Int} {r:List (List Int)}(h:((if Ew DV l=true then(Ui DV l 3).filter (FE DV l)else[]).map λv=>l++[v])=r)(hr:∀x∈r,C9 DV x=true/\x.length<=8):GV DV (Ld DV false []) l=r:=by
 unfold GV LB
 rw[sL gU]
 rw[show DV.labels.length=3 from rfl,h]
 exact H9.2 λx hx=>wS (hr x hx).1 (hr x hx).2
theorem PM:CF DV (Ld DV false []) 1=[[0,2],[1,2]]:=by
 show(CF DV (Ld DV false []) 0).flatMap _=_
 rw[PN,BE,BE,BE,List.flatMap_nil]
 rw[Mg (l:=[0]) (r:=[[0,2]]) (by decide) (by decide),Mg (l:=[1]) (r:=[[1,2]]) (by decide) (by decide),Mg (l:=[2]) (r:=[]) (by decide) (by decide)];rfl
theorem Up:CF DV (Ld DV false []) 2=[[0,2,1]]:=by
 show(CF DV (Ld DV false []) 1).flatMap _=_
 rw[PM,BE,BE,List.flatMap_nil]
 rw[Mg (l:=[0,2]) (r:=[[0,2,1]]) (by decide) (by decide),Mg (l:=[1,2]) (r:=[]) (by decide) (by decide)];rfl
theorem wR:FO DV (Ld DV false []) 3=[[[0],[1],[2]],[[0,2],[1,2]],[[0,2,1]]]:=by
 rw[HJ]
 ·show[CF _ _ 0,CF _ _ 1,CF _ _ 2]=_
  rw[PN,PM,Up]
 ·intro k hk
  have:k=0\/k=1\/k=2:=by omega
  rcases this with rfl|rfl|rfl
  ·rw[PN];simp
  ·rw[PM];simp
  ·rw[Up];simp
theorem wP:Og DV [0,2,1]=qM:=by decide
def qN:Cnf:=⟨1,3,0,1,9,[]⟩
theorem AB7:CnfOk qN:=⟨by decide,by decide,by decide,by decide,by decide,λo ho=>(by cases ho),rfl⟩
theorem XO:JobOk DV (decide (qN.kind=3)) qN.size (J5 qN):=⟨gU,by decide,by decide,λh=>(by cases h),by decide,by decide,λo ho=>(by cases ho)⟩
theorem wQ:VZ [(⟨[0,0,0],[⟨0,1⟩,⟨0,2⟩]⟩,1)] []=[49,32,48,44,48,44,48,124,48,45,49,44,48,45,50,10]:=by
 have h0:Lib.itoa 0=[48]:=by rw[show(0:Int)=((0:Nat):Int)from rfl,Io,Lib.decDigits_one (by omega)];rfl
 have h1:Lib.itoa 1=[49]:=by rw[show(1:Int)=((1:Nat):Int)from rfl,Io,Lib.decDigits_one (by omega)];rfl
 have h2:Lib.itoa 2=[50]:=by rw[show(2:Int)=((2:Nat):Int)from rfl,Io,Lib.decDigits_one (by omega)];rfl
 unfold VZ Jl DW JO
 simp only[Ap,Bt,BE,List.flatMap_nil,h0,h1,h2]
 rfl
theorem wW(u:List Int->Pt)(wv:List Int->List Int)(h:u [0,2,1]=⟨[0,0,0],[⟨0,1⟩,⟨0,2⟩]⟩):Hr 1 3 0 u wv [[[0],[1],[2]],[[0,2],[1,2]],[[0,2,1]]]=[(⟨[0,0,0],[⟨0,1⟩,⟨0,2⟩]⟩,1)]:=by
 unfold Hr
 rw[if_pos rfl,if_pos (by decide)]
 show Em [u [0,2,1]]=_
 rw[h];rfl
def AFh:List FuncId:=[15,8,7,9,14]
set_option maxHeartbeats 4000000 in
theorem ZG:Pure C3 5 [] (λy=>y=.bool true):=by
 have hm:=Pure.up3 (WR [0,0,0] [⟨0,2⟩,⟨1,2⟩])
 rw[wU]at hm
 have lx:LaxA (.agg [.int .i64 1,.int .i64 3,.int .i64 0,.int .i64 1,.int .i64 9,.nils]) (Is qN):=.agg (.cons (.refl _) (.cons (.refl _) (.cons (.refl _) (.cons (.refl _) (.cons (.refl _) (.cons (.nils 2) .nil))))))
 have hj:Pure C3 8 [.agg [.int .i64 1,.int .i64 3,.int .i64 0,.int .i64 1,.int .i64 9,.nils],dG DV] (λy=>y=dJ DV false 3 []):=Sx.Pure.lax (.cons lx (.cons (.refl _) .nil)) (Pure.up3 (Rc DV qN (by decide)))
 have ha:=Pure.up3 (eP XO 100)
 have hr:FO DV (Ld DV false []) 3=[[[0],[1],[2]],[[0,2],[1,2]],[[0,2,1]]]:=wR
 have hs:JJ DV (Ld DV false []) 3=6:=by
  unfold JJ
  show((CF _ _ 0).length+((CF _ _ 1).length+((CF _ _ 2).length+0)))=6
  rw[PN,PM,Up];rfl
 have ha:Pure C3 7 [dJ DV false 3 [],.int .i64 100] (λy=>y=.tuple [Pd [[[0],[1],[2]],[[0,2],[1,2]],[[0,2,1]]],.nili]):=by
  have e:lG DV (Ld DV false []) 3 100=.tuple [Pd [[[0],[1],[2]],[[0,2],[1,2]],[[0,2,1]]],.nili]:=by
   unfold lG
   rw[hs,if_pos (by decide),hr];rfl
  rw[<-e];exact ha
 have hp:∀R∈([[[0],[1],[2]],[[0,2],[1,2]],[[0,2,1]]]:List (List (List Int))),∀X∈R,PatAt DV false 3 [] (Jb DV false) (Tp DV false) X/\X.Nodup/\X.length<=8:=λR hR X hX=>Zy (D:=3) XO (by decide) (R:=R) (by show R∈FO DV (Ld DV false []) 3;rw[hr];exact hR) hX
 have hof:=PE XO AB7 [[[0],[1],[2]],[[0,2],[1,2]],[[0,2,1]]] (Jb DV false) (Tp DV false) (by decide) (by decide) (by decide) (λR hR X hX=>by have:=(hp R hR X hX).2.2;omega) (λR hR X hX=>(hp R hR X hX).1)
 have hof:Pure C3 9 [.agg [.int .i64 1,.int .i64 3,.int .i64 0,.int .i64 1,.int .i64 9,.nils],dG DV,Pd [[[0],[1],[2]],[[0,2],[1,2]],[[0,2,1]]]] (λy=>y=.tuple [tI 1 [(⟨[0,0,0],[⟨0,1⟩,⟨0,2⟩]⟩,1)] [],.nili]):=by
  refine Sx.Pure.lax (.cons lx (.cons (.refl _) (.cons (.refl _) .nil))) ?_
  rw[<-wW (λX=>Ce (Jb DV false X)) (λX=>JR (Nl (Jb DV false X)) (Tp DV false X)) (by show Ce (Og DV [0,2,1])=_;rw[wP,wV])]
  exact hof
 have htx:=Ua 1 [(⟨[0,0,0],[⟨0,1⟩,⟨0,2⟩]⟩,1)] [] (by decide) (by decide) (by decide) (by decide)
 rw[wQ]at htx
 refine On Tryz.func5 Tryz.ntmps5 AFh [] ?_
 (conv=>whnf)
 (repeat' ((first|refine Aj ?_ ?_|refine Dq 10 rfl ?_|refine Dq 13 rfl ?_|refine Af (xs:=[Bh [0,0,0],ET [⟨0,2⟩,⟨1,2⟩]]) rfl hm ?_|refine Af rfl hj ?_|refine Af rfl ha ?_|refine Af rfl hof ?_|refine Af rfl htx ?_|refine nx ?_|refine AB (λ_=>?_) (λ_=>?_)|exact AE)<;>conv=>whnf))
 exact rfl
end Go.Proofs.YtjpmmkodoeipmaaGreatDoor
end
section
namespace Go.Proofs.YtjpmmkodoeipmaaGreatDoor
open Go.Sx Go.RowKit Go.Reg Go.Gr
set_option maxRecDepth 100000
theorem aW {G:Gr} {e:Bool} {d:Int} {l:List Opp}(hj:JobOk G e d l) {D:Nat}(hD:d=D)(h8:D<=8):Pure C3 7 [dJ G e d l,.int .i64 1048576] (λy=>y=.tuple [Pd (FO (CL G e) (Ld G e l) D),.nili]):=by
 have ha:=Pure.up3 (eP hj 1048576)
 have hok:=JV hj.ok (by have:=hj.n;omega) hj.m e
 have hs:=Zc hok (Ld G e l) (Nz hj) h8
 rw[hD,Bi]at ha
 unfold lG at ha
 rw[if_pos (by omega)]at ha
 rw[hD]
 exact ha
theorem cG {k:Int} {d:Nat} {s:Int} {q:List Int->Pt} {V:List Int->List Int} {L:List (List (List Int))}(h:∀R∈L,∀X∈R,Dk (q X)=none):V7 (Hr k d s (λX=>Ce (q X)) (λX=>JR (Nl (q X)) (V X)) L):=by
 intro x hx
 unfold Hr at hx
 have ht:∀Xs:List (List Int),(∀X∈Xs,Dk (q X)=none)->∀x∈Em (Xs.map λX=>Ce (q X)),Dk x.1=none:=λXs hX x hx=>by
  obtain⟨X,hXm,e⟩:=An.1 ((Gj _).2.2.2.1 x hx)
  rw[<-e];exact KH (hX X hXm)
 split at hx
 ·split at hx
  ·refine ht _ (λX hX=>?_) x hx
   cases hg:L[d-1]? with
   |none=>rw[hg]at hX;cases hX
   |some R=>rw[hg]at hX;exact h R (A6 hg) X hX
  ·cases hx
 ·split at hx
  ·cases hx
  ·unfold SI at hx
   obtain⟨y,hy,rfl⟩:=An.1 (A0.1 hx).1
   exact ht _ (λX hX=>by
    obtain⟨R,hR,hXR⟩:=List.mem_flatten.1 hX
    exact h R hR X hXR) y hy
theorem sV {k:Int} {d:Nat} {s:Int} {u:List Int->Pt} {wv:List Int->List Int} {L:List (List (List Int))}(h:L.flatten.length<=2048)(hr:∀R∈L,R.length<=256):(Hr k d s u wv L).length<=2048:=by
 have ht:∀Xs:List (List Int),Xs.length<=2048->(Em (Xs.map u)).length<=2048:=λXs hX=>by
  have:=(Gj (Xs.map u)).2.2.1
  rw[Ac]at this;omega
 unfold Hr
 split
 ·split
  ·refine ht _ ?_
   cases hg:L[d-1]? with
   |none=>simp
   |some R=>have:=hr R (A6 hg);simp only[Fh];omega
  ·simp
 ·split
  ·simp
  ·unfold SI
   refine BI (CM _ _) ?_
   rw[Ac]
   exact ht _ h
theorem AAa {k:Int} {L:List (List (List Int))}(h:∀R∈L,∀X∈R,X.Nodup/\X.length<=8)(hf:L.flatten.length<=2048):(I7 k L).length<=2048/\∀s∈I7 k L,D3 s=s/\s.length<=8:=by
 unfold I7
 split
 ·refine⟨by rw[(KV _).length_eq,Ac];exact hf,λs hs=>?_⟩
  obtain⟨X,hX,rfl⟩:=An.1 ((KV _).mem_iff.1 hs)
  obtain⟨R,hR,hXR⟩:=List.mem_flatten.1 hX
  obtain⟨h1,h2⟩:=h R hR X hXR
  have hl:(KT X).length=X.length:=(L5 _ _).length_eq
  exact⟨vP h1,by omega⟩
 ·exact⟨Am _,λs hs=>(by cases hs)⟩
def XT:List (Nat×Plan):=[(15,.leaf [0,0,0,0,1,0,0,0,0,0,0,0,1,0,0,0,1,6,3,0] [0,1,2,3,5,6,7,8,9,10,11,4,12,13,14,15,16,17,18,19] [0,0,0,6,14,0,0,64,224,0,0,1536,3584,7680,16352,32766,65534,131070,262143,524287]),
 (23,.leaf [0,1,0,0,1,2,0,1,0,0,1,2,0] [0,2,6,8,1,3,4,7,9,10,5,11,12] [0,1,0,7,15,31,0,64,0,448,960,2047,4095]),
 (25,.leaf [0,0,0,0,0,0,0,0,0,0,0,1,1,2,0,0,1,2,0,0,0,1,1,2,0,0,1,1,2,0,1,0,0,1,0,0,0,0,0,0] [0,1,2,3,4,5,6,7,8,9,10,11,12,13,14,15,16,17,18,19,20,21,22,23,24,25,29,32,26,27,30,31,33,34,35,36,28,37,38,39] [0,1,3,7,15,31,63,127,255,511,1023,2047,2047,8191,16383,32767,65535,131071,262143,524287,1048575,2097151,2097151,8388607,16777215,33554431,67108863,67108863,268435455,67108863,603979775,1677721599,67108863,4362076159,12952010751,33889976319,68249714687,137438953471,274877906943,549755813887])]
def oL:List FuncId:=[12,11,13,14]
set_option maxHeartbeats 8000000 in
theorem VL(labels:List Int)(edges:List Edg)(c:Cnf)(t:Nat)(ht:t<=255):Pure C3 4 [Bh labels,ET edges,Is c,.int .u8 (t:Int)] (λy=>y=.bool true):=by
 have hal:=ZG
 have hmd:=Pure.up3 (gN labels edges c)
 refine On Tryz.func4 Tryz.ntmps4 oL XT ?_
 (conv=>whnf)
 (repeat' ((first|refine Aj ?_ ?_|refine Af rfl hal ?_|refine nx ?_|refine AB (λ_=>?_) (λ_=>?_)|exact AE)<;>conv=>whnf))
 refine AR rfl hmd ?_
 rintro y (rfl|⟨G,rfl,hJ⟩)
 ·((conv=>whnf);repeat' ((first|refine odw ?_|refine nx ?_|refine AB (λ_=>?_) (λ_=>?_))<;>conv=>whnf))
  exact rfl
 have hj:=hJ.job
 have hjb:=Pure.up3 (Rc G c (by have:=hJ.cnf.l15;omega))
 obtain⟨D,hD⟩:=A9 (show 0<=c.size by have:=hJ.cnf.size;omega)
 have hD4:1<=D/\D<=4:=by have:=hJ.cnf.size;have:=hJ.size;omega
 have hall:=aW hj hD (by omega)
 have hpt:=λR hR X hX=>Zy (D:=D) hj (by omega) (R:=R) hR (X:=X) hX
 obtain⟨hfew,hrow⟩:=wB (D:=D) hj (by omega)
 have hLl:=Uc (CL G (decide (c.kind=3))) (Ld G (decide (c.kind=3)) (J5 c)) D
 generalize FO (CL G (decide (c.kind=3))) (Ld G (decide (c.kind=3)) (J5 c)) D=L at hall hpt hfew hrow hLl
 have hdL:(L.map NT).length=L.length:=Ac _
 have ho1:=PE hj hJ.cnf L _ _ (by omega) (by omega) (λR h=>by have:=hrow R h;omega) (λR hR X hX=>by have:=(hpt R hR X hX).2.2;omega) (λR hR X hX=>(hpt R hR X hX).1)
 have hTm:∀R∈L.map (λR=>Gx R t R.length),∃S∈L,R.Perm S:=λR hR=>by
  obtain⟨S,hS,rfl⟩:=An.1 hR
  exact⟨S,hS,O0 S t⟩
 have hTf:=Ra (L:=L) (f:=λR=>Gx R t R.length) (λR _=>O0 R t)
 have ho2:=PE hj hJ.cnf (L.map λR=>Gx R t R.length) (Jb G (decide (c.kind=3))) (Tp G (decide (c.kind=3))) (by rw[Ac];omega) (by rw[hTf.length_eq];omega) (λR h=>by
  obtain⟨S,hS,hp⟩:=hTm R h
  have:=hrow S hS
  rw[hp.length_eq];omega) (λR hR X hX=>by
  obtain⟨S,hS,hp⟩:=hTm R hR
  have:=(hpt S hS X (hp.mem_iff.1 hX)).2.2;omega) (λR hR X hX=>by
  obtain⟨S,hS,hp⟩:=hTm R hR
  exact(hpt S hS X (hp.mem_iff.1 hX)).1)
 obtain⟨q1,q2⟩:=cF (k:=c.kind) (d:=c.size.toNat) (s:=c.sup) (u:=λX=>Ce (Jb G (decide (c.kind=3)) X)) (wv:=λX=>JR (Nl (Jb G (decide (c.kind=3)) X)) (Tp G (decide (c.kind=3)) X)) (L:=L) (f:=λR=>Gx R t R.length) (λR _=>O0 R t)
 rw[q1,q2]at ho2
 have ho3:=PE hj hJ.cnf [] (Jb G (decide (c.kind=3))) (Tp G (decide (c.kind=3))) (by decide) (by decide) (λR h=>(by cases h)) (λR h=>(by cases h)) (λR h=>(by cases h))
 obtain⟨q3,q4⟩:=sU c.kind (d:=c.size.toNat) (by omega) c.sup (λX=>Ce (Jb G (decide (c.kind=3)) X)) (λX=>JR (Nl (Jb G (decide (c.kind=3)) X)) (Tp G (decide (c.kind=3)) X))
 rw[q3,q4]at ho3
 have ho3:Pure C3 9 [Is c,dG G,.nils] (λy=>y=.tuple [tI c.kind [] [],.nili]):=Sx.Pure.lax (.cons (.refl _) (.cons (.refl _) (.cons (.nils 1) .nil))) ho3
 have hsm:=cG (k:=c.kind) (d:=c.size.toNat) (s:=c.sup) (V:=Tp G (decide (c.kind=3))) (λR hR X hX=>(hpt R hR X hX).1.err)
 have hfl:=sV (k:=c.kind) (d:=c.size.toNat) (s:=c.sup) (u:=λX=>Ce (Jb G (decide (c.kind=3)) X)) (wv:=λX=>JR (Nl (Jb G (decide (c.kind=3)) X)) (Tp G (decide (c.kind=3)) X)) hfew hrow
 have hst:=AAa (k:=c.kind) (L:=L) (λR hR X hX=>(hpt R hR X hX).2) hfew
 generalize Hr c.kind c.size.toNat c.sup (λX=>Ce (Jb G (decide (c.kind=3)) X)) (λX=>JR (Nl (Jb G (decide (c.kind=3)) X)) (Tp G (decide (c.kind=3)) X)) L=A at ho1 ho2 hsm hfl
 generalize I7 c.kind L=S at ho1 ho2 hst
 have hdS:(S.map Bh).length=S.length:=Ac _
 have hdA:(A.map Dp).length=A.length:=Ac _
 have hs1:=Pure.up3 (O7 c.kind c.kind A A S S hsm hsm (by omega) (by omega) (by omega) (by omega))
 have hs2:=Pure.up3 (O7 c.kind c.kind [] [] [] [] (λx h=>(by cases h)) (λx h=>(by cases h)) (by decide) (by decide) (by decide) (by decide))
 have hs3:=Pure.up3 (O7 c.kind c.kind A [] S [] hsm (λx h=>(by cases h)) (by omega) (by decide) (by omega) (by decide))
 have htx:=Ua c.kind [] [] (λx h=>(by cases h)) (by decide) (λx h=>(by cases h)) (by decide)
 have hbl:VZ [] []=[]:=rfl
 rw[hbl]at htx
 (conv=>whnf)
 (repeat' ((first|refine Aj ?_ ?_|refine Af rfl hjb ?_|refine Af rfl hall ?_|refine nx ?_|refine AB (λ_=>?_) (λ_=>?_)|exact AE)<;>conv=>whnf))
 refine AQ (ι:=Nat) (λn=>n<=L.length) (λn=>[(16,.d (.int .i64 n)),(15,.own 400),(13,.d (Pd L)),(11,.own 11),(9,.d (dG G)),(3,.d (.int .u8 (t:Int)))]) (λn=>[(11,.cells 34 [.d (.int .i64 c.kind),.d (.int .i64 c.size),.d (.int .i64 c.sup),.d (.int .i64 c.workers),.d (.int .i64 c.cap),.d (JS c.keep)]),(400,.slice 46 1 (((L.take n).map λR=>Gx R t R.length).map NT))]) (λn=>L.length-n) 0 (λ_=>rfl) (Am _) (.own 15 400 46 1 rfl rfl (.refl _ _)) ⟨rfl,rfl,rfl,rfl,rfl,rfl,trivial⟩ ⟨rfl,rfl,trivial⟩ ?_
 intro n hn
 refine GZ oL XT ?_
 by_cases hnl:n<L.length
 ·have hx:=Ab hnl
  have htk:(L.take (n+1)).map (λR=>Gx R t R.length)=(L.take n).map (λR=>Gx R t R.length)++[Gx L[n] t L[n].length]:=by rw[Au,hx,AS,A7];rfl
  have hrn:=hrow _ (A6 hx)
  have hzl:((L.take n).map λR=>Gx R t R.length).length<=10:=by rw[Ac,A8];omega
  generalize L[n]=R at hx htk hrn
  generalize (L.take n).map (λR=>Gx R t R.length)=Z at htk hzl⊢
  have hzl2:(Z.map NT).length=Z.length:=Ac _
  have hxd:(L.map NT)[n]? =some (.list 1 (R.map Bh)):=by rw[Ad,hx];rfl
  have hdR:(R.map Bh).length=R.length:=Ac _
  (conv=>whnf)
  ((conv=>whnf);repeat' ((first|refine odw ?_|refine nx ?_|refine AB (λ_=>?_) (λ_=>?_))<;>conv=>whnf))
  refine AQ (ι:=Nat) (λi=>i<=R.length) (λi=>[(18,.d (.int .i64 i)),(17,.own 300),(16,.d (.int .i64 n)),(15,.own 400),(13,.d (Pd L)),(11,.own 11),(9,.d (dG G)),(3,.d (.int .u8 (t:Int)))]) (λi=>[(11,.cells 34 [.d (.int .i64 c.kind),.d (.int .i64 c.size),.d (.int .i64 c.sup),.d (.int .i64 c.workers),.d (.int .i64 c.cap),.d (JS c.keep)]),(300,.slice 22 1 ((Gx R t i).map Bh)),(400,.slice 46 1 (Z.map NT))]) (λi=>R.length-i) 0 (λ_=>rfl) (Am _) (.own 17 300 22 1 rfl rfl (.refl _ _)) ⟨rfl,rfl,rfl,rfl,rfl,rfl,rfl,rfl,trivial⟩ ⟨rfl,rfl,rfl,trivial⟩ ?_
  intro i hi
  refine GZ oL XT ?_
  by_cases hil:i<R.length
  ·have hlt:(i+t) % R.length<R.length:=Nat.mod_lt _ (by omega)
   have hy:=Ab hlt
   generalize R[(i+t) % R.length]=x at hy
   have hyd:(R.map Bh)[(i+t) % R.length]? =some (Bh x):=by rw[Ad,hy];rfl
   have htn:=congrArg (List.map Bh) (fM _ _ _ hy)
   rw[A7]at htn
   have hmod:((i:Int)+(t:Int)).tmod ((R.map Bh).length:Int)=(((i+t) % R.length:Nat):Int):=by
    rw[hdR,<-Int.natCast_add,Int.tmod_eq_emod_of_nonneg (by omega)];rfl
   have htl:(Gx R t i).length<=256:=by
    have:=oU R t i
    omega
   (conv=>whnf)
   (repeat' ((first|refine Aj ?_ ?_|refine AO hxd rfl ?_|refine AO hyd hmod ?_|refine nx ?_|refine AB (λ_=>?_) (λ_=>?_)|exact AE)<;>conv=>whnf))
   exact⟨i+1,_,_,hil,.refl _ _,⟨rfl,rfl,rfl,rfl,rfl,rfl,rfl,rfl,trivial⟩,⟨rfl,Bj htn.symm,rfl,trivial⟩,by omega⟩
  have ei:i=R.length:=by omega
  subst ei
  (conv=>whnf)
  (repeat' ((first|refine Aj ?_ ?_|refine AO hxd rfl ?_|refine nx ?_|refine AB (λ_=>?_) (λ_=>?_)|exact AE)<;>conv=>whnf))
  refine Mp Iv (G:=[]) (.frz 300 rfl (.refl _ _)) (.inr rfl) ?_
  ((conv=>whnf);repeat' ((first|refine odw ?_|refine nx ?_|refine AB (λ_=>?_) (λ_=>?_))<;>conv=>whnf))
  exact⟨n+1,_,_,hnl,.refl _ _,⟨rfl,rfl,rfl,rfl,rfl,rfl,trivial⟩,⟨rfl,Bj (by rw[htk,A7];rfl),trivial⟩,by omega⟩
 rw[Ak (show L.length<=n by omega)]
 (conv=>whnf)
 (repeat' ((first|refine Aj ?_ ?_|refine Dq 400 rfl ?_|refine Af rfl ho1 ?_|refine Af rfl ho2 ?_|refine Af rfl ho3 ?_|refine nx ?_|refine AB (λ_=>?_) (λ_=>?_)|exact AE)<;>conv=>whnf))
 refine AQ (ι:=Nat) (λi=>i<=S.length) (λi=>[(25,.d (.int .i64 i)),(24,.d .nili),(23,.own 23),(22,.d .nili),(21,.own 21),(20,.d .nili),(19,.own 19)]) (λ_=>[(19,.cells 48 [.d (.int .i64 c.kind),.d (.list 3 (A.map Dp)),.d (.list 1 (S.map Bh))]),(21,.cells 48 [.d (.int .i64 c.kind),.d (.list 3 (A.map Dp)),.d (.list 1 (S.map Bh))]),(23,.cells 48 [.d (.int .i64 c.kind),.d (.list 3 []),.d (.list 1 [])])]) (λi=>S.length-i) 0 (λ_=>rfl) (Am _) (.refl _ _) ⟨rfl,rfl,rfl,rfl,rfl,rfl,rfl,trivial⟩ ⟨rfl,rfl,rfl,trivial⟩ ?_
 intro i hi
 refine GZ oL XT ?_
 by_cases hil:i<S.length
 ·have hx:=Ab hil
  obtain⟨h1,h2⟩:=hst.2 _ (A6 hx)
  generalize S[i]=s at hx h1 h2
  have hxd:(S.map Bh)[i]? =some (Bh s):=by rw[Ad,hx];rfl
  have hof:=Pure.up3 (rF s (by omega))
  rw[h1]at hof
  have hsi:=Pure.up3 (pQ s s)
  rw[decide_eq_true rfl]at hsi
  (conv=>whnf)
  (repeat' ((first|refine Aj ?_ ?_|refine AO hxd rfl ?_|refine Af rfl hof ?_|refine Af rfl hsi ?_|refine nx ?_|refine AB (λ_=>?_) (λ_=>?_)|exact AE)<;>conv=>whnf))
  exact⟨i+1,_,_,hil,.refl _ _,⟨rfl,rfl,rfl,rfl,rfl,rfl,rfl,trivial⟩,⟨rfl,rfl,rfl,trivial⟩,by omega⟩
 rw[decide_eq_true rfl,decide_eq_true rfl,decide_eq_true rfl]at hs1 hs2
 have hb0:bs []=⟨#[]⟩:=rfl
 by_cases hAS:A=[]/\S=[]
 ·obtain⟨rfl,rfl⟩:=hAS
  (conv=>whnf)
  (repeat' ((first|refine Aj ?_ ?_|refine Af rfl hs2 ?_|refine Af rfl htx ?_|refine nx ?_|refine AB (λ_=>?_) (λ_=>?_)|exact AE)<;>conv=>whnf))
  exact rfl
 ·have hz:A.length+S.length≠0:=λh=>hAS ⟨AF (by omega),AF (by omega)⟩
  have hf:(decide (c.kind=c.kind)&&decide (A=[])&&decide (S=[]))=false:=by
   rw[Bool.and_assoc,<-Bool.decide_and,decide_eq_false hAS,Bool.and_false]
  rw[hf]at hs3
  (conv=>whnf)
  (repeat' ((first|refine Aj ?_ ?_|refine Af rfl hs1 ?_|refine Af rfl hs2 ?_|refine Af rfl hs3 ?_|refine Af rfl htx ?_|refine nx ?_|refine AB (λ_=>?_) (λ_=>?_)|exact AE)<;>conv=>whnf))
  exact congrArg Da.bool (decide_eq_true (iff_of_false (λh=>(by cases h)) (by omega)))
theorem Uh(labels:List Int)(edges:List Edg)(c:Cnf)(t:Int)(ht:0<=t/\t<=255):Pure C3 4 [Bh labels,ET edges,Is c,.int .u8 t] (λy=>y=.bool true):=by
 obtain⟨n,rfl⟩:=A9 ht.1
 exact VL labels edges c n (by omega)
end Go.Proofs.YtjpmmkodoeipmaaGreatDoor
end
section
namespace Go.Reg
open Go Go.RowKit Go.Deep Go.WideShapes
section
variable {α H:Type}
theorem eJ {P:Program} {k:Nat} {enc:α->List Value} {e':TypeId×Value->H} {w:World} {base:Nat} {spare:Nat->Bool} {held:Bool} {t e:TypeId} {v:Value} {d:DataW H} {ps:List MemPlace}(Q:α->Prop)
  (ht:P.underlying t=some (.slice e)) (hc:P.cellsOf e=k) (hk:0<k) (he:∀x,(enc x).length=k)
  (hel:∀n cs y,DataW.trod e' P w base spare held n e cs=some y->∃x,cs=enc x/\Q x)
  (hsh:∃a n c,v=.slice a n c) (h:DataW.Trod e' P w base spare held t v d ps):∃l,EA k enc w v l/\∀x∈l,Q x:=by
 obtain⟨a0,len0,cap0,rfl⟩:=hsh
 obtain⟨fuel,hf⟩:=h
 rcases open_slice ht hf with⟨h1,_⟩|⟨a,len,cap,m,n,D,Pl,h1,hb,hl,hm,hmm,_,hx⟩
 ·simp[Value.cells]at h1
  obtain⟨rfl,rfl,rfl⟩:=h1
  exact⟨[],⟨none,0,rfl,by simp,λi x hi=>by simp at hi⟩,by simp⟩
 ·simp[Value.cells]at h1
  obtain⟨rfl,rfl,rfl⟩:=h1
  have hlm:len0<=m:=by rw[hmm];split<;>omega
  obtain⟨l,hll,hq⟩:=nK (Q:=λi x=>Q x/\w.cells? base (a.add (i*k)) k=some (enc x)) (n:=len0) (λi hi=>by
   obtain⟨cs',h1,h2⟩:=hx i (by omega)
   obtain⟨x,rfl,hQ⟩:=hel _ _ _ h2
   rw[hc]at h1
   exact⟨x,hQ,h1⟩)
  refine⟨l,⟨some a,cap0,by rw[hll],by omega,λi x hi=>?_⟩,λx hx=>?_⟩
  ·have h2:=(hq i x hi).2
   obtain⟨_,_,hcell⟩:=World.cells?_some h2
   have h0:=hcell 0 hk
   obtain⟨b,o,sp⟩:=a
   have hi0:0<l.length:=by have:=(Ae.1 hi).1;omega
   have hz:=(hq 0 l[0] (by simp[hi0])).2
   obtain⟨_,_,hcell0⟩:=World.cells?_some hz
   have hsp:sp=none:=by
    have h00:=hcell0 0 hk
    rw[Nat.zero_mul,add_add]at h00
    have hsome:(w.cell? ⟨b,o,sp⟩).isSome=true:=by
     simp only[Addr.add,Eu,if_true]at h00
     rw[h00]
     simp[he,hk]
    cases sp with
    |none=>rfl
    |
     some s=>
     exfalso
     unfold World.cell? at hsome
     simp at hsome
     split at hsome<;>simp at hsome
   subst hsp
   refine⟨b,o,rfl,λj u hj=>?_⟩
   have hjk:j<k:=by have:=(Ae.1 hj).1;rw[he]at this;exact this
   have:=hcell j hjk
   rw[add_add,hj]at this
   by_cases hz:i*k+j=0
   ·rw[hz]at this
    simp only[Addr.add,if_true]at this
    rw[show o+i*k+j=o by omega]
    exact this
   ·simp only[Addr.add,hz,if_false]at this
    rw[show o+i*k+j=o+(i*k+j)by omega]
    exact this
  ·obtain⟨i,hi⟩:=SM hx
   exact(hq i x hi).1
theorem QN {P:Program} {e':TypeId×Value->H} {w:World} {base:Nat} {spare:Nat->Bool} {held:Bool} {t e:TypeId} {fuel:Nat} {cs:List Value} {y:DataW H×List MemPlace}(ht:P.underlying t=some (.slice e))(h:DataW.trod e' P w base spare held fuel t cs=some y):∃a n c,cs=[.slice a n c]/\n<=c/\c<=maxLen:=by
 rcases open_slice ht h with⟨h1,_⟩|⟨a,len,cap,m,k,D,Pl,h1,_,h2,h3,_,_,_⟩
 ·exact⟨none,0,0,h1,Ay _,by unfold maxLen;omega⟩
 ·exact⟨some a,len,cap,h1,h2,h3⟩
end
end Go.Reg
namespace Go.Proofs.YtjpmmkodoeipmaaGreatDoor
open Go.ChangeShapes Go.WideShapes Go.ChangeAt Go.RowKit Go.Reg Go.Gr Go.Sx Go.ChangeMaps
theorem own:ownKnob Tryz.prog.godebug=none:=by kernel_rfl
theorem Yo:laidOutB Tryz.prog=true:=by kernel_rfl
abbrev Qj:List (String×DataW Unit):=Rows.renderTurnedRow.laid
abbrev rY:List (String×DataW Unit):=[("math/bits.deBruijn32tab",Rows.laid_math_bits_deBruijn32tab),("math/bits.deBruijn64tab",Rows.laid_math_bits_deBruijn64tab),("internal/strconv.uint64pow10",Rows.laid_internal_strconv_uint64pow10)]
theorem jH {W:World}(h:laidMetH Tryz.prog Qj W):laidMet Tryz.prog rY W:=h
theorem oS {P:Program} {w:World} {name:String} {g:Nat} {cs:Array Value}(h:w.var? P name=some cs)(hg:P.globalNamed name=some g):∃t fr,w.heap[g]? =some (.cells cs t fr):=by
 unfold World.var? at h
 rw[hg,RS]at h
 cases hh:w.heap[g]? with
 |none=>rw[hh]at h;cases h
 |
  some o=>
  rw[hh]at h
  cases o with
  |cells cs' t fr=>simp only[AD]at h;subst h;exact⟨t,fr,rfl⟩
  |_=>cases h
theorem ACb {W:World} {g:Nat} {cs:Array Value} {t:TypeId} {fr:Nat×Nat} {d:Da}(h:W.heap[g]? =some (.cells cs t fr))(hr:Sx.RepC [] W d cs.toList)(hs:cs.size=Sx.gsz d):Sx.GRep [] W (g,d):=by
 refine⟨⟨[_],?_,rfl⟩,by simp,cs,t,fr,h,hs⟩
 simp only[Sx.RepC]
 refine⟨g,0,cs.toList,rfl,by simp,(Al.1 h).1,hr,λj u hj=>?_⟩
 rw[uL h,DT]
 simpa using hj
theorem X4 {W:World}(h:laidMetH Tryz.prog Qj W):∃t fr,W.heap[0]? =some (.cells (Lib.pow10Tab.map λz=>Value.int .u64 z).toArray t fr):=by
 have h1:=laidMet.tail (laidMet.tail (jH h))
 have h2:laidMet Tryz.prog (("internal/strconv.uint64pow10",Lib.tabData .u64 Lib.pow10Tab)::[]) W:=h1
 have h3:=Lib.tabIs_of_head (g:=0) (by kernel_rfl) (t:=261) (e:=215) (n:=20) (by kernel_rfl) Tryz.underlying261 Tryz.underlying215 (by kernel_rfl) (by kernel_rfl) h2
 exact oS h3 (by kernel_rfl)
theorem bD(O:List Nat)(W:World)(k:IntKind):∀l:List Int,Sx.RepCs O W (l.map (Da.int k)) (l.map λz=>Value.int k z)
 |[]=>by simp[Sx.RepCs]
 |
  x::l=>by
  simp only[Ap,Sx.RepCs,Sx.RepC]
  exact⟨[_],_,rfl,rfl,bD O W k l⟩
theorem zS {W:World}(h:laidMetH Tryz.prog Qj W):Sx.Glob C3 [] W:=by
 obtain⟨t5,f5,e5⟩:=X4 h
 intro g hg
 rcases Ag.1 hg with hg|hg
 ·exact absurd hg (by simp[C1])
 ·rw[As.1 hg]
  exact ACb e5 (by simp only[Sx.RepC];exact bD _ _ _ _) (by simp[Sx.gsz])
def eI:Sx.Enc Int:=⟨λn=>[.int .i64 n],dI,1,λ_=>rfl,λn u hu=>by simp at hu;rw[hu];rfl,λO w n=>by simp[dI,Sx.RepC]⟩
def eE:Sx.Enc Edg:=⟨λe=>[.int .i64 e.a,.int .i64 e.b],dE,2,λ_=>rfl,λn u hu=>by simp at hu;rcases hu with rfl|rfl<;>rfl,λO w n=>by simp[dE,Sx.RepC,Sx.RepCs]⟩
set_option maxRecDepth 100000 in
theorem AEa {H:Type} {e':TypeId×Value->H} {w:World} {base:Nat} {spare:Nat->Bool} {held:Bool}(n:Nat)(cs:List Value)(y:DataW H×List MemPlace)
  (h:DataW.trod e' Tryz.prog w base spare held n 3 cs=some y):∃x:Int,cs=eI.enc x/\True:=by
 obtain⟨m,h0,_⟩:=G4 Tryz.underlying3 h
 exact⟨m,h0,trivial⟩
set_option maxRecDepth 100000 in
theorem ACf {H:Type} {e':TypeId×Value->H} {w:World} {base:Nat} {spare:Nat->Bool} {held:Bool}(n:Nat)(cs:List Value)(y:DataW H×List MemPlace)
  (h:DataW.trod e' Tryz.prog w base spare held n 66 cs=some y):∃x:Edg,cs=eE.enc x/\True:=by
 obtain⟨xs,k,_,_,hcl,hxl,hf⟩:=DataW.trod_struct Tryz.underlying66 h
 have cl:cs.length=2:=hcl.trans (by kernel_rfl)
 match cs,cl with
 |
  [c0,c1],_=>
  have hx4:xs.length=2:=hxl
  match xs,hx4 with
  |
   [y0,y1],_=>
   have k3:Tryz.prog.cellsOf 3=1:=by kernel_rfl
   have g0:=hf 0 _ rfl
   have g1:=hf 1 _ rfl
   simp[k3]at g0 g1
   obtain⟨n0,h0,_⟩:=G4 Tryz.underlying3 g0
   obtain⟨n1,h1,_⟩:=G4 Tryz.underlying3 g1
   simp at h0 h1
   subst h0;subst h1
   exact⟨⟨n0,n1⟩,rfl,trivial⟩
theorem wJ {O:List Nat} {w:World} {v:Value} {b:Bool}(h:Sx.Rep O w (.bool b) v):v=.bool b:=by obtain⟨cs,r,rfl⟩:=h;simp only[Sx.RepC]at r;subst r;rfl
def eO:Sx.Enc Opp:=⟨λe=>[.int .i64 e.kind,.int .i64 e.n],dO,2,λ_=>rfl,λn u hu=>by simp at hu;rcases hu with rfl|rfl<;>rfl,λO w n=>by simp[dO,Sx.RepC,Sx.RepCs]⟩
set_option maxRecDepth 100000 in
theorem AEE {H:Type} {e':TypeId×Value->H} {w:World} {base:Nat} {spare:Nat->Bool} {held:Bool}(n:Nat)(cs:List Value)(y:DataW H×List MemPlace)
  (h:DataW.trod e' Tryz.prog w base spare held n 69 cs=some y):∃x:Opp,cs=eO.enc x/\True:=by
 obtain⟨xs,k,_,_,hcl,hxl,hf⟩:=DataW.trod_struct Tryz.underlying69 h
 have cl:cs.length=2:=hcl.trans (by kernel_rfl)
 match cs,cl with
 |
  [c0,c1],_=>
  have hx4:xs.length=2:=hxl
  match xs,hx4 with
  |
   [y0,y1],_=>
   have k3:Tryz.prog.cellsOf 3=1:=by kernel_rfl
   have g0:=hf 0 _ rfl
   have g1:=hf 1 _ rfl
   simp[k3]at g0 g1
   obtain⟨n0,h0,_⟩:=G4 Tryz.underlying3 g0
   obtain⟨n1,h1,_⟩:=G4 Tryz.underlying3 g1
   simp at h0 h1
   subst h0;subst h1
   exact⟨⟨n0,n1⟩,rfl,trivial⟩
set_option maxRecDepth 100000 in
theorem qW {H:Type} {e':TypeId×Value->H} {w:World} {held:Bool} {spare:Nat->Bool} {r:Reach} {b0:Nat} {v:Value} {d:DataW H} {ps:List MemPlace}(hval:Value.okWide Tryz.prog w r b0 26 v)(h:DataW.Trod e' Tryz.prog w 0 spare held 26 v d ps):∃c:Cnf,Sx.Rep [] w (Is c) v:=by
 obtain⟨cs,rfl,hsz⟩:=okWide_struct Tryz.underlying26 hval
 obtain⟨fuel,hf⟩:=h
 obtain⟨xs,k,_,_,hcl,hxl,hfl⟩:=DataW.trod_struct Tryz.underlying26 hf
 have hcs:(Value.agg cs).cells.toList=cs.toList:=rfl
 rw[hcs]at hcl hfl
 have cl:cs.toList.length=6:=hcl.trans (by kernel_rfl)
 match hl:cs.toList,cl with
 |
  [c0,c1,c2,c3,c4,c5],_=>
  rw[hl]at hfl
  have hx6:xs.length=6:=hxl
  match xs,hx6 with
  |
   [y0,y1,y2,y3,y4,y5],_=>
   have k3:Tryz.prog.cellsOf 3=1:=by kernel_rfl
   have k1:Tryz.prog.cellsOf 24=1:=by kernel_rfl
   have g0:=hfl 0 _ rfl
   have g1:=hfl 1 _ rfl
   have g2:=hfl 2 _ rfl
   have g3:=hfl 3 _ rfl
   have g4:=hfl 4 _ rfl
   have g5:=hfl 5 _ rfl
   simp[k1,k3]at g0 g1 g2 g3 g4 g5
   obtain⟨n0,h0,_⟩:=G4 Tryz.underlying3 g0
   obtain⟨n1,h1,_⟩:=G4 Tryz.underlying3 g1
   obtain⟨n2,h2,_⟩:=G4 Tryz.underlying3 g2
   obtain⟨n3,h3,_⟩:=G4 Tryz.underlying3 g3
   obtain⟨n4,h4,_⟩:=G4 Tryz.underlying3 g4
   obtain⟨a5,n5,m5,e5,h50,h51⟩:=QN Tryz.underlying24 g5
   simp only[D0,and_true]at h0 h1 h2 h3 h4 e5
   subst h0 h1 h2 h3 h4 e5
   obtain⟨l,r5,_⟩:=eJ (enc:=eO.enc) (λ_=>True) Tryz.underlying24 (k:=2) (by kernel_rfl) (by decide) (λ_=>rfl) AEE ⟨_,_,_,rfl⟩ (⟨k,g5⟩:DataW.Trod e' Tryz.prog w 0 spare held 24 (.slice a5 n5 m5) y5.1 y5.2)
   obtain⟨s5,p5,q5⟩:=eO.rep_arg (by decide) r5 (λa n c e=>by cases e;exact⟨h50,h51⟩)
   refine⟨⟨n0,n1,n2,n3,n4,l⟩,[.int .i64 n0,.int .i64 n1,.int .i64 n2,.int .i64 n3,.int .i64 n4,.slice a5 n5 m5],?_,?_⟩
   ·simp only[Is,Sx.RepC,Sx.RepCs]
    have z5:s5=[.slice a5 n5 m5]:=by
     have p5':=p5
     simp only[Sx.RepC]at p5'
     obtain⟨_,_,_,rfl,_⟩:=p5'
     rw[q5];rfl
    subst z5
    exact⟨_,_,rfl,rfl,_,_,rfl,rfl,_,_,rfl,rfl,_,_,rfl,rfl,_,_,rfl,rfl,_,_,rfl,p5,rfl⟩
   ·show Value.agg cs=.agg _
    congr 1
    apply Array.toList_inj.1
    rw[hl]
def fJ:DataW Unit->Array Value
 |.agg ds=>(ds.map λ|.lit (.int k n)=>Value.int k n|_=>undef).toArray
 |_=>#[]
def TL(cs:Array Value):Obj->Obj
 |.cells _ t frozen=>.cells cs t frozen
 |o=>o
noncomputable def Rv(os:Os):World:=
 let w0:=World.holding Tryz.prog os ⟨#[],#[],[]⟩
 {w0 with heap:=((w0.heap.modify 0 (TL (fJ Rows.laid_internal_strconv_uint64pow10))).modify 2 (TL (fJ Rows.laid_math_bits_deBruijn32tab))).modify 3 (TL (fJ Rows.laid_math_bits_deBruijn64tab))}
theorem VP(os:Os)(args:Array Value):laidMetH Tryz.prog Qj ((Rv os).forCall (λ_ _=>0) ⟨#[],args,[]⟩).memory:=
 laidMetH_of_parts (laidMet_of_run' 8 (by kernel_rfl) (by kernel_rfl)) (by kernel_rfl)
end Go.Proofs.YtjpmmkodoeipmaaGreatDoor
end
section
namespace Go.Proofs.YtjpmmkodoeipmaaGreatDoor
open Go.ChangeShapes Go.WideShapes Go.ChangeAt Go.RowKit Go.Reg Go.Gr Go.ChangeMaps
set_option maxRecDepth 100000 in
theorem MJ(H:Type)(enc:TypeId×Value->H)(W:World)(base:Nat)(args:Array Value)(ds gs:List (DataW H))(before:List MemPlace)
  (hval:∀(j:Nat) t v,Tryz.f4.params[j]? =some t->args[j]? =some v->Value.okWide Tryz.prog W .any base t v)
  (hW:DataW.Whole enc Tryz.prog Tryz.f4.params.toList Rows.renderTurnedSpec.vars false W args.toList ds gs before) (hsz0:(DataW.weightsEach Tryz.prog (Tryz.f4.params.toList++(OpenSpec.ofChange Rows.renderTurnedSpec).bare.plain.varTypes Tryz.prog) (ds++gs)).all (· <=reachBytes)=true) (hL:laidMetH Tryz.prog Rows.renderTurnedRow.laid W) (_hsh:W.ShapedOpen Tryz.prog):
  Calls Tryz.prog 4 args W λe W'=>∃v,e=.returned v/\Rows.renderTurnedSpec.post enc Tryz.prog Tryz.f4 false true false false W args v W':=by
 have hsz:=hsz0
 clear hsz0
 have hW':=hW
 obtain⟨p,q,hA0,hV,rfl,hfz,hnd⟩:=hW
 have hA:DataW.TrodAll enc Tryz.prog W 0 (λ_=>true) true Tryz.f4.params.toList args.toList ds p:=hA0
 rw[Tryz.params4]at hA hval hsz
 obtain⟨v0,v1,v2,v3,d0,d1,d2,d3,p0,p1,p2,p3,rfl,rfl,rfl,h0,h1,h2,h3⟩:=trodAll_four hA
 obtain⟨rfl,rfl⟩:=trodVars_none hV
 have c0:=Sx.cap_of Tryz.underlying22 (hval 0 _ _ rfl rfl) h0
 obtain⟨x0,a0,_⟩:=eK (enc:=eI.enc) (λ_=>True) Tryz.underlying22 (k:=1) (by kernel_rfl) (by decide) (λ_=>rfl) AEa (hval 0 _ _ rfl rfl) h0
 have c1:=Sx.cap_of Tryz.underlying23 (hval 1 _ _ rfl rfl) h1
 obtain⟨x1,a1,_⟩:=eK (enc:=eE.enc) (λ_=>True) Tryz.underlying23 (k:=2) (by kernel_rfl) (by decide) (λ_=>rfl) ACf (hval 1 _ _ rfl rfl) h1
 obtain⟨x2,r2⟩:=qW (hval 2 _ _ rfl rfl) h2
 obtain⟨x3,rfl,rfl,rfl,w3⟩:=open_int Tryz.underlying5 (hval 3 _ _ rfl rfl) h3
 have b3:0<=x3/\x3<=255:=by
  have e1:IntKind.u8.min=0:=by decide
  have e2:IntKind.u8.max=255:=by decide
  have:=w3
  simp[Lit.wf,e1,e2]at this;omega
 have hg:=zS (show laidMetH Tryz.prog Qj W from hL)
 have l0:∀x∈p0,x.block<W.heap.size:=λx hx=>by have:=hW'.lt x (by simp[hx]);simpa using this
 have l1:∀x∈p1,x.block<W.heap.size:=λx hx=>by have:=hW'.lt x (by simp[hx]);simpa using this
 have l2:∀x∈p2,x.block<W.heap.size:=λx hx=>by have:=hW'.lt x (by simp[hx]);simpa using this
 refine((Uh x0 x1 x2 x3 b3).calls hg (Sx.reps_cons (eI.rep_arg (by decide) a0 c0) (Sx.reps_cons (eE.rep_arg (by decide) a1 c1) (Sx.reps_cons r2 (Sx.reps_cons (Sx.rep_of_int .u8 x3) Sx.reps_nil))))).mono λe W' ⟨u,y,he,hy,hr,ht⟩=>?_
 subst hy
 obtain rfl:=wJ hr
 subst he
 refine⟨_,rfl,_,_,_,[],p0++(p1++(p2++[])),[],hW',?_,?_,?_,?_,λh=>by cases h⟩
 ·exact trodAll_mk1 (shut_bool Tryz.underlying4 true)
 ·exact trodAll_mk4 (Below.trod Yo (by kernel_rfl) (of_decide_eq_true (by kernel_rfl)) h0 ht.below l0) (Below.trod Yo (by kernel_rfl) (of_decide_eq_true (by kernel_rfl)) h1 ht.below l1) (Below.trod Yo (by kernel_rfl) (of_decide_eq_true (by kernel_rfl)) h2 ht.below l2) (shut_int Tryz.underlying5 w3)
 ·rfl
 ·refine⟨ht.os,ht.output,λi hi=>?_⟩
  rw[ht.blk i hi (by simp)]
  have hsome:∃o,W.heap[i]? =some o:=⟨_,BT hi⟩
  obtain⟨o,ho⟩:=hsome
  rw[ho]
  cases o<;>simp
theorem PJ(os:Os) {H:Type}(enc:TypeId×Value->H):∃places,DataW.whole enc Tryz.prog ((Rv os).forCall (λ_ _=>0) ⟨#[],#[.slice none 0 0,.slice none 0 0,.agg #[.int .i64 0,.int .i64 0,.int .i64 0,.int .i64 0,.int .i64 0,.slice none 0 0],.int .u8 0],[]⟩).memory Tryz.f4.params.toList Rows.renderTurnedSpec.vars false #[.slice none 0 0,.slice none 0 0,.agg #[.int .i64 0,.int .i64 0,.int .i64 0,.int .i64 0,.int .i64 0,.slice none 0 0],.int .u8 0].toList 8=some ([.nil,.nil,.agg [.lit (.int .i64 0),.lit (.int .i64 0),.lit (.int .i64 0),.lit (.int .i64 0),.lit (.int .i64 0),.nil],.lit (.int .u8 0)],[],places):=
 ⟨[],by kernel_rfl⟩
set_option maxRecDepth 100000 in
theorem OS(os:Os)(started:os.Started)(H:Type)(enc:TypeId×Value->H)(F:Stop.Interp):
  ReturnsInHanded {} Tryz.checked os 4 .any ((OpenSpec.ofChange Rows.renderTurnedSpec).preRow enc Tryz.prog Tryz.f4 Rows.renderTurnedRow.domain false Rows.renderTurnedRow.laid) (((OpenSpec.ofChange Rows.renderTurnedSpec).at F).post enc Tryz.prog Tryz.f4 false true false false):=by
 obtain⟨places,hx⟩:=PJ os enc
 refine returnsInHanded_of_row (C:=Tryz.checked) (s:=OpenSpec.ofChange Rows.renderTurnedSpec) own started (by kernel_rfl) Tryz.func4
  (witness_row_at (enc:=enc) (C:=Tryz.checked) false (Rv os) #[.slice none 0 0,.slice none 0 0,.agg #[.int .i64 0,.int .i64 0,.int .i64 0,.int .i64 0,.int .i64 0,.slice none 0 0],.int .u8 0] rfl (by kernel_rfl) (by kernel_rfl) (by kernel_rfl)
   (OpenSpec.preRow_of_cond 8 hx (by kernel_rfl) (λk hk=>by cases hk) (by kernel_rfl) (VP os _))) ?_
 intro W base args ds gs before hval hW _ _ hsz hL hsh _
 exact MJ H enc W base args ds gs before hval hW hsz hL hsh
end Go.Proofs.YtjpmmkodoeipmaaGreatDoor
end
section
namespace Go.Proofs.YtjpmmkodoeipmaaGreatDoor
open Go.ChangeShapes Go.WideShapes Go.ChangeAt
theorem Of:(Rows.renderTurnedRow.wf (OpenSpec.ofChange (OpenSpec.ofChange Rows.renderTurnedSpec).bare))=true:=by kernel_rfl
theorem Oe:(laidOutB Tryz.pinned.checked.prog)=true:=by kernel_rfl
theorem Od:(mapsRowed Tryz.pinned.checked.prog)=true:=by kernel_rfl
theorem Oa:(Tryz.f4.params.all (Tryz.pinned.checked.prog.readableRec ·))=true:=by kernel_rfl
theorem NZ:(namedTie Tryz.pinned.checked.prog Rows.renderTurnedRow.named (OpenSpec.ofChange Rows.renderTurnedSpec).bare.vars)=true:=by kernel_rfl
theorem NY:((Rows.renderTurnedRow.stops==[]))=true:=by kernel_rfl
theorem NX:((Tryz.pinned.checked.prog.stops==[]))=true:=by kernel_rfl
theorem NW:((Rows.renderTurnedRow.knobs==[]))=true:=by kernel_rfl
theorem NV:((Tryz.pinned.checked.prog.stopKnobs==[]))=true:=by kernel_rfl
theorem NU:((Rows.renderTurnedRow.inPlace==Tryz.pinned.checked.prog.inPlace 4))=true:=by kernel_rfl
theorem Ng:((Rows.renderTurnedRow.unfollowed==Tryz.pinned.checked.prog.unfollowed 4))=true:=by kernel_rfl
theorem Nf:((Rows.renderTurnedRow.recurses==Tryz.pinned.checked.prog.recurses 4))=true:=by kernel_rfl
theorem Nd:((Rows.renderTurnedRow.named==Tryz.pinned.checked.prog.varsNamed 4))=true:=by kernel_rfl
theorem Nc:((Rows.renderTurnedRow.maps==(Tryz.f4.params.toList++(OpenSpec.ofChange Rows.renderTurnedSpec).bare.plain.varTypes Tryz.pinned.checked.prog).any (Tryz.pinned.checked.prog.mapsRec ·)))=true:=by kernel_rfl
theorem Nb:((Rows.renderTurnedRow.ifaces==(Tryz.f4.params.toList++(OpenSpec.ofChange Rows.renderTurnedSpec).bare.plain.varTypes Tryz.pinned.checked.prog).any (Tryz.pinned.checked.prog.ifacesRec ·)))=true:=by kernel_rfl
theorem Na:((Rows.renderTurnedRow.mapsOut==Tryz.pinned.checked.prog.mapsAmong Tryz.f4.resultTypes.toList))=true:=by kernel_rfl
theorem MZ:((Rows.renderTurnedRow.loops==(Tryz.f4.params.toList++(OpenSpec.ofChange Rows.renderTurnedSpec).bare.plain.varTypes Tryz.pinned.checked.prog).any (Tryz.pinned.checked.prog.loopsFrom ·)))=true:=by kernel_rfl
theorem MY:((Rows.renderTurnedRow.wideKeys==(Tryz.f4.params.toList++(OpenSpec.ofChange Rows.renderTurnedSpec).bare.plain.varTypes Tryz.pinned.checked.prog++Tryz.f4.resultTypes.toList).any (Tryz.pinned.checked.prog.wideKeysFrom ·)))=true:=by kernel_rfl
theorem MX:((OpenSpec.ofChange Rows.renderTurnedSpec).bare.vars.all (Tryz.pinned.checked.prog.varReadable ·))=true:=by kernel_rfl
theorem MW:(Tryz.f4.resultTypes.all (λt=>Tryz.pinned.checked.prog.readableRec t&&decide (t<Tryz.pinned.checked.prog.types.size)))=true:=by kernel_rfl
theorem MV:((Rows.renderTurnedRow.ifacesOut==Tryz.f4.resultTypes.toList.any (Tryz.pinned.checked.prog.ifacesRec ·)))=true:=by kernel_rfl
theorem MU:((Rows.renderTurnedRow.loopsOut==Tryz.f4.resultTypes.toList.any (Tryz.pinned.checked.prog.loopsFrom ·)))=true:=by kernel_rfl
theorem MT:((Rows.renderTurnedRow.plainKeys==Tryz.pinned.checked.prog.plainKeys))=true:=by kernel_rfl
theorem MS:(Rows.renderTurnedRow.shortTexts.isNone)=true:=by kernel_rfl
theorem MR:(Tryz.pinned.checked.prog.stopsHeard)=true:=by kernel_rfl
theorem MQ:(Tryz.pinned.checked.prog.mayEnter)=true:=by kernel_rfl
theorem MP:((Rows.renderTurnedRow.lifted==Tryz.pinned.checked.prog.liftsFinal))=true:=by kernel_rfl
theorem MO:((Tryz.pinned.checked.prog.make==some Rows.renderTurnedRow.make))=true:=by kernel_rfl
theorem MN:((Rows.renderTurnedRow.pinned==Rows.renderTurnedRow.pinnedBy))=true:=by kernel_rfl
theorem MM:((Rows.renderTurnedRow.veiled==(Tryz.f4.params.toList++(OpenSpec.ofChange Rows.renderTurnedSpec).bare.plain.varTypes Tryz.pinned.checked.prog++Tryz.f4.resultTypes.toList).any (Tryz.pinned.checked.prog.veiledRec ·)))=true:=by kernel_rfl
theorem ML:(Rows.renderTurnedRow.veiledFits Tryz.pinned.checked.prog Tryz.f4.params.toList (Tryz.f4.params.toList++(OpenSpec.ofChange Rows.renderTurnedSpec).bare.plain.varTypes Tryz.pinned.checked.prog++Tryz.f4.resultTypes.toList))=true:=by kernel_rfl
theorem Pf:joinedFacts Tryz.pinned.checked.prog 4 Tryz.f4 (OpenSpec.ofChange Rows.renderTurnedSpec).bare Rows.renderTurnedRow=true:=by
 unfold joinedFacts
 rw[Of,Oe,Od,Oa,NZ,NY,NX,NW,NV,NU,Ng,Nf,Nd,Nc,Nb,Na,MZ,MY,MX,MW,MV,MU,MT,MS,MR,MQ,MP,MO,MN,MM,ML]
 simp only[lT,Bool.and_true]
 kernel_rfl
end Go.Proofs.YtjpmmkodoeipmaaGreatDoor
end
