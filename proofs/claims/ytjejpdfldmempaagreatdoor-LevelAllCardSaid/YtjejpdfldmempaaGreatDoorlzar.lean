/- Merged: Grd Fal Ptc Ptd Ptx Ldw Lse Srt Gre Pso Bit Prm Prn Pin. -/
import Derived.Test.YtjejpdfldmempaaGreatDoorlzaq
import Derived.Test.YtjejpdfldmempaaGreatDoorlzap
import Derived.Lib.Join
import Derived.Test.YtjejpdfldmempaaGreatDoorlzak
import Derived.Test.YtjejpdfldmempaaGreatDoorCards
import Derived.Test.YtjejpdfldmempaaGreatDoorTie
import Derived.WalkKit
import Derived.ProofKit
import Derived.OpenShut
import Derived.ChangeMaps5
import Derived.ChangeSame
import Derived.SizedLaws
import Derived.Deep.DeepHandedRow
import Derived.Lib.LaidTab
import Derived.LaidHandle
import Derived.Carry
import Derived.Stop.LaidErr
import Derived.Shelf.SlSortCmp.WholeK
import Derived.Test.YtjejpdfldmempaaGreatDoorRows
import Derived.Test.YtjejpdfldmempaaGreatDoorlzah
import Derived.Shelf.SlSortCmp.NoneTotal
import Derived.Test.YtjejpdfldmempaaGreatDoorlzan
section
namespace Go.Proofs.YtjejpdfldmempaaGreatDoor
open Go.Sx Go.RowKit Go.Reg Go.Gr
set_option maxRecDepth 100000
def E0(m:Nat)(f:Nat->Int):List Da:=(List.range m).map λv=>dI (f v)
theorem Iz(m:Nat)(f:Nat->Int):(E0 m f).length=m:=by simp[E0]
theorem M9 {m v:Nat} {f:Nat->Int}(h:v<m):(E0 m f)[v]? =some (dI (f v)):=T2 _ h
theorem Hh {m:Nat} {f g:Nat->Int}(h:∀v,v<m->f v=g v):E0 m f=E0 m g:=by
 unfold E0
 exact List.map_congr_left λv hv=>by rw[h v (AJ.1 hv)]
theorem M8(m k:Nat)(f:Nat->Int)(x:Int):(E0 m f).set k (dI x)=E0 m (λv=>if v=k then x else f v):=by
 unfold E0
 rw[map_set]
 exact List.map_congr_left λv _=>by by_cases h:v=k<;>simp[h]
theorem eT(m:Nat):List.replicate m (dI 0)=E0 m (λ_=>0):=by
 simp[E0,List.map_const']
theorem SL(m:Nat)(f:Nat->Int):E0 m f=((List.range m).map f).map dI:=by simp[E0,Function.comp_def]
theorem A1 {ds:List Da} {i:Nat} {d:Da} {n:Int} {K:Nat->Da->Prop}(hx:ds[i]? =some d)(hn:n=i)(hK:K i d):∃(j:Nat) (d:Da),n=j/\ds[j]? =some d/\K j d:=⟨i,d,hn,hx,hK⟩
theorem IV:∀l:List Int,Fg (l.map dI)=true
 |[]=>rfl
 |x::l=>by simp only[Au,Fg,IV l];rfl
def FB(n:Nat)(E:List Edg):List Int:=(List.range (n+1)).map λv=>(off (FN E) v:Int)
def Qk(n:Nat)(E:List Edg):List Int:=(List.range n).flatMap (Du E)
def Yq(n:Nat)(E:List Edg):List Int:=(List.range n).flatMap (Gp E)
theorem Pn {l:List Int} {p:Nat}(h:p<(l.map dI).length):∃z:Int,(l.map dI)[p]? =some (.int .i64 z):=by
 rw[Ab]at h
 exact⟨l[p],by rw[Ac,Aa h];rfl⟩
def J9(E:List Edg)(i j:Nat)(v:Nat):Int:=(off (FN E) v:Int)+(FH E i j v).length
theorem iC(n:Nat)(E:List Edg)(he:∀e∈E,0<=e.a/\e.a<n/\0<=e.b/\e.b<n)(i j v:Nat)(u id:Int)(hv:v<n) {i' j':Nat}(hR:FH E i' j'=Dz (FH E i j) v u)(hI:Hm E i' j'=Dz (Hm E i j) v id):
  ∃p:Nat,p<2*E.length/\(E0 (n+1) (J9 E i j))[v]? =some (.int .i64 (p:Int))/\p<((NR n (FH E i j) (FN E)).map dI).length/\p<((NR n (Hm E i j) (FN E)).map dI).length/\
   ((NR n (FH E i j) (FN E)).map dI).set p (.int .i64 u)=(NR n (FH E i' j') (FN E)).map dI/\((NR n (Hm E i j) (FN E)).map dI).set p (.int .i64 id)=(NR n (Hm E i' j') (FN E)).map dI/\
   (E0 (n+1) (J9 E i j)).set v (.int .i64 (p+1))=E0 (n+1) (J9 E i' j'):=by
 have hroom:=PK hR
 have hl:=UF E i j v
 have ho:=Pe E n he
 have hm:=GR (FN E) (show v+1<=n by omega)
 simp only[off]at hm
 refine⟨off (FN E) v+(FH E i j v).length,by omega,?_,?_,?_,?_,?_,?_⟩
 ·rw[M9 (by omega)]
  simp only[dI,J9,Int.natCast_add]
 ·rw[Ab,TP (λw=>Pb E i j w)];omega
 ·rw[Ab,TP (λw=>Zg E i j w)];omega
 ·rw[hR,<-ZI u (λw=>Pb E i j w) hv hroom,DX];rfl
 ·rw[hI,<-ZI id (λw=>Zg E i j w) hv (by rw[hl];exact hroom),DX,hl];rfl
 ·refine(M8 _ _ _ _).trans (Hh λw _=>?_)
  simp only[J9,hR,jT]
  split
  ·rename_i h;subst h;omega
  ·rfl
def Kq:List (Nat×Plan):=[(1,.leaf [1,1,0,0,1,0,0,2,0,0,3] [0,1,2,3,4,5,6,7,8,9,10] [0,0,2,6,14,30,62,126,255,511,1023]),
 (5,.leaf [1,0,0,1,0,1,0,0,1,0,0,3] [4,0,1,2,3,5,6,7,8,9,10,11] [0,1,3,7,0,16,48,127,255,511,1023,2047]),
 (6,.leaf [1,0,0,1,0,1,0,0,1,0,0,3] [4,0,1,2,3,5,6,7,8,9,10,11] [0,1,3,7,0,16,48,127,255,511,1023,2047]),
 (11,.leaf [1,0,0,1,0,0,0,1,1,0,0,1,0,0,1,0,0,3] [4,5,12,0,1,2,3,6,7,8,9,10,11,13,14,15,16,17] [0,1,3,7,0,16,63,127,0,256,768,1792,0,7936,16128,32767,65535,131071]),
 (14,.split 1 18 (.split 8 15 (.split 15 18 (.leaf [1,1,1,0,0,1,0,0,2,1,0,0,1,0,0,2,0,0,3,0,0,3] [0,1,2,3,4,5,6,7,9,10,11,12,13,14,8,16,17,15,18,19,20,21] [0,0,0,4,12,28,60,124,252,0,512,1536,3584,7680,15872,32764,8189,73725,262143,524287,1048575,2097151]) (.leaf [1,1,1,0,0,1,0,0,2,1,0,0,1,0,0,2,0,0,3,0,0,3] [0,1,2,3,4,5,6,7,9,10,11,12,13,14,8,16,17,18,15,19,20,21] [0,0,0,4,12,28,60,124,252,0,512,1536,3584,7680,15872,491519,8189,73725,204799,524287,1048575,2097151])) (.leaf [1,1,1,0,0,1,0,0,2,1,0,0,1,0,0,2,0,0,3,0,0,3] [0,1,2,3,4,5,6,7,9,10,11,12,13,14,15,8,16,17,18,19,20,21] [0,0,0,4,12,28,60,124,65276,0,512,1536,3584,7680,15872,32256,65533,131069,262143,524287,1048575,2097151])) (.split 8 15 (.split 15 18 (.leaf [1,1,1,0,0,1,0,0,2,1,0,0,1,0,0,2,0,0,3,0,0,3] [0,2,3,4,5,6,7,9,10,11,12,13,14,8,16,17,15,18,1,19,20,21] [0,524285,0,4,12,28,60,124,252,0,512,1536,3584,7680,15872,32764,8189,73725,262141,524287,1048575,2097151]) (.leaf [1,1,1,0,0,1,0,0,2,1,0,0,1,0,0,2,0,0,3,0,0,3] [0,2,3,4,5,6,7,9,10,11,12,13,14,8,16,17,18,1,15,19,20,21] [0,466941,0,4,12,28,60,124,252,0,512,1536,3584,7680,15872,491517,8189,73725,204797,524287,1048575,2097151])) (.leaf [1,1,1,0,0,1,0,0,2,1,0,0,1,0,0,2,0,0,3,0,0,3] [0,2,3,4,5,6,7,9,10,11,12,13,14,15,8,16,17,18,1,19,20,21] [0,524285,0,4,12,28,60,124,65276,0,512,1536,3584,7680,15872,32256,65533,131069,262141,524287,1048575,2097151])))]
def NY:List FuncId:=[60]
theorem lF:Cu Tryz.prog NY Kq (Tryz.f167.body.getD .skip)=true:=by kernel_rfl
theorem gS(vs:Array Value)(w:World):(callFunc 167 vs).run C1.P w=.ok (.enter 167 vs) w:=by kernel_rfl
def XC:List (Nat×Plan):=[(0,.leaf [1,0,0,1,1,0,0,1,1,0,0,1,1,0,0,1,0,0,0,3,0,3] [5,13,16,17,0,1,2,3,4,6,7,8,9,10,11,12,14,15,18,19,20,21] [0,1,3,7,0,0,48,112,0,256,768,1792,0,0,12288,28672,0,0,131071,393215,1048575,2097151])]
def mI:List FuncId:=[]
theorem ZB:Cu Tryz.prog mI XC (Tryz.f223.body.getD .skip)=true:=by kernel_rfl
theorem Zf(vs:Array Value)(w:World):(callFunc 223 vs).run C1.P w=.ok (.enter 223 vs) w:=by kernel_rfl
set_option maxHeartbeats 4000000 in
theorem Xv(labels:List Int)(E:List Edg)(hn:labels.length<=4096)(hm:E.length<=16384)(he:∀e∈E,0<=e.a/\e.a<e.b/\e.b<labels.length):
  NT C1 167 243 [AS labels,D0 E,.nils,.nils,.nils] [] (λ_y ys=>ys=[AS labels,D0 E,AS (FB labels.length E),AS (Qk labels.length E),AS (Yq labels.length E)]):=by
 have hll:(labels.map dI).length=labels.length:=Ab _
 have hel:(E.map dE).length=E.length:=Ab _
 refine lJ Fb (pl:=Kq) (G:=NY) Tryz.func167 rfl Tryz.ntmps167 gS lF (by simp) ?_
 intro vs
 (conv=>whnf)
 (repeat' ((first|refine Af ?_ ?_|refine KN (labels.length+1) (by omega) (by omega) (by omega) ?_|refine nx ?_|refine Aw (λ_=>?_) (λ_=>?_)|exact A0)<;>conv=>whnf))
 have e0:List.replicate (labels.length+1) (dI 0)=E0 (labels.length+1) (Ey (E.take 0)):=by
  rw[eT]
  refine Hh λv _=>?_
  cases v<;>simp[Ey,FN,Du,Eu,DT]
 refine AC (ι:=Nat) (λi=>i<=E.length) (λi=>[(26,.d (.int .i64 i)),(25,.d (.int .i64 (E.map dE).length)),(24,.d (D0 E)),(1,.own 1)])
  (λi=>[(1,.cells 54 [.own 900]),(18,.slice 3 1 (E0 (labels.length+1) (Ey (E.take i)))),(900,.cells 243 [.d (AS labels),.d (D0 E),.own 18,.d .nils,.d .nils]),(901,.ghost vs [.own 900])])
  (λi=>E.length-i) 0 (λ_=>rfl) (Aj _) (.refl _ _) ⟨rfl,rfl,rfl,rfl,trivial⟩ ⟨rfl,AO e0,rfl,rfl,trivial⟩ ?_
 intro i hi
 refine Bj NY Kq ?_
 by_cases hlt:i<E.length
 ·have hx:=Aa hlt
  have hb:=he _ (AL hlt)
  generalize E[i]=x at hx hb
  obtain⟨a,b⟩:=x
  simp only at hb
  obtain⟨a',rfl⟩:=Ax hb.1
  obtain⟨b',rfl⟩:=Ax (show 0<=b by omega)
  have hxd:(E.map dE)[i]? =some (.agg [.int .i64 (a':Int),.int .i64 (b':Int)]):=by rw[Ac,hx];rfl
  have hstep:=Y9 hx (by omega)
  have ha1:=QT (E.take i) (a'+1)
  have hb1:=QT (E.take i) (b'+1)
  have htl:(E.take i).length<=16384:=by rw[As];omega
  (repeat' ((first|refine Af ?_ ?_|refine A1 hxd (by omega) ?_|refine FM (i:=a'+1) (by omega) (by rw[Iz];omega) ?_|refine FL (M9 (v:=a'+1) (by omega)) ?_|refine nx ?_|refine Aw (λ_=>?_) (λ_=>?_)|exact A0)<;>conv=>whnf))
  generalize hf1:(λv=>if v=a'+1 then Ey (E.take i) (a'+1)+1 else Ey (E.take i) v)=f1
  have hs1:(E0 (labels.length+1) (Ey (E.take i))).set (a'+1) (.int .i64 (Ey (E.take i) (a'+1)+1))=E0 (labels.length+1) f1:=by rw[<-hf1];exact M8 _ _ _ _
  rw[hs1]
  have hat:(E0 (labels.length+1) f1)[b'+1]? =some (.int .i64 (Ey (E.take i) (b'+1))):=by
   rw[M9 (by omega),<-hf1]
   have:¬b'+1=a'+1:=by omega
   simp only[this,if_false];rfl
  (repeat' ((first|refine Af ?_ ?_|refine FM (i:=b'+1) (by omega) (by rw[Iz];omega) ?_|refine FL hat ?_|refine nx ?_|refine Aw (λ_=>?_) (λ_=>?_)|exact A0)<;>conv=>whnf))
  have hs2:(E0 (labels.length+1) f1).set (b'+1) (.int .i64 (Ey (E.take i) (b'+1)+1))=E0 (labels.length+1) (Ey (E.take (i+1))):=by
   refine(M8 _ _ _ _).trans (Hh λv _=>?_)
   rw[hstep v,<-hf1]
  exact⟨i+1,_,_,hlt,.refl _ _,⟨rfl,rfl,rfl,rfl,trivial⟩,⟨rfl,AO hs2,rfl,rfl,trivial⟩,by omega⟩
 ·have hie:i=E.length:=by omega
  subst hie
  rw[De]
  ((conv=>whnf);repeat' ((first|refine odw ?_|refine nx ?_|refine Aw (λ_=>?_) (λ_=>?_))<;>conv=>whnf))
  have hedge:∀e∈E,0<=e.a/\e.a<labels.length/\0<=e.b/\e.b<labels.length:=λe h=>by have:=he e h;omega
  have e1:E0 (labels.length+1) (Ey E)=E0 (labels.length+1) (EY E 0):=Hh λv _=>(Xh E v).symm
  refine AC (ι:=Nat) (λj=>j<=labels.length) (λj=>[(58,.d (.int .i64 j)),(57,.d (.int .i64 (labels.map dI).length)),(1,.own 1)])
   (λj=>[(1,.cells 54 [.own 900]),(18,.slice 3 1 (E0 (labels.length+1) (EY E j))),(900,.cells 243 [.d (AS labels),.d (D0 E),.own 18,.d .nils,.d .nils]),(901,.ghost vs [.own 900])])
   (λj=>labels.length-j) 0 (λ_=>rfl) (Aj _) (.refl _ _) ⟨rfl,rfl,rfl,trivial⟩ ⟨rfl,AO e1,rfl,rfl,trivial⟩ ?_
  intro j hj
  refine Bj NY Kq ?_
  by_cases hlt:j<labels.length
  ·have hsb:∀v,v<=labels.length->0<=EY E j v/\EY E j v<=65536:=λv hv=>by
    unfold EY
    have h1:=sY E labels.length hedge hv
    have h2:=QT E v
    split<;>omega
   have h0:=hsb j (by omega)
   have h1:=hsb (j+1) (by omega)
   have hat0:(E0 (labels.length+1) (EY E j))[j]? =some (.int .i64 (EY E j j)):=M9 (by omega)
   have hat1:(E0 (labels.length+1) (EY E j))[j+1]? =some (.int .i64 (EY E j (j+1))):=M9 (by omega)
   (repeat' ((first|refine Af ?_ ?_|refine FM (i:=j+1) (by omega) (by rw[Iz];omega) ?_|refine FM (i:=j) (by omega) (by rw[Iz];omega) ?_|refine FL hat1 ?_|refine FL hat0 ?_|refine nx ?_|refine Aw (λ_=>?_) (λ_=>?_)|exact A0)<;>conv=>whnf))
   have hs2:(E0 (labels.length+1) (EY E j)).set (j+1) (.int .i64 (EY E j (j+1)+EY E j j))=E0 (labels.length+1) (EY E (j+1)):=
    (M8 _ _ _ _).trans (Hh λv _=>(Xi E j v).symm)
   exact⟨j+1,_,_,hlt,.refl _ _,⟨rfl,rfl,rfl,trivial⟩,⟨rfl,AO hs2,rfl,rfl,trivial⟩,by omega⟩
  ·have hje:j=labels.length:=by omega
   subst hje
   have e2:E0 (labels.length+1) (EY E labels.length)=(FB labels.length E).map dI:=by
    rw[FB,<-SL]
    refine Hh λv hv=>?_
    simp only[EY]
    rw[if_pos (by omega)]
   rw[e2]
   have hfl:(FB labels.length E).length=labels.length+1:=by simp[FB]
   ((conv=>whnf);repeat' ((first|refine odw ?_|refine nx ?_|refine Aw (λ_=>?_) (λ_=>?_))<;>conv=>whnf))
   refine Ra tab 83 rfl rfl (Ix (FB labels.length E) (by omega)) (λds h=>by rw[h];exact IV _) ?_
   rintro ds rfl
   (conv=>whnf)
   refine Fj (by omega) ?_
   (conv=>whnf)
   refine Fj (by omega) ?_
   (conv=>whnf)
   refine KN (2*E.length) (by omega) (by omega) (by omega) ?_
   (conv=>whnf)
   refine KN (2*E.length) (by omega) (by omega) (by omega) ?_
   (conv=>whnf)
   refine Af ?_ ?_
   focus
    (conv=>whnf)
    repeat' (first|(refine Fj (by omega) ?_;conv=>whnf)|(refine KN (2*E.length) (by omega) (by omega) (by omega) ?_;conv=>whnf))
    all_goals (repeat' (first|exact trivial|exact rfl|refine And.intro ?_ ?_))
    done
   (conv=>whnf)
   refine Af ?_ ?_
   focus
    (conv=>whnf)
    repeat' (first|(refine Fj (by omega) ?_;conv=>whnf)|(refine KN (2*E.length) (by omega) (by omega) (by omega) ?_;conv=>whnf))
    all_goals (repeat' (first|exact trivial|exact rfl|refine And.intro ?_ ?_))
    done
   (conv=>whnf)
   refine Af ?_ ?_
   focus
    (conv=>whnf)
    repeat' (first|(refine Fj (by omega) ?_;conv=>whnf)|(refine KN (2*E.length) (by omega) (by omega) (by omega) ?_;conv=>whnf))
    all_goals (repeat' (first|exact trivial|exact rfl|refine And.intro ?_ ?_))
    done
   (conv=>whnf)
   refine Af ?_ ?_
   focus
    (conv=>whnf)
    repeat' (first|(refine Fj (by omega) ?_;conv=>whnf)|(refine KN (2*E.length) (by omega) (by omega) (by omega) ?_;conv=>whnf))
    all_goals (repeat' (first|exact trivial|exact rfl|refine And.intro ?_ ?_))
    done
   (conv=>whnf)
   refine Af ?_ ?_
   focus
    (conv=>whnf)
    repeat' (first|(refine Fj (by omega) ?_;conv=>whnf)|(refine KN (2*E.length) (by omega) (by omega) (by omega) ?_;conv=>whnf))
    all_goals (repeat' (first|exact trivial|exact rfl|refine And.intro ?_ ?_))
    done
   (conv=>whnf)
   have hz92:List.replicate (2*E.length) (dI 0)=(NR labels.length (FH E 0 0) (FN E)).map dI:=by
    rw[W6 _ _ _ (RN E),Pe E _ hedge];simp
   have hz99:List.replicate (2*E.length) (dI 0)=(NR labels.length (Hm E 0 0) (FN E)).map dI:=by
    rw[W6 _ _ _ (bB E),Pe E _ hedge];simp
   have hz83:(FB labels.length E).map dI=E0 (labels.length+1) (J9 E 0 0):=by
    rw[FB,<-SL]
    exact Hh λv _=>by simp[J9,RN]
   refine AC (ι:=Nat) (λi=>i<=E.length) (λi=>[(110,.d (.int .i64 i)),(109,.d (.int .i64 (E.map dE).length)),(108,.d (D0 E)),(6,.func (.func 223) [] [.own 1,.own 5]),(1,.own 1)])
    (λi=>[(1,.cells 54 [.own 900]),(5,.cells 28 [.own 83]),(18,.slice 3 1 ((FB labels.length E).map dI)),(83,.slice 3 1 (E0 (labels.length+1) (J9 E i 0))),(92,.slice 3 1 ((NR labels.length (FH E i 0) (FN E)).map dI)),(99,.slice 3 1 ((NR labels.length (Hm E i 0) (FN E)).map dI)),
     (900,.cells 243 [.d (AS labels),.d (D0 E),.own 18,.own 92,.own 99]),(901,.ghost vs [.own 900])])
    (λi=>E.length-i) 0 (λ_=>rfl) (Aj _) (.refl _ _) ⟨rfl,rfl,rfl,rfl,rfl,trivial⟩ ⟨rfl,rfl,rfl,AO hz83,AO hz92,AO hz99,rfl,rfl,trivial⟩ ?_
   intro i hi
   refine Bj NY Kq ?_
   by_cases hlt:i<E.length
   ·have hx:=Aa hlt
    have hb:=he _ (AL hlt)
    generalize E[i]=x at hx hb
    obtain⟨a,b⟩:=x
    simp only at hb
    obtain⟨a',rfl⟩:=Ax hb.1
    obtain⟨b',rfl⟩:=Ax (show 0<=b by omega)
    have hxd:(E.map dE)[i]? =some (.agg [.int .i64 (a':Int),.int .i64 (b':Int)]):=by rw[Ac,hx];rfl
    have hR:=aZ hx
    have hI:=bD hx
    have hroom:=PK hR
    have hput:=iC labels.length E hedge i 0 b' (a':Int) (i:Int) (by omega) hR hI
    obtain⟨p,hp,hat,h92,h99,s92,s99,s83⟩:=hput
    (repeat' ((first|refine Af ?_ ?_|refine A1 hxd (by omega) ?_|refine nx ?_|refine Aw (λ_=>?_) (λ_=>?_)|exact A0)<;>conv=>whnf))
    refine JY 200 [(110,.d (.int .i64 i)),(109,.d (.int .i64 (E.map dE).length)),(108,.d (D0 E)),(6,.func (.func 223) [] [.own 1,.own 5]),(1,.own 1)] Fb (pl:=XC) (G:=mI) Tryz.func223 rfl Tryz.ntmps223 Zf ZB (MB rfl) rfl ⟨rfl,rfl,rfl,rfl,rfl,trivial⟩ rfl ?_
    intro us
    (conv=>whnf)
    have h83:b'<(E0 (labels.length+1) (J9 E i 0)).length:=by rw[Iz];omega
    obtain⟨o92,ho92⟩:=Pn h92
    obtain⟨o99,ho99⟩:=Pn h99
    have hb1:0<=(p:Int)+1/\(p:Int)+1<=65536:=by omega
    clear e0 e1 e2 hz92 hz99 hz83 hfl hroom hR hI hx hxd hedge he hn hi
    repeat' (first|(refine FL hat ?_;conv=>whnf)|(refine FL ho92 ?_;conv=>whnf)|(refine FL ho99 ?_;conv=>whnf)|(refine FM (i:=b') rfl h83 ?_;conv=>whnf)|(refine FM (i:=p) rfl h92 ?_;conv=>whnf)|(refine FM (i:=p) rfl h99 ?_;conv=>whnf))
    refine Fj (by omega) ?_
    (conv=>whnf)
    repeat' (first|(refine FL hat ?_;conv=>whnf)|(refine FM (i:=b') rfl h83 ?_;conv=>whnf))
    rw[s92,s99,s83]
    refine IC ?_
    (conv=>whnf)
    refine Fj (by omega) ?_
    (conv=>whnf)
    exact⟨i+1,_,_,hlt,.refl _ _,⟨rfl,rfl,rfl,rfl,rfl,trivial⟩,⟨rfl,rfl,rfl,rfl,rfl,rfl,rfl,rfl,trivial⟩,by omega⟩
   ·have hie:i=E.length:=by omega
    subst hie
    ((conv=>whnf);repeat' ((first|refine odw ?_|refine nx ?_|refine Aw (λ_=>?_) (λ_=>?_))<;>conv=>whnf))
    refine AC (ι:=Nat) (λi=>i<=E.length) (λi=>[(128,.d (.int .i64 i)),(127,.d (.int .i64 (E.map dE).length)),(126,.d (D0 E)),(6,.func (.func 223) [] [.own 1,.own 5]),(1,.own 1)])
     (λi=>[(1,.cells 54 [.own 900]),(5,.cells 28 [.own 83]),(18,.slice 3 1 ((FB labels.length E).map dI)),(83,.slice 3 1 (E0 (labels.length+1) (J9 E E.length i))),(92,.slice 3 1 ((NR labels.length (FH E E.length i) (FN E)).map dI)),(99,.slice 3 1 ((NR labels.length (Hm E E.length i) (FN E)).map dI)),
      (900,.cells 243 [.d (AS labels),.d (D0 E),.own 18,.own 92,.own 99]),(901,.ghost vs [.own 900])])
     (λi=>E.length-i) 0 (λ_=>rfl) (Aj _) (.refl _ _) ⟨rfl,rfl,rfl,rfl,rfl,trivial⟩ ⟨rfl,rfl,rfl,rfl,rfl,rfl,rfl,rfl,trivial⟩ ?_
    intro i hi
    refine Bj NY Kq ?_
    by_cases hlt:i<E.length
    ·have hx:=Aa hlt
     have hb:=he _ (AL hlt)
     generalize E[i]=x at hx hb
     obtain⟨a,b⟩:=x
     simp only at hb
     obtain⟨a',rfl⟩:=Ax hb.1
     obtain⟨b',rfl⟩:=Ax (show 0<=b by omega)
     have hxd:(E.map dE)[i]? =some (.agg [.int .i64 (a':Int),.int .i64 (b':Int)]):=by rw[Ac,hx];rfl
     have hR:=aY (k:=E.length) hx
     have hI:=bC (k:=E.length) hx
     have hroom:=PK hR
     have hput:=iC labels.length E hedge E.length i a' (b':Int) (i:Int) (by omega) hR hI
     obtain⟨p,hp,hat,h92,h99,s92,s99,s83⟩:=hput
     (repeat' ((first|refine Af ?_ ?_|refine A1 hxd (by omega) ?_|refine nx ?_|refine Aw (λ_=>?_) (λ_=>?_)|exact A0)<;>conv=>whnf))
     refine JY 200 [(128,.d (.int .i64 i)),(127,.d (.int .i64 (E.map dE).length)),(126,.d (D0 E)),(6,.func (.func 223) [] [.own 1,.own 5]),(1,.own 1)] Fb (pl:=XC) (G:=mI) Tryz.func223 rfl Tryz.ntmps223 Zf ZB (MB rfl) rfl ⟨rfl,rfl,rfl,rfl,rfl,trivial⟩ rfl ?_
     intro us
     (conv=>whnf)
     have h83:a'<(E0 (labels.length+1) (J9 E E.length i)).length:=by rw[Iz];omega
     obtain⟨o92,ho92⟩:=Pn h92
     obtain⟨o99,ho99⟩:=Pn h99
     have hb1:0<=(p:Int)+1/\(p:Int)+1<=65536:=by omega
     clear hroom hR hI hx hxd
     repeat' (first|(refine FL hat ?_;conv=>whnf)|(refine FL ho92 ?_;conv=>whnf)|(refine FL ho99 ?_;conv=>whnf)|(refine FM (i:=a') rfl h83 ?_;conv=>whnf)|(refine FM (i:=p) rfl h92 ?_;conv=>whnf)|(refine FM (i:=p) rfl h99 ?_;conv=>whnf))
     refine Fj (by omega) ?_
     (conv=>whnf)
     repeat' (first|(refine FL hat ?_;conv=>whnf)|(refine FM (i:=a') rfl h83 ?_;conv=>whnf))
     rw[s92,s99,s83]
     refine IC ?_
     (conv=>whnf)
     refine Fj (by omega) ?_
     (conv=>whnf)
     exact⟨i+1,_,_,hlt,.refl _ _,⟨rfl,rfl,rfl,rfl,rfl,trivial⟩,⟨rfl,rfl,rfl,rfl,rfl,rfl,rfl,rfl,trivial⟩,by omega⟩
    ·have hie:i=E.length:=by omega
     subst hie
     have en:NR labels.length (FH E E.length E.length) (FN E)=Qk labels.length E:=by
      rw[gW];exact W7 (λv _=>rfl)
     have ei:NR labels.length (Hm E E.length E.length) (FN E)=Yq labels.length E:=by
      rw[gX]
      exact W7 (λv _=>by rw[Gp,Ah,(Kx E v).1,(Kx E v).2,FN,Du,Ah])
     rw[en,ei]
     ((conv=>whnf);repeat' ((first|refine odw ?_|refine nx ?_|refine Aw (λ_=>?_) (λ_=>?_))<;>conv=>whnf))
     refine⟨_,_,_,[AS labels,D0 E,AS (FB labels.length E),AS (Qk labels.length E),AS (Yq labels.length E)],.frz 18 rfl (.frz 92 rfl (.frz 99 rfl (.refl _ _))),rfl,rfl,rfl,?_⟩
     rfl
end Go.Proofs.YtjejpdfldmempaaGreatDoor
end
section
namespace Go.Proofs.YtjejpdfldmempaaGreatDoor
open Go.Sx Go.RowKit Go.Reg
set_option maxRecDepth 100000
def dF(c a:Int)(s:ByteArray):Da:=.iface 141 (.ref (.agg [.int .i64 c,.int .i64 a,.str s]))
def dS(s:ByteArray)(x:Da):Da:=.iface 172 (.ref (.agg [.str s,x]))
theorem Cj(c a:Int)(s:ByteArray):Pure C1 49 [.int .i64 c,.int .i64 a,.str s] (λy=>y=dF c a s):=by
 refine AK Tryz.func49 Tryz.ntmps49 [] [] ?_
 ((conv=>whnf);repeat' ((first|refine odw ?_|refine nx ?_|refine Aw (λ_=>?_) (λ_=>?_))<;>conv=>whnf))
 all_goals exact rfl
theorem oU(s:ByteArray)(t:TypeId)(x:Da):Pure C1 56 [.str s,.iface t x] (λy=>y=dS s ((Da.iface t x).plain)):=by
 refine AK Tryz.func56 Tryz.ntmps56 [] [] ?_
 ((conv=>whnf);repeat' ((first|refine odw ?_|refine nx ?_|refine Aw (λ_=>?_) (λ_=>?_))<;>conv=>whnf))
 all_goals exact rfl
theorem In(s:ByteArray)(c a:Int)(z:ByteArray):Pure C1 56 [.str s,dF c a z] (λy=>y=dS s (dF c a z)):=oU s _ _
end Go.Proofs.YtjejpdfldmempaaGreatDoor
end
section
namespace Go.Proofs.YtjejpdfldmempaaGreatDoor
open Go.Sx Go.RowKit Go.Reg Go.Gr
set_option maxRecDepth 100000
def bT:ByteArray:=⟨#[112,97,116,116,101,114,110]⟩
def Yi:ByteArray:=⟨#[108,97,98,101,108]⟩
def kT:ByteArray:=⟨#[101,100,103,101]⟩
def GE(p:Pt):Da:=.agg [AS p.labels,D0 p.edges]
def EV(l:List Int):Da:=match Ik l with
 |none=>.nili
 |some (c,i)=>dF c i (if c=6 then bT else Yi)
def Jz(p:Pt):Da:=match Ik p.labels with
 |some (c,i)=>dF c i (if c=6 then bT else Yi)
 |
  none=>match Y7 p.labels.length p.edges with
  |none=>.nili
  |some (c,i)=>dF c i kT
def qT(x:Option (Int×Nat)):Da:=match x with
 |none=>.tuple [.int .i64 0,.int .i64 0]
 |some (c,i)=>.tuple [.int .i64 c,.int .i64 i]
theorem V5 {l:List Int}(h:8<l.length):Ik l=some (6,0):=if_pos h
theorem Zz {l:List Int} {i:Nat} {x:Int}(h8:¬8<l.length)(h:∀k y,k<i->l[k]? =some y->B4 y=false)(hx:l[i]? =some x)(hb:B4 x=true):Ik l=some (3,i):=by
 unfold Ik
 rw[if_neg h8]
 refine O4 (i:=i) (λk hk=>?_) ?_ (Ae.1 hx).1
 ·have hkl:k<l.length:=by have:=(Ae.1 hx).1;omega
  have:=h k _ hk (Aa hkl)
  rw[Aa hkl]
  simp[this]
 ·rw[hx];simp[hb]
theorem Pj {l:List Int}(h8:¬8<l.length)(h:∀k y,k<l.length->l[k]? =some y->B4 y=false):Ik l=none:=by
 unfold Ik
 rw[if_neg h8]
 refine JQ λk hk=>?_
 have:=h k _ hk (Aa hk)
 rw[Aa hk]
 simp[this]
theorem W4 {l:List Int} {i:Nat} {x:Int}(h:∀k y,k<i->l[k]? =some y->B4 y=false)(hx:l[i]? =some x)(hb:B4 x=false):∀k y,k<i+1->l[k]? =some y->B4 y=false:=by
 intro k y hk hy
 rcases AP k i with hl|hl
 ·exact h k y hl hy
 ·have:k=i:=by omega
  subst this
  rw[hx]at hy;cases hy;exact hb
theorem lP {x:Int}(h:¬(0<=x/\x<=255)):B4 x=true:=by simp[B4];omega
theorem ZF {x:Int}(h:0<=x/\x<=255):B4 x=false:=by simp[B4];omega
theorem LX(l:List Int)(hm:l.length<=9223372036854775807):Pure C1 47 [AS l] (λy=>y=EV l):=by
 have hdl:(l.map dI).length=l.length:=Ab _
 refine AK Tryz.func47 Tryz.ntmps47 [] [] ?_
 by_cases h8:8<l.length
 ·have e:EV l=dF 6 0 bT:=by unfold EV;rw[V5 h8];rfl
  rw[e]
  (conv=>whnf)
  (repeat' ((first|refine Af ?_ ?_|refine Ad rfl (Cj 6 0 bT) ?_|refine nx ?_|refine Aw (λ_=>?_) (λ_=>?_)|exact A0)<;>conv=>whnf))
  exact rfl
 ((conv=>whnf);repeat' ((first|refine odw ?_|refine nx ?_|refine Aw (λ_=>?_) (λ_=>?_))<;>conv=>whnf))
 refine AC (ι:=Nat) (λi=>i<=l.length/\∀k y,k<i->l[k]? =some y->B4 y=false) (λi=>[(11,.d (.int .i64 i)),(10,.d (.int .i64 l.length)),(9,.d (AS l))]) (λ_=>[]) (λi=>l.length-i) 0 (λ_=>rfl) ⟨Aj _,(by intro k y h;omega)⟩ (.refl _ _) ⟨rfl,by rw[<-hdl];rfl,rfl,trivial⟩ trivial ?_
 rintro i ⟨hi,hok⟩
 refine Bj [] [] ?_
 by_cases hil:i<l.length
 ·have hx:=Aa hil
  generalize l[i]=x at hx
  have hxd:(l.map dI)[i]? =some (.int .i64 x):=by rw[Ac,hx];rfl
  by_cases hb:0<=x/\x<=255
  ·(conv=>whnf)
   (repeat' ((first|refine Af ?_ ?_|refine A1 hxd rfl ?_|refine nx ?_|refine Aw (λ_=>?_) (λ_=>?_)|exact A0)<;>conv=>whnf))
   exact⟨i+1,_,_,⟨by omega,W4 hok hx (ZF hb)⟩,.refl _ _,⟨rfl,rfl,rfl,trivial⟩,trivial,by omega⟩
  ·have e:EV l=dF 3 i Yi:=by unfold EV;rw[Zz h8 hok hx (lP hb)];rfl
   rw[e]
   by_cases h0:x<0
   ·(conv=>whnf)
    (repeat' ((first|refine Af ?_ ?_|refine A1 hxd rfl ?_|refine Ad rfl (Cj 3 i Yi) ?_|refine nx ?_|refine Aw (λ_=>?_) (λ_=>?_)|exact A0)<;>conv=>whnf))
    exact rfl
   ·(conv=>whnf)
    (repeat' ((first|refine Af ?_ ?_|refine A1 hxd rfl ?_|refine Ad rfl (Cj 3 i Yi) ?_|refine nx ?_|refine Aw (λ_=>?_) (λ_=>?_)|exact A0)<;>conv=>whnf))
    exact rfl
 ·have e:EV l=.nili:=by unfold EV;rw[Pj h8 (λk y hk hy=>hok k y (by omega) hy)]
  rw[e]
  ((conv=>whnf);repeat' ((first|refine odw ?_|refine nx ?_|refine Aw (λ_=>?_) (λ_=>?_))<;>conv=>whnf))
  exact rfl
theorem Tl(l:List Int)(hm:l.length<=9223372036854775807):Pure C1 180 [AS l] (λy=>y=qT (Ik l)):=by
 have hdl:(l.map dI).length=l.length:=Ab _
 refine AK Tryz.func180 Tryz.ntmps180 [] [] ?_
 by_cases h8:8<l.length
 ·rw[V5 h8]
  ((conv=>whnf);repeat' ((first|refine odw ?_|refine nx ?_|refine Aw (λ_=>?_) (λ_=>?_))<;>conv=>whnf))
  exact rfl
 ((conv=>whnf);repeat' ((first|refine odw ?_|refine nx ?_|refine Aw (λ_=>?_) (λ_=>?_))<;>conv=>whnf))
 refine AC (ι:=Nat) (λi=>i<=l.length/\∀k y,k<i->l[k]? =some y->B4 y=false) (λi=>[(4,.d (.int .i64 i)),(0,.d (AS l))]) (λ_=>[]) (λi=>l.length-i) 0 (λ_=>rfl) ⟨Aj _,(by intro k y h;omega)⟩ (.refl _ _) ⟨rfl,rfl,trivial⟩ trivial ?_
 rintro i ⟨hi,hok⟩
 refine Bj [] [] ?_
 by_cases hil:i<l.length
 ·have hx:=Aa hil
  generalize l[i]=x at hx
  have hxd:(l.map dI)[i]? =some (.int .i64 x):=by rw[Ac,hx];rfl
  by_cases hb:0<=x/\x<=255
  ·(conv=>whnf)
   (repeat' ((first|refine Af ?_ ?_|refine A1 hxd rfl ?_|refine nx ?_|refine Aw (λ_=>?_) (λ_=>?_)|exact A0)<;>conv=>whnf))
   exact⟨i+1,_,_,⟨by omega,W4 hok hx (ZF hb)⟩,.refl _ _,⟨rfl,rfl,trivial⟩,trivial,by omega⟩
  ·rw[Zz h8 hok hx (lP hb)]
   by_cases h0:x<0
   ·(conv=>whnf)
    (repeat' ((first|refine Af ?_ ?_|refine A1 hxd rfl ?_|refine nx ?_|refine Aw (λ_=>?_) (λ_=>?_)|exact A0)<;>conv=>whnf))
    exact rfl
   ·(conv=>whnf)
    (repeat' ((first|refine Af ?_ ?_|refine A1 hxd rfl ?_|refine nx ?_|refine Aw (λ_=>?_) (λ_=>?_)|exact A0)<;>conv=>whnf))
    exact rfl
 ·rw[Pj h8 (λk y hk hy=>hok k y (by omega) hy)]
  ((conv=>whnf);repeat' ((first|refine odw ?_|refine nx ?_|refine Aw (λ_=>?_) (λ_=>?_))<;>conv=>whnf))
  exact rfl
theorem LU(e:Edg):Pure C1 57 [dE e] (λy=>y=dE (turn e)):=by
 refine AK Tryz.func57 Tryz.ntmps57 [] [] ?_
 ((conv=>whnf);repeat' ((first|refine odw ?_|refine nx ?_|refine Aw (λ_=>?_) (λ_=>?_))<;>conv=>whnf))
 exact rfl
theorem Oa(e:Edg)(n:Nat):Pure C1 48 [dE e,.int .i64 n] (λy=>y=.bool (decide (0<=min e.a e.b/\max e.a e.b<n))):=by
 refine AK Tryz.func48 Tryz.ntmps48 [] [] ?_
 by_cases h1:0<=min e.a e.b
 ·by_cases h2:max e.a e.b<n
  ·rw[decide_eq_true ⟨h1,h2⟩]
   ((conv=>whnf);repeat' ((first|refine odw ?_|refine nx ?_|refine Aw (λ_=>?_) (λ_=>?_))<;>conv=>whnf))
   exact congrArg Da.bool (decide_eq_true h2)
  ·rw[decide_eq_false (λh=>h2 h.2)]
   ((conv=>whnf);repeat' ((first|refine odw ?_|refine nx ?_|refine Aw (λ_=>?_) (λ_=>?_))<;>conv=>whnf))
   exact congrArg Da.bool (decide_eq_false h2)
 ·rw[decide_eq_false (λh=>h1 h.1)]
  ((conv=>whnf);repeat' ((first|refine odw ?_|refine nx ?_|refine Aw (λ_=>?_) (λ_=>?_))<;>conv=>whnf))
  exact rfl
def sJ:List (Nat×Plan):=[(1,.leaf [0,1,0,1,2,0,1,0,1,2,6,2,0] [0,2,5,7,1,3,6,8,4,9,10,11,12] [0,1,0,4,15,0,32,0,128,511,1023,2047,4095])]
def vK:List FuncId:=[101,100]
theorem On(x y:Edg):Pure C1 50 [dE x,dE y] (λz=>z=.int .i64 (Ce x y)):=by
 refine AK Tryz.func50 Tryz.ntmps50 vK sJ ?_
 have h1:=G5 x.a y.a
 have h2:=G5 x.b y.b
 have h3:=Zo (CF x.a y.a) (CF x.b y.b)
 (conv=>whnf)
 (repeat' ((first|refine Af ?_ ?_|refine Ad rfl h1 ?_|refine Ad rfl h2 ?_|refine AR tab rfl h3 rfl ?_|refine nx ?_|refine Aw (λ_=>?_) (λ_=>?_)|exact A0)<;>conv=>whnf))
 exact rfl
theorem bF(e:Edg)(n:Nat):Pure C1 181 [dE e,.int .i64 n] (λy=>y=.bool (decide (¬(0<=min e.a e.b/\max e.a e.b<n)))):=by
 refine AK Tryz.func181 Tryz.ntmps181 [] [] ?_
 by_cases h1:e.a<0
 ·rw[decide_eq_true (by omega)]
  ((conv=>whnf);repeat' ((first|refine odw ?_|refine nx ?_|refine Aw (λ_=>?_) (λ_=>?_))<;>conv=>whnf))
  exact rfl
 by_cases h2:e.b<0
 ·rw[decide_eq_true (by omega)]
  ((conv=>whnf);repeat' ((first|refine odw ?_|refine nx ?_|refine Aw (λ_=>?_) (λ_=>?_))<;>conv=>whnf))
  exact rfl
 by_cases h3:(n:Int)<=e.a
 ·rw[decide_eq_true (by omega)]
  ((conv=>whnf);repeat' ((first|refine odw ?_|refine nx ?_|refine Aw (λ_=>?_) (λ_=>?_))<;>conv=>whnf))
  exact rfl
 by_cases h4:(n:Int)<=e.b
 ·rw[decide_eq_true (by omega)]
  ((conv=>whnf);repeat' ((first|refine odw ?_|refine nx ?_|refine Aw (λ_=>?_) (λ_=>?_))<;>conv=>whnf))
  exact congrArg Da.bool (decide_eq_true h4)
 ·rw[decide_eq_false (by omega)]
  ((conv=>whnf);repeat' ((first|refine odw ?_|refine nx ?_|refine Aw (λ_=>?_) (λ_=>?_))<;>conv=>whnf))
  exact congrArg Da.bool (decide_eq_false h4)
theorem UJ(x y:Edg):Pure C1 182 [dE x,dE y] (λz=>z=.bool (decide (Ce x y<0))):=by
 refine AK Tryz.func182 Tryz.ntmps182 [] [] ?_
 have hc:Ce x y<0↔x.a<y.a\/(x.a=y.a/\x.b<y.b):=by
  unfold Ce CF
  repeat' split
  all_goals omega
 by_cases h1:x.a<y.a
 ·rw[decide_eq_true (hc.2 (.inl h1))]
  ((conv=>whnf);repeat' ((first|refine odw ?_|refine nx ?_|refine Aw (λ_=>?_) (λ_=>?_))<;>conv=>whnf))
  exact rfl
 by_cases h2:x.a=y.a
 ·by_cases h3:x.b<y.b
  ·rw[decide_eq_true (hc.2 (.inr ⟨h2,h3⟩))]
   ((conv=>whnf);repeat' ((first|refine odw ?_|refine nx ?_|refine Aw (λ_=>?_) (λ_=>?_))<;>conv=>whnf))
   exact congrArg Da.bool (decide_eq_true h3)
  ·rw[decide_eq_false (λh=>by rcases hc.1 h with h|h;exact h1 h;exact h3 h.2)]
   ((conv=>whnf);repeat' ((first|refine odw ?_|refine nx ?_|refine Aw (λ_=>?_) (λ_=>?_))<;>conv=>whnf))
   exact congrArg Da.bool (decide_eq_false h3)
 ·rw[decide_eq_false (λh=>by rcases hc.1 h with h|h;exact h1 h;exact h2 h.1)]
  ((conv=>whnf);repeat' ((first|refine odw ?_|refine nx ?_|refine Aw (λ_=>?_) (λ_=>?_))<;>conv=>whnf))
  exact rfl
end Go.Proofs.YtjejpdfldmempaaGreatDoor
end
section
namespace Go.Gr
theorem Mu {n:Nat} {E:List Edg} {i:Nat} {e:Edg}(hx:E[i]? =some e)(h1:0<=min e.a e.b/\max e.a e.b<n)(h2:e.a<e.b)(h3:i=0\/∃q,E[i-1]? =some q/\Ce q e<0):SE n E i=none:=by
 unfold SE
 rw[hx]
 simp only[Option.map_eq_none_iff]
 unfold TK
 rw[if_neg (λh=>h h1),if_neg (by omega)]
 rcases h3 with h3|⟨q,h3,h4⟩
 ·rw[if_pos h3]
 ·by_cases h0:i=0
  ·rw[if_pos h0]
  ·rw[if_neg h0,h3]
   simp only
   rw[if_pos h4]
theorem Z9 {n:Nat} {E:List Edg} {i:Nat} {e:Edg}(hx:E[i]? =some e)(h1:¬(0<=min e.a e.b/\max e.a e.b<n)):SE n E i=some (3,i):=by
 unfold SE
 rw[hx]
 simp only
 unfold TK
 rw[if_pos h1];rfl
theorem Wj {n:Nat} {E:List Edg} {i:Nat} {e:Edg}(hx:E[i]? =some e)(h1:0<=min e.a e.b/\max e.a e.b<n)(h2:e.b<=e.a):SE n E i=some (2,i):=by
 unfold SE
 rw[hx]
 simp only
 unfold TK
 rw[if_neg (λh=>h h1),if_pos h2];rfl
theorem SD {n:Nat} {E:List Edg} {i:Nat} {e q:Edg}(hx:E[i]? =some e)(h1:0<=min e.a e.b/\max e.a e.b<n)(h2:e.a<e.b)(h0:i≠0)(hq:E[i-1]? =some q)(h3:¬Ce q e<0):SE n E i=some (2,i):=by
 unfold SE
 rw[hx]
 simp only
 unfold TK
 rw[if_neg (λh=>h h1),if_neg (by omega),if_neg h0,hq]
 simp only
 rw[if_neg h3];rfl
theorem K0 {n:Nat} {E:List Edg} {i:Nat} {y:Int×Nat}(h:∀k,k<i->SE n E k=none)(hi:SE n E i=some y):Y7 n E=some y:=by
 have hl:i<E.length:=by
  rcases AP i E.length with h|h
  ·exact h
  ·unfold SE at hi
   rw[Bh h]at hi
   cases hi
 exact O4 h hi hl
theorem Z8 {n:Nat} {E:List Edg}(h:∀k,k<E.length->SE n E k=none):Y7 n E=none:=JQ h
theorem Kr {n:Nat} {E:List Edg} {i:Nat}(h:∀k,k<i->SE n E k=none)(hi:SE n E i=none):∀k,k<i+1->SE n E k=none:=by
 intro k hk
 rcases AP k i with hl|hl
 ·exact h k hl
 ·have:k=i:=by omega
  subst this;exact hi
def OH(E:List Edg)(x y:Int):Bool:=E.any λe=>decide (e.a=x/\e.b=y\/e.a=y/\e.b=x)
def Y6(E:List Edg)(e:Edg):Int:=match E.findIdx? (λx=>decide (x=e))with
 |none=>-1
 |some i=>i
theorem pF {E:List Edg} {e:Edg} {i:Nat}(h:∀k x,k<i->E[k]? =some x->x≠e)(hx:E[i]? =some e):Y6 E e=i:=by
 have:E.findIdx? (λx=>decide (x=e))=some i:=by
  rw[AN]
  obtain⟨h1,h2⟩:=Ae.1 hx
  refine⟨h1,by simp[h2],λj hj=>?_⟩
  have:=h j _ hj (Aa (by omega))
  simpa using this
 unfold Y6;rw[this]
theorem pE {E:List Edg} {e:Edg}(h:∀k x,k<E.length->E[k]? =some x->x≠e):Y6 E e=-1:=by
 have:E.findIdx? (λx=>decide (x=e))=none:=by
  rw[AM]
  intro x hx
  obtain⟨i,hi,rfl⟩:=BX.1 hx
  simpa using h i _ hi (Aa hi)
 unfold Y6;rw[this]
theorem kX {E:List Edg} {e:Edg}:(0<=Y6 E e)↔e∈E:=by
 unfold Y6
 cases h:E.findIdx? (λx=>decide (x=e))with
 |
  none=>
  rw[AM]at h
  refine⟨λh=>by simp at h,λhe=>?_⟩
  have:=h e he
  simp at this
 |
  some i=>
  rw[AN]at h
  obtain⟨h1,h2,_⟩:=h
  refine⟨λ_=>?_,λ_=>by simp⟩
  have h2:E[i]=e:=by simpa using h2
  rw[<-h2];exact AL h1
end Go.Gr
namespace Go.Proofs.YtjejpdfldmempaaGreatDoor
open Go.Sx Go.RowKit Go.Reg Go.Gr
set_option maxRecDepth 100000
def iT:List (Nat×Plan):=[(9,.leaf [0,1,0,1,0,0,0,0,0,0,1,0,0,0,1,1,2,0,0,0,0] [0,2,1,3,4,5,6,7,8,9,11,12,10,13,14,15,16,17,18,19,20] [0,1,0,4,15,31,63,127,255,511,1023,511,2559,8191,16383,511,65535,131071,262143,524287,1048575])]
def rL:List FuncId:=[50,48]
set_option maxHeartbeats 4000000 in
theorem Hs(p:Pt)(hm:p.labels.length<=9223372036854775807)(hme:p.edges.length<=9223372036854775807):Pure C1 13 [GE p] (λy=>y=Jz p):=by
 have hdl:(p.labels.map dI).length=p.labels.length:=Ab _
 have hde:(p.edges.map dE).length=p.edges.length:=Ab _
 have hlb:=LX p.labels hm
 refine AK Tryz.func13 Tryz.ntmps13 rL iT ?_
 cases hl:Ik p.labels with
 |
  some x=>
  obtain⟨c,i⟩:=x
  have e1:EV p.labels=dF c i (if c=6 then bT else Yi):=by unfold EV;rw[hl]
  have e2:Jz p=dF c i (if c=6 then bT else Yi):=by unfold Jz;rw[hl]
  rw[e1]at hlb
  rw[e2]
  (conv=>whnf)
  (repeat' ((first|refine Af ?_ ?_|refine Ad rfl hlb ?_|refine nx ?_|refine Aw (λ_=>?_) (λ_=>?_)|exact A0)<;>conv=>whnf))
  exact rfl
 |
  none=>
  have e1:EV p.labels=.nili:=by unfold EV;rw[hl]
  rw[e1]at hlb
  have e2:Jz p=match Y7 p.labels.length p.edges with|none=>.nili|some (c,i)=>dF c i kT:=by unfold Jz;rw[hl];try rfl
  rw[e2]
  (conv=>whnf)
  (repeat' ((first|refine Af ?_ ?_|refine Ad rfl hlb ?_|refine nx ?_|refine Aw (λ_=>?_) (λ_=>?_)|exact A0)<;>conv=>whnf))
  refine AC (ι:=Nat) (λi=>i<=p.edges.length/\∀k,k<i->SE p.labels.length p.edges k=none) (λi=>[(15,.d (.int .i64 i)),(14,.d (.int .i64 p.edges.length)),(13,.d (D0 p.edges)),(1,.own 1)]) (λ_=>[(1,.cells 31 [.d (AS p.labels),.d (D0 p.edges)])]) (λi=>p.edges.length-i) 0 (λ_=>rfl) ⟨Aj _,(by intro k h;omega)⟩ (.refl _ _) ⟨rfl,by rw[<-hde];rfl,rfl,rfl,trivial⟩ ⟨rfl,trivial⟩ ?_
  rintro i ⟨hi,hok⟩
  refine Bj rL iT ?_
  by_cases hil:i<p.edges.length
  ·have hx:=Aa hil
   generalize p.edges[i]=e at hx
   have hxd:(p.edges.map dE)[i]? =some (.agg [.int .i64 e.a,.int .i64 e.b]):=by rw[Ac,hx];rfl
   have hwi:=Oa e p.labels.length
   rw[<-hdl]at hwi
   by_cases h1:0<=min e.a e.b/\max e.a e.b<p.labels.length
   ·rw[decide_eq_true (by rw[hdl];exact h1)]at hwi
    by_cases h2:e.a<e.b
    ·by_cases h0:i=0
     ·subst h0
      (conv=>whnf)
      (repeat' ((first|refine Af ?_ ?_|refine A1 hxd rfl ?_|refine Ad rfl hwi ?_|refine nx ?_|refine Aw (λ_=>?_) (λ_=>?_)|exact A0)<;>conv=>whnf))
      exact⟨0+1,_,_,⟨by omega,Kr hok (Mu hx h1 h2 (.inl rfl))⟩,.refl _ _,⟨rfl,rfl,rfl,rfl,trivial⟩,⟨rfl,trivial⟩,by omega⟩
     ·have hy:=Aa (l:=p.edges) (i:=i-1) (by omega)
      generalize p.edges[i-1]'(by omega)=q at hy
      have hyd:(p.edges.map dE)[i-1]? =some (.agg [.int .i64 q.a,.int .i64 q.b]):=by rw[Ac,hy];rfl
      have hor:=On q e
      by_cases h3:Ce q e<0
      ·(conv=>whnf)
       (repeat' ((first|refine Af ?_ ?_|refine A1 hxd rfl ?_|refine Ad rfl hwi ?_|refine A1 hyd (by omega) ?_|refine Ad rfl hor ?_|refine nx ?_|refine Aw (λ_=>?_) (λ_=>?_)|exact A0)<;>conv=>whnf))
       exact⟨i+1,_,_,⟨by omega,Kr hok (Mu hx h1 h2 (.inr ⟨q,hy,h3⟩))⟩,.refl _ _,⟨rfl,rfl,rfl,rfl,trivial⟩,⟨rfl,trivial⟩,by omega⟩
      ·rw[K0 hok (SD hx h1 h2 h0 hy h3)]
       (conv=>whnf)
       (repeat' ((first|refine Af ?_ ?_|refine A1 hxd rfl ?_|refine Ad rfl hwi ?_|refine A1 hyd (by omega) ?_|refine Ad rfl hor ?_|refine Ad rfl (Cj 2 i kT) ?_|refine nx ?_|refine Aw (λ_=>?_) (λ_=>?_)|exact A0)<;>conv=>whnf))
       exact rfl
    ·rw[K0 hok (Wj hx h1 (by omega))]
     (conv=>whnf)
     (repeat' ((first|refine Af ?_ ?_|refine A1 hxd rfl ?_|refine Ad rfl hwi ?_|refine Ad rfl (Cj 2 i kT) ?_|refine nx ?_|refine Aw (λ_=>?_) (λ_=>?_)|exact A0)<;>conv=>whnf))
     exact rfl
   ·rw[decide_eq_false (by rw[hdl];exact h1)]at hwi
    rw[K0 hok (Z9 hx h1)]
    (conv=>whnf)
    (repeat' ((first|refine Af ?_ ?_|refine A1 hxd rfl ?_|refine Ad rfl hwi ?_|refine Ad rfl (Cj 3 i kT) ?_|refine nx ?_|refine Aw (λ_=>?_) (λ_=>?_)|exact A0)<;>conv=>whnf))
    exact rfl
  ·rw[Z8 (λk hk=>hok k (by omega))]
   ((conv=>whnf);repeat' ((first|refine odw ?_|refine nx ?_|refine Aw (λ_=>?_) (λ_=>?_))<;>conv=>whnf))
   exact rfl
def XA:List (Nat×Plan):=[(5,.leaf [0,1,0,0,1,0,1,0,2] [0,2,5,1,3,4,6,7,8] [0,1,0,7,15,0,32,96,255]),
 (7,.leaf [0,1,0,0,0,1,0,1,0,0,0,1,0,0,0,0,0,0,1,0,0,0,1,0,1,0,0,1,2,0,0,0] [0,2,6,8,1,3,4,5,7,9,10,11,12,13,14,15,16,17,19,20,23,25,18,21,22,24,26,27,28,29,30,31] [0,1,0,7,15,31,0,64,0,448,960,1984,4095,8191,16383,32767,65535,131071,262143,131071,655359,2097151,4194303,131071,8519679,131071,58851327,125960191,268435455,536870911,1073741823,2147483647])]
def mE:List FuncId:=[181,182]
set_option maxHeartbeats 4000000 in
theorem Oi(p:Pt)(hm:p.labels.length<=9223372036854775807)(hme:p.edges.length<=9223372036854775807):Pure C1 121 [GE p] (λy=>y=qT (FI p)):=by
 have hdl:(p.labels.map dI).length=p.labels.length:=Ab _
 have hde:(p.edges.map dE).length=p.edges.length:=Ab _
 have hlb:=Tl p.labels hm
 refine AK Tryz.func121 Tryz.ntmps121 mE XA ?_
 cases hl:Ik p.labels with
 |
  some x=>
  obtain⟨c,i⟩:=x
  have hc0:c≠0:=by
   intro e
   subst e
   unfold Ik at hl
   split at hl
   ·simp at hl
   ·obtain⟨l1,k,l2,_,h2,_⟩:=List.findSome?_eq_some_iff.1 hl
    split at h2<;>simp at h2
  have e2:FI p=some (c,i):=by unfold FI;rw[hl]
  rw[hl]at hlb
  rw[e2]
  (conv=>whnf)
  (repeat' ((first|refine Af ?_ ?_|refine Ad rfl hlb ?_|refine nx ?_|refine Aw (λ_=>?_) (λ_=>?_)|exact A0)<;>conv=>whnf))
  refine AC (ι:=Unit) (λ_=>True) (λ_=>[(6,.d (.int .i64 0)),(5,.d (.int .i64 i)),(4,.d (.int .i64 c)),(1,.own 1)]) (λ_=>[(1,.cells 35 [.d (AS p.labels),.d (D0 p.edges)])]) (λ_=>0) () (λ_=>rfl) trivial (.refl _ _) ⟨rfl,rfl,rfl,rfl,trivial⟩ ⟨rfl,trivial⟩ ?_
  intro _ _
  refine Bj mE XA ?_
  ((conv=>whnf);repeat' ((first|refine odw ?_|refine nx ?_|refine Aw (λ_=>?_) (λ_=>?_))<;>conv=>whnf))
  exact rfl
 |
  none=>
  rw[hl]at hlb
  have e2:FI p=Y7 p.labels.length p.edges:=by unfold FI;rw[hl]
  rw[e2]
  (conv=>whnf)
  (repeat' ((first|refine Af ?_ ?_|refine Ad rfl hlb ?_|refine nx ?_|refine Aw (λ_=>?_) (λ_=>?_)|exact A0)<;>conv=>whnf))
  refine AC (ι:=Nat) (λi=>i<=p.edges.length/\∀k,k<i->SE p.labels.length p.edges k=none) (λi=>[(6,.d (.int .i64 i)),(5,.d (.int .i64 0)),(4,.d (.int .i64 0)),(1,.own 1)]) (λ_=>[(1,.cells 35 [.d (AS p.labels),.d (D0 p.edges)])]) (λi=>p.edges.length-i) 0 (λ_=>rfl) ⟨Aj _,(by intro k h;omega)⟩ (.refl _ _) ⟨rfl,rfl,rfl,rfl,trivial⟩ ⟨rfl,trivial⟩ ?_
  rintro i ⟨hi,hok⟩
  refine Bj mE XA ?_
  by_cases hil:i<p.edges.length
  ·have hx:=Aa hil
   generalize p.edges[i]=e at hx
   have hxd:(p.edges.map dE)[i]? =some (.agg [.int .i64 e.a,.int .i64 e.b]):=by rw[Ac,hx];rfl
   have hwi:=bF e p.labels.length
   rw[<-hdl]at hwi
   by_cases h1:0<=min e.a e.b/\max e.a e.b<p.labels.length
   ·rw[decide_eq_false (by rw[hdl];exactλh=>h h1)]at hwi
    by_cases h2:e.a<e.b
    ·by_cases h0:i=0
     ·subst h0
      (conv=>whnf)
      (repeat' ((first|refine Af ?_ ?_|refine A1 hxd rfl ?_|refine Ad rfl hwi ?_|refine nx ?_|refine Aw (λ_=>?_) (λ_=>?_)|exact A0)<;>conv=>whnf))
      exact⟨0+1,_,_,⟨by omega,Kr hok (Mu hx h1 h2 (.inl rfl))⟩,.refl _ _,⟨rfl,rfl,rfl,rfl,trivial⟩,⟨rfl,trivial⟩,by omega⟩
     ·have hy:=Aa (l:=p.edges) (i:=i-1) (by omega)
      generalize p.edges[i-1]'(by omega)=q at hy
      have hyd:(p.edges.map dE)[i-1]? =some (.agg [.int .i64 q.a,.int .i64 q.b]):=by rw[Ac,hy];rfl
      have hor:=UJ q e
      by_cases h3:Ce q e<0
      ·rw[decide_eq_true h3]at hor
       (conv=>whnf)
       (repeat' ((first|refine Af ?_ ?_|refine A1 hxd rfl ?_|refine Ad rfl hwi ?_|refine A1 hyd (by omega) ?_|refine Ad rfl hor ?_|refine nx ?_|refine Aw (λ_=>?_) (λ_=>?_)|exact A0)<;>conv=>whnf))
       exact⟨i+1,_,_,⟨by omega,Kr hok (Mu hx h1 h2 (.inr ⟨q,hy,h3⟩))⟩,.refl _ _,⟨rfl,rfl,rfl,rfl,trivial⟩,⟨rfl,trivial⟩,by omega⟩
      ·rw[decide_eq_false h3]at hor
       rw[K0 hok (SD hx h1 h2 h0 hy h3)]
       (conv=>whnf)
       (repeat' ((first|refine Af ?_ ?_|refine A1 hxd rfl ?_|refine Ad rfl hwi ?_|refine A1 hyd (by omega) ?_|refine Ad rfl hor ?_|refine nx ?_|refine Aw (λ_=>?_) (λ_=>?_)|exact A0)<;>conv=>whnf))
       exact rfl
    ·rw[K0 hok (Wj hx h1 (by omega))]
     (conv=>whnf)
     (repeat' ((first|refine Af ?_ ?_|refine A1 hxd rfl ?_|refine Ad rfl hwi ?_|refine nx ?_|refine Aw (λ_=>?_) (λ_=>?_)|exact A0)<;>conv=>whnf))
     exact rfl
   ·rw[decide_eq_true (by rw[hdl];exact h1)]at hwi
    rw[K0 hok (Z9 hx h1)]
    (conv=>whnf)
    (repeat' ((first|refine Af ?_ ?_|refine A1 hxd rfl ?_|refine Ad rfl hwi ?_|refine nx ?_|refine Aw (λ_=>?_) (λ_=>?_)|exact A0)<;>conv=>whnf))
    exact rfl
  ·rw[Z8 (λk hk=>hok k (by omega))]
   ((conv=>whnf);repeat' ((first|refine odw ?_|refine nx ?_|refine Aw (λ_=>?_) (λ_=>?_))<;>conv=>whnf))
   exact rfl
def iI:List (Nat×Plan):=[(4,.leaf [1,0,0,0,1,3] [1,2,3,0,4,5] [0,0,0,6,14,31])]
theorem Wg(E:List Edg)(e:Edg)(hm:E.length<=9223372036854775807):Pure C1 290 [D0 E,dE e] (λy=>y=.int .i64 (Y6 E e)):=by
 have hde:(E.map dE).length=E.length:=Ab _
 refine AK Tryz.func290 Tryz.ntmps290 [] iI ?_
 ((conv=>whnf);repeat' ((first|refine odw ?_|refine nx ?_|refine Aw (λ_=>?_) (λ_=>?_))<;>conv=>whnf))
 refine AC (ι:=Nat) (λi=>i<=E.length/\∀k x,k<i->E[k]? =some x->x≠e) (λi=>[(8,.d (.int .i64 i)),(7,.d (.int .i64 E.length)),(3,.own 3),(0,.d (D0 E))]) (λ_=>[(3,.cells 103 [.d (.int .i64 e.a),.d (.int .i64 e.b)])]) (λi=>E.length-i) 0 (λ_=>rfl) ⟨Aj _,(by intro k x h;omega)⟩ (.refl _ _) ⟨rfl,by rw[<-hde];rfl,rfl,rfl,trivial⟩ ⟨rfl,trivial⟩ ?_
 rintro i ⟨hi,hok⟩
 refine Bj [] iI ?_
 by_cases hil:i<E.length
 ·have hx:=Aa hil
  generalize E[i]=x at hx
  have hxd:(E.map dE)[i]? =some (.agg [.int .i64 x.a,.int .i64 x.b]):=by rw[Ac,hx];rfl
  by_cases hxe:x=e
  ·subst hxe
   rw[pF hok hx]
   (conv=>whnf)
   (repeat' ((first|refine Af ?_ ?_|refine A1 hxd rfl ?_|refine nx ?_|refine Aw (λ_=>?_) (λ_=>?_)|exact A0)<;>conv=>whnf))
   exact rfl
  ·have hne:¬(e.a=x.a/\e.b=x.b):=λh=>hxe (by cases x;cases e;simp only at h;rw[h.1,h.2])
   (conv=>whnf)
   (repeat' ((first|refine Af ?_ ?_|refine A1 hxd rfl ?_|refine nx ?_|refine Aw (λ_=>?_) (λ_=>?_)|exact A0)<;>conv=>whnf))
   refine⟨i+1,_,_,⟨by omega,λk y hk hy=>?_⟩,.refl _ _,⟨rfl,rfl,rfl,rfl,trivial⟩,⟨rfl,trivial⟩,by omega⟩
   rcases AP k i with hl|hl
   ·exact hok k y hl hy
   ·have:k=i:=by omega
    subst this
    rw[hx]at hy;cases hy;exact hxe
 ·rw[pE (λk x hk hx=>hok k x (by omega) hx)]
  ((conv=>whnf);repeat' ((first|refine odw ?_|refine nx ?_|refine Aw (λ_=>?_) (λ_=>?_))<;>conv=>whnf))
  exact rfl
theorem QR(E:List Edg)(e:Edg)(hm:E.length<=9223372036854775807):Pure C1 289 [D0 E,dE e] (λy=>y=.bool (decide (e∈E))):=by
 have h:=Wg E e hm
 refine AK Tryz.func289 Tryz.ntmps289 [] [] ?_
 (conv=>whnf)
 (repeat' ((first|refine Af ?_ ?_|refine Ad rfl h ?_|refine nx ?_|refine Aw (λ_=>?_) (λ_=>?_)|exact A0)<;>conv=>whnf))
 exact congrArg Da.bool (decide_eq_decide.2 kX)
def sK:List (Nat×Plan):=[(1,.leaf [0,1,0,0,0,2,2,0] [0,2,3,4,1,5,6,7] [0,1,0,0,12,28,63,127])]
def vL:List FuncId:=[57,289]
theorem RW(p:Pt)(a b:Int)(hme:p.edges.length<=9223372036854775807):Pure C1 286 [GE p,.int .i64 a,.int .i64 b] (λy=>y=.bool (decide (turn ⟨a,b⟩∈p.edges))):=by
 have h1:=LU ⟨a,b⟩
 have h2:=QR p.edges (turn ⟨a,b⟩) hme
 refine AK Tryz.func286 Tryz.ntmps286 vL sK ?_
 (conv=>whnf)
 (repeat' ((first|refine Af ?_ ?_|refine Ad rfl h1 ?_|refine Ad rfl h2 ?_|refine nx ?_|refine Aw (λ_=>?_) (λ_=>?_)|exact A0)<;>conv=>whnf))
 exact rfl
set_option maxHeartbeats 4000000 in
theorem RP(p:Pt)(a b:Int)(hme:p.edges.length<=9223372036854775807):Pure C1 183 [GE p,.int .i64 a,.int .i64 b] (λy=>y=.bool (OH p.edges a b)):=by
 have hde:(p.edges.map dE).length=p.edges.length:=Ab _
 refine AK Tryz.func183 Tryz.ntmps183 [] [] ?_
 ((conv=>whnf);repeat' ((first|refine odw ?_|refine nx ?_|refine Aw (λ_=>?_) (λ_=>?_))<;>conv=>whnf))
 refine AC (ι:=Nat) (λi=>i<=p.edges.length/\∀k x,k<i->p.edges[k]? =some x->¬(x.a=a/\x.b=b\/x.a=b/\x.b=a)) (λi=>[(7,.d (.int .i64 i)),(3,.own 3),(2,.d (.int .i64 b)),(1,.d (.int .i64 a))]) (λ_=>[(3,.cells 35 [.d (AS p.labels),.d (D0 p.edges)])]) (λi=>p.edges.length-i) 0 (λ_=>rfl) ⟨Aj _,(by intro k x h;omega)⟩ (.refl _ _) ⟨rfl,rfl,rfl,rfl,trivial⟩ ⟨rfl,trivial⟩ ?_
 rintro i ⟨hi,hok⟩
 refine Bj [] [] ?_
 by_cases hil:i<p.edges.length
 ·have hx:=Aa hil
  generalize p.edges[i]=x at hx
  have hxd:(p.edges.map dE)[i]? =some (.agg [.int .i64 x.a,.int .i64 x.b]):=by rw[Ac,hx];rfl
  by_cases hc:x.a=a/\x.b=b\/x.a=b/\x.b=a
  ·have ht:OH p.edges a b=true:=by
    unfold OH
    rw[Bn]
    exact⟨x,AB hx,decide_eq_true hc⟩
   rw[ht]
   by_cases h1:x.a=a/\x.b=b
   ·obtain⟨h1,h2⟩:=h1
    (conv=>whnf)
    (repeat' ((first|refine Af ?_ ?_|refine A1 hxd rfl ?_|refine nx ?_|refine Aw (λ_=>?_) (λ_=>?_)|exact A0)<;>conv=>whnf))
    exact rfl
   ·obtain⟨h3,h4⟩:=hc.resolve_left h1
    by_cases h5:x.a=a
    ·have h6:¬x.b=b:=λh=>h1 ⟨h5,h⟩
     (conv=>whnf)
     (repeat' ((first|refine Af ?_ ?_|refine A1 hxd rfl ?_|refine nx ?_|refine Aw (λ_=>?_) (λ_=>?_)|exact A0)<;>conv=>whnf))
     exact rfl
    ·(conv=>whnf)
     (repeat' ((first|refine Af ?_ ?_|refine A1 hxd rfl ?_|refine nx ?_|refine Aw (λ_=>?_) (λ_=>?_)|exact A0)<;>conv=>whnf))
     exact rfl
  ·have hs:∀k y,k<i+1->p.edges[k]? =some y->¬(y.a=a/\y.b=b\/y.a=b/\y.b=a):=by
    intro k y hk hy
    rcases AP k i with hl|hl
    ·exact hok k y hl hy
    ·have:k=i:=by omega
     subst this
     rw[hx]at hy;cases hy;exact hc
   by_cases h1:x.a=a
   ·have h2:¬x.b=b:=λh=>hc (.inl ⟨h1,h⟩)
    by_cases h3:x.a=b
    ·have h4:¬x.b=a:=λh=>hc (.inr ⟨h3,h⟩)
     (conv=>whnf)
     (repeat' ((first|refine Af ?_ ?_|refine A1 hxd rfl ?_|refine nx ?_|refine Aw (λ_=>?_) (λ_=>?_)|exact A0)<;>conv=>whnf))
     exact⟨i+1,_,_,⟨by omega,hs⟩,.refl _ _,⟨rfl,rfl,rfl,rfl,trivial⟩,⟨rfl,trivial⟩,by omega⟩
    ·(conv=>whnf)
     (repeat' ((first|refine Af ?_ ?_|refine A1 hxd rfl ?_|refine nx ?_|refine Aw (λ_=>?_) (λ_=>?_)|exact A0)<;>conv=>whnf))
     exact⟨i+1,_,_,⟨by omega,hs⟩,.refl _ _,⟨rfl,rfl,rfl,rfl,trivial⟩,⟨rfl,trivial⟩,by omega⟩
   ·by_cases h3:x.a=b
    ·have h4:¬x.b=a:=λh=>hc (.inr ⟨h3,h⟩)
     (conv=>whnf)
     (repeat' ((first|refine Af ?_ ?_|refine A1 hxd rfl ?_|refine nx ?_|refine Aw (λ_=>?_) (λ_=>?_)|exact A0)<;>conv=>whnf))
     exact⟨i+1,_,_,⟨by omega,hs⟩,.refl _ _,⟨rfl,rfl,rfl,rfl,trivial⟩,⟨rfl,trivial⟩,by omega⟩
    ·(conv=>whnf)
     (repeat' ((first|refine Af ?_ ?_|refine A1 hxd rfl ?_|refine nx ?_|refine Aw (λ_=>?_) (λ_=>?_)|exact A0)<;>conv=>whnf))
     exact⟨i+1,_,_,⟨by omega,hs⟩,.refl _ _,⟨rfl,rfl,rfl,rfl,trivial⟩,⟨rfl,trivial⟩,by omega⟩
 ·have ht:OH p.edges a b=false:=by
   unfold OH
   rw[Hl]
   intro x hx
   obtain⟨k,hk,rfl⟩:=BX.1 hx
   simpa using hok k _ (by omega) (Aa hk)
  rw[ht]
  ((conv=>whnf);repeat' ((first|refine odw ?_|refine nx ?_|refine Aw (λ_=>?_) (λ_=>?_))<;>conv=>whnf))
  exact rfl
theorem Jy {p:Pt}(h:FI p=none):Jz p=.nili:=by
 unfold FI at h
 unfold Jz
 split at h
 ·cases h
 ·rename_i hl
  rw[hl]
  simp only
  rw[h]
end Go.Proofs.YtjejpdfldmempaaGreatDoor
end
section
namespace Go.Gr
open Go
theorem VB(n:Nat):Lib.itoa n=Lib.decDigits n:=by
 unfold Lib.itoa
 rw[if_neg (by omega)];simp
theorem JF {n:Int}(h0:0<=n)(h1:n<=999999):(Lib.itoa n).length<=6:=by
 obtain⟨k,rfl⟩:=Ax h0
 rw[VB]
 exact pI k (by omega)
theorem Gn(x y:List UInt8)(r:List (List UInt8))(sep:List UInt8):Lib.join (x::y::r) sep=x++(sep++Lib.join (y::r) sep):=by
 simp[Lib.join,List.intercalate]
theorem Qz {m:Nat}(sep:List UInt8):∀xs:List (List UInt8),(∀x∈xs,x.length<=m)->(Lib.join xs sep).length<=xs.length*(m+sep.length)
 |[],_=>by rw[Lib.join_nil];simp
 |
  [x],h=>by
  have:=h x (.head _)
  rw[Lib.join_one,BF];omega
 |
  x::y::r,h=>by
  have h1:=Qz sep (y::r) (λz hz=>h z (.tail _ hz))
  have h2:=h x (.head _)
  rw[Gn,Ah,Ah,A4,C0,Nat.one_mul];omega
def JT(e:Edg):List UInt8:=Lib.itoa e.a++45::Lib.itoa e.b
def F9(p:Pt):List UInt8:=Lib.join (p.labels.map Lib.itoa) [44]++124::Lib.join (p.edges.map JT) [44]
end Go.Gr
namespace Go.Proofs.YtjejpdfldmempaaGreatDoor
open Go.Sx Go.RowKit Go.Reg Go.Gr Go.Shelf
set_option maxRecDepth 100000
theorem qO:Builder.Extra Tryz.prog Tryz.joinL_ren where
 sizeBuilder:=by kernel_rfl
 liesBuilder:=by kernel_rfl
 t5:=Tryz.underlying5
 a5:=by intro w;kernel_rfl
 z5:=by intro w;kernel_rfl
 v5:=by intro w;kernel_rfl
 infoByte:=by kernel_rfl
 cellsByte:=by kernel_rfl
 sizeByte:=by kernel_rfl
 neB5:=by decide
noncomputable def C3:Cx:=⟨Tryz.prog,C1.Γ++[(1,.agg (Lib.pow10Tab.map (Da.int .u64)))]⟩
theorem oO:(1,Da.agg (Lib.pow10Tab.map (Da.int .u64)))∈C3.Γ:=Ap _ (.head _)
theorem Jj:C3.Ok tab:=⟨Fb.tab,Fb.mixed⟩
section
variable {n:Nat} {c:Code}
theorem OA {K:KE} {fr:Fr} {σ:Sg}(G:List FuncId)(pl:List (Nat×Plan))(h:D1 C3 tab n pl c K fr σ)(hk:Cu C3.P G pl c=true:=by kernel_rfl):DJ C3 n c K fr σ:=Dh Jj c K fr σ hk h
theorem qK {f:FuncId} {fn:Func} {xs:List Da} {Q:Da->Prop}(hf:C3.P.funcs[f]? =some fn)(hn:fn.ntmps=n)(G:List FuncId)(pl:List (Nat×Plan))(h:D1 C3 tab n pl c (Jg tab fn.results.toList (ZK tab Q)) (params (BO xs) 0) [])(hb:fn.body=some c:=by rfl)(hrun:∀(vs:Array Value) (w:World),(callFunc f vs).run C3.P w=.ok (.enter f vs) w:=by intros;kernel_rfl)(hk:Cu C3.P G pl c=true:=by kernel_rfl)(hl:xs.length<=n:=by simp):Pure C3 f xs Q:=Zi Jj hf hb hn hrun hk hl h
end
theorem Pure.up3 {f:FuncId} {xs:List Da} {Q:Da->Prop}(h:Sx.Pure C1 f xs Q):Sx.Pure C3 f xs Q:=λO w vs h1 h2 h3=>h O w vs h1 (λg hg=>h2 g (A2 _ hg)) h3
theorem Lr(n:Int)(h0:-9223372036854775808<=n)(h1:n<=9223372036854775807):Sx.Pure C3 105 [.int .i64 n] (λy=>y=.str (bs (Lib.itoa n))):=by
 intro O w us hO hg hr
 obtain⟨v,vs,rfl,h3,h2⟩:=Ci hr
 obtain rfl:=ER h2
 obtain rfl:=Gf h3
 refine⟨by kernel_rfl,(Any.strconv_Itoa Tryz.itoaL n h0 h1 w (rW hg oO (by kernel_rfl))).mono ?_⟩
 rintro e w' ⟨rfl,k,os,rfl⟩
 refine⟨_,_,rfl,rfl,⟨[_],by simp only[RepC];rfl,rfl⟩,⟨rfl,rfl,rfl,by rw[Go.Sort.size_grow];exact Nat.le_add_right _ _,λb hb _=>Go.Sort.heap_grow_old (w.drewN k) os hb⟩⟩
def MO(x:List UInt8):Da:=.str (bs x)
theorem Ut {O:List Nat} {w:World}:∀{xs:List (List UInt8)} {css:List (List Value)},Am O w (xs.map MO) css->css=xs.map λx=>[Value.string (bs x)]
 |[],css,h=>by simpa only[BI,Am]using h
 |
  x::xs,css,h=>by
  simp only[Au,Am,MO,RepC]at h
  obtain⟨c1,c2,rfl,rfl,h⟩:=h
  rw[Ut h];rfl
theorem aJ(xs:List (List UInt8)):(xs.map λx=>[Value.string (bs x)]).flatten=xs.map λx=>Value.string (bs x):=by
 induction xs with
 |nil=>rfl
 |cons x xs ih=>simp only[Au,CG,ih];rfl
theorem Ss(C:Cx)(hC:C.P=Tryz.prog)(xs:List (List UInt8))(sep:List UInt8)(hN:xs.length<=1000000)(hlen:(Lib.join xs sep).length<=140737488355328):Sx.Pure C 106 [.list 1 (xs.map MO),.str (bs sep)] (λy=>y=.str (bs (Lib.join xs sep))):=by
 intro O w us hO hg hr
 obtain⟨v,vs,rfl,h3,h2⟩:=Ci hr
 obtain⟨v2,vs2,rfl,h4,h5⟩:=Ci h2
 obtain rfl:=ER h5
 obtain rfl:=Tm h4
 obtain⟨cs,r,rfl⟩:=h3
 simp only[RepC]at r
 obtain⟨a,c,css,rfl,hc,_,hcs,_,hcell⟩:=r
 have hb:∀w':World,Below w.heap.size w w'->Tch [] w w':=λw' h=>⟨h.os,h.tape,h.output,h.size,λb hb _=>h.block b hb⟩
 obtain rfl:=Ut hcs
 rw[Ab]at hc
 rw[hC]
 refine⟨by kernel_rfl,?_⟩
 show Calls Tryz.prog 106 #[.slice a (xs.map MO).length c,.string (bs sep)] w _
 rw[Ab]
 cases xs with
 |
  nil=>
  refine(Any.strings_Join_none Tryz.joinL qO a c (bs sep) w).mono ?_
  rintro e w' ⟨rfl,rfl⟩
  exact⟨_,_,rfl,rfl,⟨[_],by simp only[RepC];rfl,rfl⟩,Tch.refl _ _⟩
 |
  cons x xs=>
  obtain⟨b,o,rfl,_,hbl,hcl⟩:=hcell.resolve_left (by simp)
  rw[aJ]at hcl
  have hmap:((x::xs).map bs).map (·.data.toList)=x::xs:=by
   rw[R5]
   have:((λy:ByteArray=>y.data.toList)∘bs)=id:=by funext z;simp[bs]
   rw[this,List.map_id]
  have:=Any.strings_Join Tryz.joinL qO b o c ((x::xs).map bs) (bs sep) w (λj y hy=>by
   refine hcl j (.string y) ?_
   rw[Ac]at hy⊢
   obtain⟨z,hz,rfl⟩:=Cg.1 hy
   rw[hz];rfl) hbl (by rw[Ab];omega) (by rw[Ab];exact hc) (by rw[hmap];exact hlen)
  rw[hmap,Ab]at this
  refine this.mono ?_
  rintro e w' ⟨rfl,h⟩
  exact⟨_,_,rfl,rfl,⟨[_],by simp only[RepC];rfl,rfl⟩,hb _ h⟩
def XD:List (Nat×Plan):=[(10,.leaf [0,0,1,2,0,0,1,2,0,6,3,0] [0,1,5,2,6,3,4,7,8,9,10,11] [0,0,2,6,14,0,32,110,254,510,1023,2047])]
def mJ:List FuncId:=[105,106]
set_option maxHeartbeats 4000000 in
theorem PU(p:Pt)(hl:p.labels.length<=1000)(hll:∀x∈p.labels,0<=x/\x<=999999)(he:p.edges.length<=1000)(hee:∀e∈p.edges,(0<=e.a/\e.a<=999999)/\0<=e.b/\e.b<=999999):Sx.Pure C3 59 [GE p] (λy=>y=.str (bs (F9 p))):=by
 have hdl:(p.labels.map dI).length=p.labels.length:=Ab _
 have hde:(p.edges.map dE).length=p.edges.length:=Ab _
 refine qK Tryz.func59 Tryz.ntmps59 mJ XD ?_
 ((conv=>whnf);repeat' ((first|refine odw ?_|refine nx ?_|refine Aw (λ_=>?_) (λ_=>?_))<;>conv=>whnf))
 refine AC (ι:=Nat) (λi=>i<=p.labels.length) (λi=>[(12,.d (.int .i64 i)),(11,.d (.int .i64 p.labels.length)),(10,.d (AS p.labels)),(4,.d .nils),(3,.own 300),(1,.own 1)]) (λi=>[(1,.cells 31 [.d (AS p.labels),.d (D0 p.edges)]),(300,.slice 9 1 (((p.labels.take i).map Lib.itoa).map MO))]) (λi=>p.labels.length-i) 0 (λ_=>rfl) (Aj _) (.own 3 300 9 1 rfl rfl (.refl _ _)) ⟨rfl,by rw[<-hdl];rfl,rfl,rfl,rfl,rfl,trivial⟩ ⟨rfl,rfl,trivial⟩ ?_
 intro i hi
 refine OA mJ XD ?_
 by_cases hil:i<p.labels.length
 ·have hx:=Aa hil
  have hxb:=hll _ (AL hil)
  generalize p.labels[i]=x at hx hxb
  have hxd:(p.labels.map dI)[i]? =some (.int .i64 x):=by rw[Ac,hx];rfl
  have hit:=Lr x (by omega) (by omega)
  have hlen:(((p.labels.take i).map Lib.itoa).map MO).length=i:=by simp only[Ab,As];omega
  (conv=>whnf)
  (repeat' ((first|refine Af ?_ ?_|refine A1 hxd rfl ?_|refine AR tab rfl hit rfl ?_|refine nx ?_|refine Aw (λ_=>?_) (λ_=>?_)|exact A0)<;>conv=>whnf))
  refine⟨i+1,_,_,by omega,.refl _ _,⟨rfl,rfl,rfl,rfl,rfl,rfl,trivial⟩,⟨rfl,AO ?_,trivial⟩,by omega⟩
  rw[Av,hx];simp[MO]
 ·have e:p.labels.take i=p.labels:=Ak (by omega)
  rw[e]
  ((conv=>whnf);repeat' ((first|refine odw ?_|refine nx ?_|refine Aw (λ_=>?_) (λ_=>?_))<;>conv=>whnf))
  refine AC (ι:=Nat) (λi=>i<=p.edges.length) (λi=>[(25,.d (.int .i64 i)),(24,.d (.int .i64 p.edges.length)),(23,.d (D0 p.edges)),(4,.own 301),(3,.own 300),(1,.own 1)]) (λi=>[(1,.cells 31 [.d (AS p.labels),.d (D0 p.edges)]),(300,.slice 9 1 ((p.labels.map Lib.itoa).map MO)),(301,.slice 9 1 (((p.edges.take i).map JT).map MO))]) (λi=>p.edges.length-i) 0 (λ_=>rfl) (Aj _) (.own 4 301 9 1 rfl rfl (.refl _ _)) ⟨rfl,by rw[<-hde];rfl,rfl,rfl,rfl,rfl,trivial⟩ ⟨rfl,rfl,rfl,trivial⟩ ?_
  intro j hj
  refine OA mJ XD ?_
  by_cases hjl:j<p.edges.length
  ·have hx:=Aa hjl
   have hxb:=hee _ (AL hjl)
   generalize p.edges[j]=e at hx hxb
   have hxd:(p.edges.map dE)[j]? =some (.agg [.int .i64 e.a,.int .i64 e.b]):=by rw[Ac,hx];rfl
   have hia:=Lr e.a (by omega) (by omega)
   have hib:=Lr e.b (by omega) (by omega)
   have la:=JF hxb.1.1 hxb.1.2
   have lb:=JF hxb.2.1 hxb.2.2
   have za:=H7 (Lib.itoa e.a)
   have zb:=H7 (Lib.itoa e.b)
   have zc:(bs (Lib.itoa e.a)++bs [45]).size=(Lib.itoa e.a).length+1:=by rw[NQ,H7];simp
   have hlen:(((p.edges.take j).map JT).map MO).length=j:=by simp only[Ab,As];omega
   (conv=>whnf)
   (repeat' ((first|refine Af ?_ ?_|refine A1 hxd rfl ?_|refine AR tab rfl hia rfl ?_|refine AR tab rfl hib rfl ?_|refine TN (a:=bs (Lib.itoa e.a)) (b:=bs [45]) (by rw[za];simp[H7];omega) ?_|refine TN (a:=bs (Lib.itoa e.a)++bs [45]) (b:=bs (Lib.itoa e.b)) (by omega) ?_|refine nx ?_|refine Aw (λ_=>?_) (λ_=>?_)|exact A0)<;>conv=>whnf))
   refine⟨j+1,_,_,by omega,.refl _ _,⟨rfl,rfl,rfl,rfl,rfl,rfl,trivial⟩,⟨rfl,rfl,AO ?_,trivial⟩,by omega⟩
   have hs:MO (JT e)=.str ((bs (Lib.itoa e.a)++bs [45])++bs (Lib.itoa e.b)):=by unfold MO JT;rw[NQ,NQ];simp
   rw[Av,hx,Ay,Ay]
   show _=_++[MO (JT e)]
   rw[hs];rfl
  ·have e:p.edges.take j=p.edges:=Ak (by omega)
   rw[e]
   have l1:=Qz (m:=6) [44] (p.labels.map Lib.itoa) (λx hx=>by
    obtain⟨y,hy,rfl⟩:=Ar.1 hx
    exact JF (hll y hy).1 (hll y hy).2)
   have l2:=Qz (m:=13) [44] (p.edges.map JT) (λx hx=>by
    obtain⟨y,hy,rfl⟩:=Ar.1 hx
    have:=hee y hy
    have h1:=JF this.1.1 this.1.2
    have h2:=JF this.2.1 this.2.2
    unfold JT
    rw[Ah,A4];omega)
   rw[Ab,BF]at l1 l2
   have j1:=Ss C3 rfl (p.labels.map Lib.itoa) [44] (by rw[Ab];omega) (by omega)
   have j2:=Ss C3 rfl (p.edges.map JT) [44] (by rw[Ab];omega) (by omega)
   have z1:=H7 (Lib.join (p.labels.map Lib.itoa) [44])
   have z2:=H7 (Lib.join (p.edges.map JT) [44])
   have z3:(bs (Lib.join (p.labels.map Lib.itoa) [44])++bs [124]).size=(Lib.join (p.labels.map Lib.itoa) [44]).length+1:=by rw[NQ,H7];simp
   (conv=>whnf)
   (repeat' ((first|refine Af ?_ ?_|refine D3 300 rfl ?_|refine D3 301 rfl ?_|refine Ad rfl j1 ?_|refine Ad rfl j2 ?_|refine TN (a:=bs (Lib.join (p.labels.map Lib.itoa) [44])) (b:=bs [124]) (by rw[z1];simp[H7];omega) ?_|refine TN (a:=bs (Lib.join (p.labels.map Lib.itoa) [44])++bs [124]) (b:=bs (Lib.join (p.edges.map JT) [44])) (by omega) ?_|refine nx ?_|refine Aw (λ_=>?_) (λ_=>?_)|exact A0)<;>conv=>whnf))
   show Da.plain (.str ((bs _++bs [124])++bs _))=_
   unfold F9
   rw[NQ,NQ]
   simp[Da.plain]
end Go.Proofs.YtjejpdfldmempaaGreatDoor
end
section
namespace Go.Proofs.YtjejpdfldmempaaGreatDoor
open Go.ChangeShapes Go.WideShapes Go.ChangeAt Go.RowKit Go.Reg Go.Gr Go.Sx Go.ChangeMaps
theorem own:ownKnob Tryz.prog.godebug=none:=by kernel_rfl
theorem T6:laidOutB Tryz.prog=true:=by kernel_rfl
theorem wQ:Tryz.prog.globalNamed "errors.errorType" =some 0:=by kernel_rfl
theorem wP:(Tryz.prog.cutTypes.find? (·.1== "internal/reflectlite.rtype")).map (·.2)=some 293:=by kernel_rfl
theorem sX:((List.range Tryz.prog.types.size).filter λt=>Tryz.prog.rowNamed t [101,114,114,111,114])=[39]:=by kernel_rfl
abbrev Kw:List (String×DataW Unit):=Rows.levelAllRow.laid
abbrev cW:List (String×DataW Unit):=[("math/bits.deBruijn32tab",Rows.laid_math_bits_deBruijn32tab),("math/bits.deBruijn64tab",Rows.laid_math_bits_deBruijn64tab),("internal/strconv.uint64pow10",Rows.laid_internal_strconv_uint64pow10)]
theorem Qx {W:World}(h:laidMetH Tryz.prog Kw W):laidMet Tryz.prog cW W/\handlesMet Tryz.prog [("errors.errorType",Rows.laid_errors_errorType)] W:=h
theorem R8 {P:Program} {w:World} {name:String} {g:Nat} {cs:Array Value}(h:w.var? P name=some cs)(hg:P.globalNamed name=some g):∃t fr,w.heap[g]? =some (.cells cs t fr):=by
 unfold World.var? at h
 rw[hg,NV]at h
 cases hh:w.heap[g]? with
 |none=>rw[hh]at h;cases h
 |
  some o=>
  rw[hh]at h
  cases o with
  |cells cs' t fr=>simp only[Aq]at h;subst h;exact⟨t,fr,rfl⟩
  |_=>cases h
theorem TH {W:World}(h:laidMetH Tryz.prog Kw W):∃t fr,W.heap[0]? =some (.cells #[.iface 293 (.agg #[.pointer (some ⟨5,39,none⟩)])] t fr):=by
 obtain⟨name,u,ty,e1,e2,e3,e4,e5⟩:=(Qx h).2 _ (AA.2 rfl)
 have en:name=[101,114,114,111,114]:=(B5 e1).symm
 subst en
 obtain rfl:=B5 (wP.symm.trans e2)
 have hm:ty∈(List.range Tryz.prog.types.size).filter λt=>Tryz.prog.rowNamed t [101,114,114,111,114]:=A5.2 ⟨AJ.2 e3,e4⟩
 rw[sX]at hm
 obtain rfl:=AA.1 hm
 have hh:typeHandle Tryz.prog 39=.pointer (some ⟨5,39,none⟩):=by kernel_rfl
 rw[hh]at e5
 exact R8 e5 wQ
theorem Z5 {W:World} {g:Nat} {cs:Array Value} {t:TypeId} {fr:Nat×Nat} {d:Da}(h:W.heap[g]? =some (.cells cs t fr))(hr:Sx.RepC [] W d cs.toList)(hs:cs.size=Sx.gsz d):Sx.GRep [] W (g,d):=by
 refine⟨⟨[_],?_,rfl⟩,by simp,cs,t,fr,h,hs⟩
 simp only[Sx.RepC]
 refine⟨g,0,cs.toList,rfl,by simp,(A8.1 h).1,hr,λj u hj=>?_⟩
 rw[Lib.cell_of_heap h,EL]
 simpa using hj
theorem ST {W:World}(h:laidMetH Tryz.prog Kw W):∃t fr,W.heap[1]? =some (.cells (Lib.pow10Tab.map λz=>Value.int .u64 z).toArray t fr):=by
 have h1:=laidMet.tail (laidMet.tail (Qx h).1)
 have h2:laidMet Tryz.prog (("internal/strconv.uint64pow10",Lib.tabData .u64 Lib.pow10Tab)::[]) W:=h1
 have h3:=Lib.tabIs_of_head (g:=1) (by kernel_rfl) (t:=327) (e:=186) (n:=20) (by kernel_rfl) Tryz.underlying327 Tryz.underlying186 (by kernel_rfl) (by kernel_rfl) h2
 exact R8 h3 (by kernel_rfl)
theorem VC(O:List Nat)(W:World)(k:IntKind):∀l:List Int,Sx.RepCs O W (l.map (Da.int k)) (l.map λz=>Value.int k z)
 |[]=>by simp[Sx.RepCs]
 |
  x::l=>by
  simp only[Au,Sx.RepCs,Sx.RepC]
  exact⟨[_],_,rfl,rfl,VC O W k l⟩
theorem kP {W:World}(h:laidMetH Tryz.prog Kw W):Sx.Glob C3 [] W:=by
 obtain⟨t1,f1,e1⟩:=TH h
 obtain⟨t5,f5,e5⟩:=ST h
 intro g hg
 rcases Ag.1 hg with hg|hg
 ·rw[AA.1 hg]
  exact Z5 e1 (by simp only[Sx.RepC]) rfl
 ·rw[AA.1 hg]
  exact Z5 e5 (by simp only[Sx.RepC];exact VC _ _ _ _) (by simp[Sx.gsz])
def eI:Sx.Enc Int:=⟨λn=>[.int .i64 n],dI,1,λ_=>rfl,λn u hu=>by simp at hu;rw[hu];rfl,λO w n=>by simp[dI,Sx.RepC]⟩
def eE:Sx.Enc Edg:=⟨λe=>[.int .i64 e.a,.int .i64 e.b],dE,2,λ_=>rfl,λn u hu=>by simp at hu;rcases hu with rfl|rfl<;>rfl,λO w n=>by simp[dE,Sx.RepC,Sx.RepCs]⟩
set_option maxRecDepth 100000 in
theorem tF {H:Type} {e':TypeId×Value->H} {w:World} {base:Nat} {spare:Nat->Bool} {held:Bool}(n:Nat)(cs:List Value)(y:DataW H×List MemPlace)
  (h:DataW.trod e' Tryz.prog w base spare held n 3 cs=some y):∃x:Int,cs=eI.enc x/\True:=by
 obtain⟨m,h0,_⟩:=DataW.trod_int Tryz.underlying3 h
 exact⟨m,h0,trivial⟩
set_option maxRecDepth 100000 in
theorem pD {H:Type} {e':TypeId×Value->H} {w:World} {base:Nat} {spare:Nat->Bool} {held:Bool}(n:Nat)(cs:List Value)(y:DataW H×List MemPlace)
  (h:DataW.trod e' Tryz.prog w base spare held n 137 cs=some y):∃x:Edg,cs=eE.enc x/\True:=by
 obtain⟨xs,k,_,_,hcl,hxl,hf⟩:=DataW.trod_struct Tryz.underlying137 h
 have cl:cs.length=2:=hcl.trans (by kernel_rfl)
 match cs,cl with
 |
  [c0,c1],_=>
  have hx4:xs.length=2:=hxl
  match xs,hx4 with
  |
   [y0,y1],_=>
   have k3:Tryz.prog.cellsOf 3=1:=by kernel_rfl
   have g0:=hf 0 _ rfl
   have g1:=hf 1 _ rfl
   simp[k3]at g0 g1
   obtain⟨n0,h0,_⟩:=DataW.trod_int Tryz.underlying3 g0
   obtain⟨n1,h1,_⟩:=DataW.trod_int Tryz.underlying3 g1
   simp at h0 h1
   subst h0;subst h1
   exact⟨⟨n0,n1⟩,rfl,trivial⟩
theorem iB {O:List Nat} {w:World} {v:Value} {b:Bool}(h:Sx.Rep O w (.bool b) v):v=.bool b:=by obtain⟨cs,r,rfl⟩:=h;simp only[Sx.RepC]at r;subst r;rfl
def WX:DataW Unit->Array Value
 |.agg ds=>(ds.map λ|.lit (.int k n)=>Value.int k n|_=>undef).toArray
 |_=>#[]
def LI(cs:Array Value):Obj->Obj
 |.cells _ t frozen=>.cells cs t frozen
 |o=>o
noncomputable def Nn(os:Os):World:=
 let w0:=World.holding Tryz.prog os ⟨#[],#[],[]⟩
 {w0 with heap:=(((w0.heap.modify 0 (LI #[.iface 293 (.agg #[.pointer (some ⟨5,39,none⟩)])])).modify 1 (LI (WX Rows.laid_internal_strconv_uint64pow10))).modify 3 (LI (WX Rows.laid_math_bits_deBruijn32tab))).modify 4 (LI (WX Rows.laid_math_bits_deBruijn64tab))}
theorem R0(os:Os)(args:Array Value):laidMetH Tryz.prog Kw ((Nn os).forCall (λ_ _=>0) ⟨#[],args,[]⟩).memory:=
 laidMetH_of_parts (laidMet_of_run' 8 (by kernel_rfl) (by kernel_rfl)) (by kernel_rfl)
end Go.Proofs.YtjejpdfldmempaaGreatDoor
end
section
namespace Go.Proofs
open Go.Shelf
def Tryz.sortE_ren:Go.Shelf.Ren:=⟨λ|6=>58|15=>104|14=>103|28=>153|29=>154|20=>145|21=>146|22=>147|23=>148|24=>149|25=>150|26=>151|27=>152|46=>210|47=>211|48=>212|49=>213|50=>214|57=>245|n=>n,λ|22=>29|24=>103|25=>111|3=>3|39=>177|0=>0|53=>184|55=>186|4=>4|46=>218|45=>217|50=>222|5=>5|9=>9|66=>281|70=>285|76=>313|77=>138|n=>n,λ|n=>n⟩
theorem Tryz.sortE:Go.Proofs.SlLaysF0.n6 Tryz.prog Tryz.sortE_ren:={
 mixed:=by kernel_rfl
 f6:=⟨Tryz.f58.name,by decide,Tryz.func58.trans (congrArg some (by kernel_rfl))⟩
 f14:=⟨Tryz.f103.name,by decide,Tryz.func103.trans (congrArg some (by kernel_rfl))⟩
 f15:=Tryz.func104.trans (congrArg some (by kernel_rfl))
 f20:=⟨Tryz.f145.name,by decide,Tryz.func145.trans (congrArg some (by kernel_rfl))⟩
 f21:=⟨Tryz.f146.name,by decide,Tryz.func146.trans (congrArg some (by kernel_rfl))⟩
 f22:=⟨Tryz.f147.name,by decide,Tryz.func147.trans (congrArg some (by kernel_rfl))⟩
 f23:=⟨Tryz.f148.name,by decide,Tryz.func148.trans (congrArg some (by kernel_rfl))⟩
 f24:=⟨Tryz.f149.name,by decide,Tryz.func149.trans (congrArg some (by kernel_rfl))⟩
 f25:=⟨Tryz.f150.name,by decide,Tryz.func150.trans (congrArg some (by kernel_rfl))⟩
 f26:=⟨Tryz.f151.name,by decide,Tryz.func151.trans (congrArg some (by kernel_rfl))⟩
 f27:=⟨Tryz.f152.name,by decide,Tryz.func152.trans (congrArg some (by kernel_rfl))⟩
 f28:=Tryz.func153.trans (congrArg some (by kernel_rfl))
 f29:=Tryz.func154.trans (congrArg some (by kernel_rfl))
 f46:=⟨Tryz.f210.name,by decide,Tryz.func210.trans (congrArg some (by kernel_rfl))⟩
 f47:=Tryz.func211.trans (congrArg some (by kernel_rfl))
 f48:=Tryz.func212.trans (congrArg some (by kernel_rfl))
 f49:=⟨Tryz.f213.name,by decide,Tryz.func213.trans (congrArg some (by kernel_rfl))⟩
 f50:=⟨Tryz.f214.name,by decide,Tryz.func214.trans (congrArg some (by kernel_rfl))⟩
 f57:=⟨Tryz.f245.name,by decide,Tryz.func245.trans (congrArg some (by kernel_rfl))⟩
 t0:=Tryz.underlying0
 a0:=Tryz.isAgg0
 z0:=Tryz.sizeOf0
 v0:=Tryz.zeroValue0
 t3:=Tryz.underlying3
 a3:=Tryz.isAgg3
 z3:=Tryz.sizeOf3
 v3:=Tryz.zeroValue3
 t4:=Tryz.underlying4
 a4:=Tryz.isAgg4
 z4:=Tryz.sizeOf4
 v4:=Tryz.zeroValue4
 t5:=Tryz.underlying5
 a5:=Tryz.isAgg5
 z5:=Tryz.sizeOf5
 v5:=Tryz.zeroValue5
 t9:=Tryz.underlying9
 a9:=Tryz.isAgg9
 z9:=Tryz.sizeOf9
 v9:=Tryz.zeroValue9
 t22:=Tryz.underlying29
 a22:=Tryz.isAgg29
 z22:=Tryz.sizeOf29
 v22:=Tryz.zeroValue29
 t25:=Tryz.underlying111
 a25:=Tryz.isAgg111
 z25:=Tryz.sizeOf111
 v25:=Tryz.zeroValue111
 t39:=Tryz.underlying177
 a39:=Tryz.isAgg177
 z39:=Tryz.sizeOf177
 v39:=Tryz.zeroValue177
 t45:=Tryz.underlying217
 a45:=Tryz.isAgg217
 z45:=Tryz.sizeOf217
 v45:=Tryz.zeroValue217
 t46:=Tryz.underlying218
 a46:=Tryz.isAgg218
 z46:=Tryz.sizeOf218
 v46:=Tryz.zeroValue218
 t50:=Tryz.underlying222
 a50:=Tryz.isAgg222
 z50:=Tryz.sizeOf222
 v50:=Tryz.zeroValue222
 t53:=Tryz.underlying184
 a53:=Tryz.isAgg184
 z53:=Tryz.sizeOf184
 v53:=Tryz.zeroValue184
 t55:=Tryz.underlying186
 a55:=Tryz.isAgg186
 z55:=Tryz.sizeOf186
 v55:=Tryz.zeroValue186
 t66:=Tryz.underlying281
 a66:=Tryz.isAgg281
 z66:=Tryz.sizeOf281
 v66:=Tryz.zeroValue281
 t70:=Tryz.underlying285
 a70:=Tryz.isAgg285
 z70:=Tryz.sizeOf285
 v70:=Tryz.zeroValue285
 t76:=Tryz.underlying313
 a76:=Tryz.isAgg313
 z76:=Tryz.sizeOf313
 v76:=Tryz.zeroValue313
 t77:=Tryz.underlying138
 a77:=Tryz.isAgg138
 z77:=Tryz.sizeOf138
 v77:=Tryz.zeroValue138}
end Go.Proofs
end
section
namespace Go.Reg
open Go Go.RowKit Go.Sort Go.Proofs
section
variable {α:Type} [Inhabited α] {enc:α->List Value} {E k:Nat} {w:World} {l:List α} {g cap:Nat}
theorem VU(he:∀x,(enc x).length=k)(hk:0<k)(d:Array α)(t:Nat)(ht:t<d.size*k):(d.toList.flatMap enc)[t]? =some (flatK enc k d)[t]! :=by
 have h1:t/k<d.size:=Nat.div_lt_of_lt_mul (by rwa [lY]at ht)
 have h2:t % k<k:=Nat.mod_lt _ hk
 have e:=Mr he d.toList (t/k) d[t/k] (t % k) (by simp[h1]) h2
 rw[show t/k*k+t % k=t from Nat.div_add_mod' t k]at e
 rw[e,get_flatK _ _ _ _ ht,getElem!_pos d (t/k) h1]
 have h3:t % k<(enc d[t/k]).length:=by rw[he];exact h2
 rw[Aa h3,getElem!_pos (enc d[t/k]) (t % k) h3]
theorem Sl.holdsK(he:∀x,(enc x).length=k)(hk:0<k)(h:Sl E k enc w (.slice (some ⟨g,0,none⟩) l.length cap) l):HoldsK enc k w g 0 l.toArray:=by
 intro j hj
 have hj':j<l.length*k:=by simpa using hj
 have hc:=Rl h (g:=g) rfl j (flatK enc k l.toArray)[j]! (by have:=VU he hk l.toArray j hj';simpa using this)
 refine⟨by simpa[CH]using hc,?_⟩
 rcases h.2 with⟨h1,_⟩|⟨g',cap',cur,h1,_,hg,_⟩
 ·cases h1
 ·cases h1
  simp[World.frozen?,hg]
theorem Sl.sorted(he:∀x,(enc x).length=k)(hk:0<k)(h:Sl E k enc w (.slice (some ⟨g,0,none⟩) l.length cap) l)(d:Array α)(hd:d.size=l.length)(n:Nat)(os:Array Obj):
  Sl E k enc (sortWorldK enc k w g 0 n d os) (.slice (some ⟨g,0,none⟩) l.length cap) d.toList/\Tch [g] w (sortWorldK enc k w g 0 n d os):=by
 have hlt:=h.lt (b:=g) rfl
 constructor
 ·have hlen:(d.toList.flatMap enc).length=d.toList.length*k:=by
   generalize d.toList=xs
   induction xs with
   |nil=>simp
   |cons x xs ih=>simp[ih,he,C0];omega
  refine⟨hlen,?_⟩
  rcases h.2 with⟨h1,_⟩|⟨g',cap',cur,h1,h0,hg,hc,hm,hs,ht⟩
  ·cases h1
  ·cases h1
   refine .inr ⟨g,cap,putCells id 0 (flatK enc k d) cur,by simp[hd],Aj _,?_,by simp[hd];exact hc,hm,by simp[putCells,hs],?_⟩
   ·simp only[sortWorldK,grow,putRowK,putRow,mapBlock,Sort.ahead]
    rw[HM (by simpa using hlt)]
    simp[Cp,hg,onCells]
   ·apply Er
    intro t
    rw[Cv]
    split
    ·rename_i hlt'
     have hlt2:t<d.size*k:=by simpa using hlt'
     rw[VU he hk d t hlt2]
     have hcs:t<cur.size:=by rw[hs];rw[hd]at hlt2;exact CS hlt2 (Ej k hc)
     simp[putCells,hcs,hlt2]
    ·rename_i hge
     rw[Bh (by rw[hlen];omega)]
 ·refine⟨rfl,rfl,rfl,?_,?_⟩
  ·simp[sortWorldK,grow,putRowK,putRow,mapBlock,Sort.ahead]
  ·intro j hj hn
   have hne:g≠j:=λe=>hn (by simp[e])
   simp only[sortWorldK,grow,putRowK,putRow,mapBlock,Sort.ahead]
   rw[HM (by simpa using hj)]
   simp[Cp,hne]
end
end Go.Reg
end
section
namespace Go.Proofs.YtjejpdfldmempaaGreatDoor
open Go.Sx Go.RowKit Go.Reg Go.Gr
def It(e:Edg):List Value:=[.int .i64 e.a,.int .i64 e.b]
def KW(e:Edg):Value:=.agg #[.int .i64 e.a,.int .i64 e.b]
theorem QM(e:Edg):(It e).length=2:=rfl
theorem We(e:Edg):∀u∈It e,u.oneCell'=true:=by intro u hu;simp[It]at hu;rcases hu with rfl|rfl<;>rfl
def oG(a b:Int):Int:=if a=0 then b else a
set_option maxRecDepth 100000 in
theorem Q3(a:Int)(w:World):Calls Tryz.prog 143 #[.int .i64 a] w λe w'=>e=.returned (.bool false)/\w=w':=by
 have h:(a !=a)=false:=by simp
 go_enter Tryz.func143,Tryz.ntmps143
 go_wp2_with fail
 go_ret
 exact⟨rfl,rfl⟩
set_option maxRecDepth 100000 in
theorem EI(a b:Int)(w:World):Calls Tryz.prog 101 #[.int .i64 a,.int .i64 b] w λe w'=>e=.returned (.int .i64 (CF a b))/\w=w':=by
 by_cases h1:a<b
 ·have e1:CF a b=-1:=by simp[CF,h1]
  rw[e1]
  clear e1
  go_enter Tryz.func101,Tryz.ntmps101
  go_wp2_with (go_at_call 143;refine(Q3 _ _).mono ?_;rintro e w' ⟨rfl,rfl⟩)
  go_ret
  exact⟨rfl,rfl⟩
 ·by_cases h2:b<a
  ·have e1:CF a b=1:=by simp[CF,h1,h2]
   rw[e1]
   clear e1
   go_enter Tryz.func101,Tryz.ntmps101
   go_wp2_with (go_at_call 143;refine(Q3 _ _).mono ?_;rintro e w' ⟨rfl,rfl⟩)
   go_ret
   exact⟨rfl,rfl⟩
  ·have e1:CF a b=0:=by simp[CF,h1,h2]
   rw[e1]
   clear e1
   go_enter Tryz.func101,Tryz.ntmps101
   go_wp2_with (go_at_call 143;refine(Q3 _ _).mono ?_;rintro e w' ⟨rfl,rfl⟩)
   go_ret
   exact⟨rfl,rfl⟩
set_option maxRecDepth 100000 in
theorem qM(s:Nat)(a b:Int)(w:World)(c0:w.cell? ⟨s,0,none⟩=some (.int .i64 a))(c1:w.cell? ⟨s,1,none⟩=some (.int .i64 b)):
  Calls Tryz.prog 100 #[.slice (some ⟨s,0,none⟩) 2 2] w λe w'=>e=.returned (.int .i64 (oG a b))/\w=w':=by
 by_cases ha:a=0
 ·subst ha
  have e1:oG 0 b=b:=by simp[oG]
  rw[e1]
  clear e1
  have b0:((0:Int) !=0)=false:=by simp
  by_cases hb:b=0
  ·subst hb
   go_enter Tryz.func100,Tryz.ntmps100
   go_wp2_with fail
   refine wp_loop_rounds 3 ?_
   rw[rounds_succ]
   go_wp2_with fail
   rw[rounds_succ]
   go_wp2_with fail
   rw[rounds_succ]
   go_wp2_with fail
   go_ret
   exact⟨rfl,rfl⟩
  ·have hb':(b !=0)=true:=by simpa using hb
   clear hb
   go_enter Tryz.func100,Tryz.ntmps100
   go_wp2_with fail
   refine wp_loop_rounds 2 ?_
   rw[rounds_succ]
   go_wp2_with fail
   rw[rounds_succ]
   go_wp2_with fail
   go_ret
   exact⟨rfl,rfl⟩
 ·have e1:oG a b=a:=by simp[oG,ha]
  rw[e1]
  have ha':(a !=0)=true:=by simpa using ha
  clear e1 ha
  go_enter Tryz.func100,Tryz.ntmps100
  go_wp2_with fail
  refine wp_loop_rounds 1 ?_
  rw[rounds_succ]
  go_wp2_with fail
  go_ret
  exact⟨rfl,rfl⟩
theorem M2(w:World)(cs:Array Value)(T:TypeId) {s i:Nat} {v:Value}(hs:s=w.heap.size)(h:cs[i]? =some v):(w.alloc (.cells cs T)).drew.cell? ⟨s,i,none⟩=some v:=by
 subst hs
 simp[h]
open Go.Sort Go.Proofs in
set_option maxRecDepth 100000 in
set_option maxHeartbeats 1000000 in
theorem jH(x y:Edg)(W:World):Calls Tryz.prog 166 #[KW x,KW y] W λe w'=>e=.returned (.int .i64 (Ce x y))/\∃q os',w'=grow (W.drewN q) os':=by
 unfold KW
 go_enter Tryz.func166,Tryz.ntmps166
 go_wp2_with fail
 refine Hp [101] [0,1,0,1,2,0,1,0,1,2,6,3,0] [0,2,5,7,1,3,6,8,4,9,10,11,12] [0,1,0,4,15,0,32,0,128,511,1023,2047,4095] (by kernel_rfl) (by kernel_rfl) ?_
 go_wp2_with (first|(refine CY rfl rfl rfl rfl (λ_ _=>?_))|(refine DE rfl rfl rfl (λ_ _=>?_)))
 refine F2 rfl rfl rfl (λK1 hK1=>?_)
 go_wp2_with (go_at_call 101;refine(EI _ _ _).mono ?_;rintro e w' ⟨rfl,rfl⟩)
 refine hK1 _ _ (I5.refl _) ?_
 go_wp2_with (first|(refine CY rfl rfl rfl rfl (λ_ _=>?_))|(refine DE rfl rfl rfl (λ_ _=>?_)))
 refine F2 rfl rfl rfl (λK2 hK2=>?_)
 go_wp2_with (go_at_call 101;refine(EI _ _ _).mono ?_;rintro e w' ⟨rfl,rfl⟩)
 refine hK2 _ _ (I5.refl _) ?_
 go_wp2_with (first|(refine CY rfl rfl rfl rfl (λ_ _=>?_))|(refine DE rfl rfl rfl (λ_ _=>?_)))
 refine L6 rfl rfl rfl (λK3 hK3=>?_)
 go_wp2_with fail
 refine(qM _ _ _ _ (M2 _ _ _ (by simp) rfl) (M2 _ _ _ (by simp) rfl)).mono ?_
 rintro e w' ⟨rfl,rfl⟩
 refine hK3 _ _ ?_
 go_wp2_with (first|(refine CY rfl rfl rfl rfl (λ_ _=>?_))|(refine DE rfl rfl rfl (λ_ _=>?_))|refine L7 ?_)
 go_ret
 have e:oG (CF x.a y.a) (CF x.b y.b)=Ce x y:=by
  unfold oG Ce
  by_cases h:CF x.a y.a=0<;>simp[h]
 exact⟨by rw[<-e];rfl,1,_,by rw[alloc_eq_grow,alloc_eq_grow,alloc_eq_grow,grow_grow,grow_grow];rfl⟩
instance:Inhabited Edg:=⟨⟨0,0⟩⟩
open Go.Sort in
theorem lI:SWO (ltOf Ce)where
 irrefl x:=by simp[ltOf,Eh]
 trans x y z h1 h2:=by simp only[ltOf,decide_eq_true_eq,Eh]at*;omega
 ntrans x y z h1 h2:=by simp only[ltOf,decide_eq_false_iff_not,Eh]at*;omega
open Go.Sort in
theorem nQ(v:Value)(l:List Edg)(w:World)(h:Sl 103 2 It w v l)(hl:l.length<=4294967296):
  Calls Tryz.prog 58 #[v,.func (.func 166) #[] #[]] w λe w'=>e=.returned (.tuple #[])/\∃out,Sl 103 2 It w' v out/\out.Perm l/\
   out.Pairwise (λa b=>¬Ce b a<0)/\Tch v.ownBlock.toList w w':=by
 rcases h.shape with⟨rfl,rfl⟩|⟨g,cap,rfl,hc⟩
 ·refine(AnyF.slices_SortFunc_none Tryz.sortE none 0 _ w).mono ?_
  rintro e w' ⟨rfl,rfl⟩
  exact⟨rfl,[],h,List.Perm.refl _,List.Pairwise.nil,Tch.refl _ _⟩
 ·refine(AnyQ.slices_SortFunc Tryz.sortE 2 Tryz.isAgg103 Tryz.sizeOf103 It (λ_=>rfl) We Ce lI 166 #[] g 0 cap l.toArray w
   (enters_of Tryz.func166 (by kernel_rfl) rfl) (λm os dk hs x y=>jH x y _) (h.holdsK QM (by decide)) (h.lt rfl) (by simp;omega)).mono ?_
  rintro e w' ⟨rfl,d,n,os,hp,hs,rfl⟩
  obtain⟨hp1,hp2,hp3⟩:=hp
  have hd:d.size=l.length:=by simpa using hp1
  obtain⟨hS,hT⟩:=h.sorted QM (by decide) d hd n os
  refine⟨rfl,d.toList,hS,?_,?_,hT⟩
  ·have e1:d.extract 0 l.toArray.size=d:=by rw[<-hp1];exact Array.extract_size
   have e2:l.toArray.extract 0 l.toArray.size=l.toArray:=Array.extract_size
   rw[e1,e2]at hp3
   exact hp3
  ·rw[AH]
   intro i j hi hj hij
   have hj':j<l.length:=by rw[<-hd];simpa using hj
   have hi':i<l.length:=by omega
   have:=hs i j (Aj _) hij (by simpa using hj')
   rw[getElem!_pos d j (by omega),getElem!_pos d i (by omega)]at this
   simpa[ltOf]using this
theorem QO {O:List Nat} {w:World}:∀{l:List Edg} {css:List (List Value)},Am O w (l.map dE) css->css=l.map It
 |[],css,h=>by simpa only[BI,Am]using h
 |
  e::l,css,h=>by
  simp only[Au,Am,dE,RepC,RepCs]at h
  obtain⟨c1,c2,rfl,⟨_,_,rfl,rfl,_,_,rfl,rfl,rfl⟩,h⟩:=h
  rw[QO h];rfl
theorem S9(O:List Nat)(w:World):∀l:List Edg,Am O w (l.map dE) (l.map It)
 |[]=>by simp[Am]
 |
  e::l=>by
  simp only[Au,Am]
  exact⟨_,_,rfl,by simp[dE,RepC,RepCs,It],S9 O w l⟩
theorem Wh {E:Nat} {w:World} {v:Value} {l:List Edg}:Sl E 2 id w v (l.map It)↔Sl E 2 It w v l:=by
 unfold Sl
 rw[Ab,eX]
 exact Iff.rfl
theorem gI(l:List Edg)(hl:l.length<=4294967296):YK C1 58 103 2 (l.map dE) [.func (.func 166) [] []] (λ_ ds=>∃out:List Edg,ds=out.map dE/\out.Perm l/\out.Pairwise (λa b=>¬Ce b a<0)):=by
 intro O w v css us hs hb hO hr hk hg hus
 obtain⟨u,us',rfl,h1,h2⟩:=Ci hus
 obtain rfl:=ER h2
 obtain⟨cs,r,rfl⟩:=h1
 simp only[RepC,Am]at r
 obtain⟨_,_,rfl,rfl,rfl⟩:=r
 obtain rfl:=QO hr
 refine⟨by kernel_rfl,(nQ v l w (Wh.1 hs) hl).mono ?_⟩
 rintro e w' ⟨rfl,out,hs',hp,ho,ht⟩
 refine⟨.tuple #[],.tuple [],_,out.map It,rfl,⟨out,rfl,hp,ho⟩,Wh.2 hs',S9 _ _ _,?_,⟨[.tuple #[]],by simp only[RepC,Am];exact⟨[],rfl,rfl⟩,rfl⟩,ht⟩
 intro x hx
 obtain⟨e,_,rfl⟩:=Ar.1 hx
 exact⟨rfl,We e⟩
end Go.Proofs.YtjejpdfldmempaaGreatDoor
end
section
namespace Go.Proofs.YtjejpdfldmempaaGreatDoor
open Go.Sx Go.RowKit Go.Reg Go.Gr
open Go.Sort Go.Proofs in
set_option maxRecDepth 100000 in
set_option maxHeartbeats 1000000 in
theorem Qc(x y:Edg)(W:World):Calls Tryz.prog 50 #[KW x,KW y] W λe w'=>e=.returned (.int .i64 (Ce x y))/\∃q os',w'=grow (W.drewN q) os':=by
 unfold KW
 go_enter Tryz.func50,Tryz.ntmps50
 go_wp2_with fail
 refine Hp [101] [0,1,0,1,2,0,1,0,1,2,6,3,0] [0,2,5,7,1,3,6,8,4,9,10,11,12] [0,1,0,4,15,0,32,0,128,511,1023,2047,4095] (by kernel_rfl) (by kernel_rfl) ?_
 go_wp2_with (first|(refine CY rfl rfl rfl rfl (λ_ _=>?_))|(refine DE rfl rfl rfl (λ_ _=>?_)))
 refine F2 rfl rfl rfl (λK1 hK1=>?_)
 go_wp2_with (go_at_call 101;refine(EI _ _ _).mono ?_;rintro e w' ⟨rfl,rfl⟩)
 refine hK1 _ _ (I5.refl _) ?_
 go_wp2_with (first|(refine CY rfl rfl rfl rfl (λ_ _=>?_))|(refine DE rfl rfl rfl (λ_ _=>?_)))
 refine F2 rfl rfl rfl (λK2 hK2=>?_)
 go_wp2_with (go_at_call 101;refine(EI _ _ _).mono ?_;rintro e w' ⟨rfl,rfl⟩)
 refine hK2 _ _ (I5.refl _) ?_
 go_wp2_with (first|(refine CY rfl rfl rfl rfl (λ_ _=>?_))|(refine DE rfl rfl rfl (λ_ _=>?_)))
 refine L6 rfl rfl rfl (λK3 hK3=>?_)
 go_wp2_with fail
 refine(qM _ _ _ _ (M2 _ _ _ (by simp) rfl) (M2 _ _ _ (by simp) rfl)).mono ?_
 rintro e w' ⟨rfl,rfl⟩
 refine hK3 _ _ ?_
 go_wp2_with (first|(refine CY rfl rfl rfl rfl (λ_ _=>?_))|(refine DE rfl rfl rfl (λ_ _=>?_))|refine L7 ?_)
 go_ret
 have e:oG (CF x.a y.a) (CF x.b y.b)=Ce x y:=by
  unfold oG Ce
  by_cases h:CF x.a y.a=0<;>simp[h]
 exact⟨by rw[<-e];rfl,1,_,by rw[alloc_eq_grow,alloc_eq_grow,alloc_eq_grow,grow_grow,grow_grow];rfl⟩
end Go.Proofs.YtjejpdfldmempaaGreatDoor
end
section
namespace Go.Gr
def GW(E:List Edg)(e:Edg):Nat:=E.countP (λx=>decide (Ce x e<0))
def Mj(E:List Edg)(x:Edg):List Edg:=E.take (GW E x)++x::E.drop (GW E x)
def I0(E:List Edg)(i:Nat):List Edg:=((E.take i).map turn).foldl Mj []
theorem cO {E:List Edg}(h:Cl E)(x:Edg):(∀y∈E.take (GW E x),Ce y x<0)/\∀y∈E.drop (GW E x),¬Ce y x<0:=by
 induction E with
 |nil=>simp
 |
  cons z E ih=>
  obtain⟨h1,h2⟩:=BA.1 h
  by_cases hz:Ce z x<0
  ·have e:GW (z::E) x=GW E x+1:=by unfold GW;rw[List.countP_cons_of_pos (by simp[hz])]
   rw[e,List.take_succ_cons,List.drop_succ_cons]
   obtain⟨i1,i2⟩:=ih h2
   refine⟨λy hy=>?_,i2⟩
   rcases An.1 hy with rfl|hy
   ·exact hz
   ·exact i1 y hy
  ·have hall:∀y∈z::E,¬Ce y x<0:=by
    intro y hy
    rcases An.1 hy with rfl|hy
    ·exact hz
    ·exactλhc=>hz (Fm (h1 y hy) hc)
   have e:GW (z::E) x=0:=by
    unfold GW
    exact List.countP_eq_zero.2 λy hy=>by have:=hall y hy;simpa using this
   rw[e]
   exact⟨by simp,hall⟩
theorem Su(E:List Edg)(x:Edg):(Mj E x).Perm (x::E):=by
 unfold Mj
 refine List.perm_middle.trans ?_
 rw[BZ]
theorem VF {E:List Edg}(h:Cl E) {x:Edg}(hx:x∉E):Cl (Mj E x):=by
 obtain⟨h1,h2⟩:=cO h x
 unfold Mj
 have hg:∀y∈E.drop (GW E x),Ce x y<0:=λy hy=>by
  rcases M1 x y with h3|h3|h3
  ·exact h3
  ·subst h3;exact absurd (List.mem_of_mem_drop hy) hx
  ·exact absurd h3 (h2 y hy)
 refine Ct.2 ⟨qD (WL _ _) h,BA.2 ⟨hg,qD (List.drop_sublist _ _) h⟩,λa ha b hb=>?_⟩
 rcases An.1 hb with rfl|hb
 ·exact h1 a ha
 ·exact Fm (h1 a ha) (hg b hb)
theorem VR(L:List Edg)(hn:L.Nodup):∀E,Cl E->(∀x∈L,x∉E)->Cl (L.foldl Mj E)/\(L.foldl Mj E).Perm (L++E):=by
 induction L with
 |nil=>intro E h _;exact⟨h,List.Perm.refl _⟩
 |
  cons x L ih=>
  intro E h hx
  obtain⟨n1,n2⟩:=Ck.1 hn
  have hs:=VF h (hx x (by simp))
  obtain⟨i1,i2⟩:=ih n2 (Mj E x) hs (λy hy hm=>by
   have:=(Su E x).mem_iff.1 hm
   rcases An.1 this with rfl|h3
   ·exact n1 hy
   ·exact hx y (by simp[hy]) h3)
  refine⟨i1,i2.trans ?_⟩
  refine(List.Perm.append_left L (Su E x)).trans ?_
  exact List.perm_middle
theorem pZ {E:List Edg}(hn:(E.map turn).Nodup)(i:Nat):Cl (I0 E i)/\(I0 E i).Perm ((E.take i).map turn):=by
 have hn':((E.take i).map turn).Nodup:=by rw[CW];exact hn.sublist (WL _ _)
 have:=VR _ hn' [] List.Pairwise.nil (by simp)
 rwa [Cc]at this
theorem eV {E:List Edg} {i:Nat} {x:Edg}(h:E[i]? =some x):I0 E (i+1)=Mj (I0 E i) (turn x):=by
 unfold I0
 rw[Av,h]
 simp
end Go.Gr
end
