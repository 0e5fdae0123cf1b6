/- Merged: Rof Rma Rlv Ble Rtx Ral Rtu Rkp Rkw Rdx Rky Rkk. -/
import Derived.Test.YtjpmmkodoeipmaaGreatDoorrkay
import Derived.Test.YtjpmmkodoeipmaaGreatDoorrkaz
import Derived.Test.YtjpmmkodoeipmaaGreatDoorrkax
import Derived.Test.YtjpmmkodoeipmaaGreatDoorrkar
import Derived.Lib.FrozenHead
import Derived.Lib.UnsafeStr
import Derived.Laws.Append
import Derived.Test.YtjpmmkodoeipmaaGreatDoorrkak
import Derived.Test.YtjpmmkodoeipmaaGreatDoorCards
import Derived.Test.YtjpmmkodoeipmaaGreatDoorTie
import Derived.WalkKit
import Derived.ProofKit
import Derived.OpenShut
import Derived.ChangeMaps5
import Derived.ChangeSame
import Derived.SizedLaws
import Derived.Deep.DeepHandedRow
import Derived.Lib.LaidTab
import Derived.LaidHandle
import Derived.Carry
import Derived.Stop.LaidErr
import Derived.Test.YtjpmmkodoeipmaaGreatDoorRows
import Derived.JoinedCond
section
namespace Go.Proofs.YtjpmmkodoeipmaaGreatDoor
open Go.Sx Go.RowKit Go.Reg Go.Gr
set_option maxRecDepth 100000
def ACm(k:Int)(A:List (Pt×Int))(S:List (List Int)):Da:=.agg [.int .i64 k,.list 3 (A.map D0),.list 1 (S.map Bn)]
def AA7(A:List (Pt×Int)):Prop:=∀x∈A,Dp x.1=none
def Jo(x:Pt×Int):List UInt8:=Lib.itoa x.2++32::(DW x.1++[10])
def P7(s:List Int):List UInt8:=Lib.join (s.map Lib.itoa) [32]++[10]
def YZ(A:List (Pt×Int))(S:List (List Int)):List UInt8:=A.flatMap Jo++S.flatMap P7
theorem zQ(n:Int)(h0:-9223372036854775808<=n)(h1:n<=9223372036854775807):Sx.Pure C3 41 [.int .i64 n,.int .i64 10] (λy=>y=.str (bs (Lib.itoa n))):=by
 intro O w us hO hg hr
 obtain⟨v,vs,rfl,h3,h2⟩:=Cn hr
 obtain⟨v2,vs2,rfl,h5,h4⟩:=Cn h2
 obtain rfl:=Ds h4
 obtain rfl:=EZ h3
 obtain rfl:=EZ h5
 refine⟨by kernel_rfl,(Any.strconv_FormatInt_10 Tryz.fmtL n h0 h1 w (uS hg nF (by kernel_rfl))).mono ?_⟩
 rintro e w' ⟨rfl,k,os,rfl⟩
 refine⟨_,_,rfl,rfl,⟨[_],by simp only[RepC];rfl,rfl⟩,⟨rfl,rfl,rfl,by rw[Go.Sort.size_grow];exact Nat.le_add_right _ _,λb hb _=>Go.Sort.heap_grow_old (w.drewN k) os hb⟩⟩
def iC:List (Nat×Plan):=[(2,.leaf [1,2,1,2,6,2,0] [0,2,1,3,4,5,6] [0,1,0,7,15,31,63])]
def AAH:List FuncId:=[25,26,24]
theorem Z7 {G:Gr} {c:Cnf}(hJ:JobOk G (decide (c.kind=3)) c.size (EU c))(hC:CnfOk c)(L:List (List (List Int)))(q:List Int->Pt)(V:List Int->List Int)(hLl:L.length<=1000)(hL:L.flatten.length<=10000)(hR:∀R∈L,R.length<=10000)(hX:∀R∈L,∀X∈R,X.length<=1000)(hq:∀R∈L,∀X∈R,PatAt G (decide (c.kind=3)) c.size (EU c) q V X):
  Pure C3 9 [He c,dG G,OS L] (λy=>y=.tuple [ACm c.kind (FT c.kind c.size.toNat c.sup (λX=>Cc (q X)) (λX=>JS (LM (q X)) (V X)) L) (Jq c.kind L),.nili]):=by
 have hjb:=Pure.up3 (Rb G c (by have:=hC.l15;omega))
 have hcr:=Pure.up3 (dC hC)
 have hlr:=Pure.up3 (Su hJ)
 have hff:=Pure.up3 eZ
 have hk:=hC.kind
 have hsz:=hC.size
 obtain⟨D,hD⟩:=A6 (show 0<=c.size by omega)
 have hDn:c.size.toNat=D:=by omega
 rw[hDn]
 have hk3:c.kind=1\/c.kind=2\/c.kind=3:=by omega
 rcases hk3 with e|e|e
 ·have hm:=XJ (G:=G) (e:=decide (c.kind=3)) (l:=EU c) D (by omega) (by omega) L q V (λR h=>by have:=hR R h;omega) (by rw[<-hD];exact hq)
  rw[<-hD]at hm
  have eL:FT c.kind D c.sup (λX=>Cc (q X)) (λX=>JS (LM (q X)) (V X)) L=(if D<=L.length then Ee (((L[D-1]?).getD []).map λX=>Cc (q X))else[]):=by unfold FT;rw[if_pos e]
  have eS:Jq c.kind L=[]:=by unfold Jq;rw[if_neg (by omega)]
  rw[eL,eS]
  generalize (if D<=L.length then Ee (((L[D-1]?).getD []).map λX=>Cc (q X))else[])=A at hm
  refine Pure.laxR (Q:=λy=>y=.tuple [.agg [.int .i64 c.kind,.list 3 (A.map D0),.nils],.nili]) (λy hy=>by rw[hy];exact .tuple (.cons (.agg (.cons (.refl _) (.cons (.refl _) (.cons (.nils 1) .nil)))) (.cons (.refl _) .nil))) ?_
  refine Oe Tryz.func9 Tryz.ntmps9 AAH iC ?_
  (conv=>whnf)
  (repeat' ((first|refine Aj ?_ ?_|refine Af rfl hjb ?_|refine Af rfl hcr ?_|refine Af rfl hlr ?_|refine Dx 19 rfl ?_|refine Af rfl hff ?_|refine Af rfl hm ?_|refine nx ?_|refine AD (λ_=>?_) (λ_=>?_)|exact AG)<;>conv=>whnf))
  exact rfl
 ·have hm:=VK (G:=G) (e:=decide (c.kind=3)) (d:=c.size) (l:=EU c) L q V hLl (by omega) hX hq
  have eL:FT c.kind D c.sup (λX=>Cc (q X)) (λX=>JS (LM (q X)) (V X)) L=[]:=by unfold FT;rw[if_neg (by omega),if_pos e]
  have eS:Jq c.kind L=sortC (L.flatten.map Kk):=by unfold Jq;rw[if_pos e]
  rw[eL,eS]
  generalize sortC (L.flatten.map Kk)=S at hm
  refine Pure.laxR (Q:=λy=>y=.tuple [.agg [.int .i64 c.kind,.nils,.list 1 (S.map Bn)],.nili]) (λy hy=>by rw[hy];exact .tuple (.cons (.agg (.cons (.refl _) (.cons (.nils 3) (.cons (.refl _) .nil)))) (.cons (.refl _) .nil))) ?_
  refine Oe Tryz.func9 Tryz.ntmps9 AAH iC ?_
  (conv=>whnf)
  (repeat' ((first|refine Aj ?_ ?_|refine Af rfl hjb ?_|refine Af rfl hcr ?_|refine Af rfl hlr ?_|refine Dx 19 rfl ?_|refine Af rfl hff ?_|refine Af rfl hm ?_|refine nx ?_|refine AD (λ_=>?_) (λ_=>?_)|exact AG)<;>conv=>whnf))
  exact rfl
 ·have hm:=gU (G:=G) (e:=decide (c.kind=3)) (d:=c.size) (l:=EU c) L c.sup q V hLl hL hq
  have eL:FT c.kind D c.sup (λX=>Cc (q X)) (λX=>JS (LM (q X)) (V X)) L=R6 (λX=>Cc (q X)) (λX=>JS (LM (q X)) (V X)) L.flatten c.sup:=by unfold FT;rw[if_neg (by omega),if_neg (by omega)]
  have eS:Jq c.kind L=[]:=by unfold Jq;rw[if_neg (by omega)]
  rw[eL,eS]
  generalize R6 (λX=>Cc (q X)) (λX=>JS (LM (q X)) (V X)) L.flatten c.sup=A at hm
  refine Pure.laxR (Q:=λy=>y=.tuple [.agg [.int .i64 c.kind,.list 3 (A.map D0),.nils],.nili]) (λy hy=>by rw[hy];exact .tuple (.cons (.agg (.cons (.refl _) (.cons (.refl _) (.cons (.nils 1) .nil)))) (.cons (.refl _) .nil))) ?_
  refine Oe Tryz.func9 Tryz.ntmps9 AAH iC ?_
  (conv=>whnf)
  (repeat' ((first|refine Aj ?_ ?_|refine Af rfl hjb ?_|refine Af rfl hcr ?_|refine Af rfl hlr ?_|refine Dx 19 rfl ?_|refine Af rfl hff ?_|refine Af rfl hm ?_|refine nx ?_|refine AD (λ_=>?_) (λ_=>?_)|exact AG)<;>conv=>whnf))
  exact rfl
end Go.Proofs.YtjpmmkodoeipmaaGreatDoor
end
section
namespace Go.Gr
open Go.Proofs.YtjpmmkodoeipmaaGreatDoor
structure JobC(G:Gr)(c:Cnf):Prop where
 ok:G.Ok
 n:G.labels.length<=6
 m:G.edges.length<=8
 cnf:CnfOk c
 size:c.size<=4
 s3:c.kind=3->c.size<=3
 k3:c.kind=3->∀o∈c.keep,o.kind≠1
theorem JobC.job {G:Gr} {c:Cnf}(h:JobC G c):JobOk G (decide (c.kind=3)) c.size (EU c):=by
 have h15:=h.cnf.l15
 refine⟨h.ok,by have:=h.n;omega,by have:=h.m;omega,λ_=>h.m,h.cnf.size,?_,?_⟩
 ·unfold EU
  split
  ·simp only[Aw];omega
  ·omega
 ·unfold EU
  split
  ·intro o ho
   rcases Ai.1 ho with rfl|ho
   ·decide
   ·exact h.cnf.lok o ho
  ·exact h.cnf.lok
end Go.Gr
namespace Go.Proofs.YtjpmmkodoeipmaaGreatDoor
open Go.Sx Go.RowKit Go.Reg Go.Gr
set_option maxRecDepth 100000
theorem Me(n m:Int):Pure C1 50 [.int .i64 n,.int .i64 m] (λy=>y=.bool (decide (1<=n/\n<=m))):=by
 refine AW Tryz.func50 Tryz.ntmps50 [] [] ?_
 by_cases h:1<=n
 ·((conv=>whnf);repeat' ((first|refine odw ?_|refine nx ?_|refine AD (λ_=>?_) (λ_=>?_))<;>conv=>whnf))
  exact congrArg Da.bool (decide_eq_decide.2 ⟨λx=>⟨h,x⟩,λx=>x.2⟩)
 ·((conv=>whnf);repeat' ((first|refine odw ?_|refine nx ?_|refine AD (λ_=>?_) (λ_=>?_))<;>conv=>whnf))
  exact congrArg Da.bool (decide_eq_false (λx=>h x.1)).symm
def AFd:List FuncId:=[50]
set_option maxHeartbeats 4000000 in
theorem VL(c:Cnf)(hpl:c.keep.length<=9223372036854775807):Pure C1 16 [He c] (λy=>(y=.bool true/\CnfOk c)\/y=.bool false):=by
 have hlen:(c.keep.map dO).length=c.keep.length:=Ac _
 have hrr:=VI c.keep hpl
 have hw0:=Me c.kind 3
 have hw1:=Me c.size 8
 have hw2:=Me c.workers 64
 have hw3:=Me c.cap 1000000
 have hw4:=Me c.sup 1000000
 refine AW Tryz.func16 Tryz.ntmps16 AFd [] ?_
 (conv=>whnf)
 refine AS rfl hrr ?_
 rintro y (⟨rfl,hl16,hlok⟩|⟨c,i,hc,rfl⟩)
 ·by_cases k15:c.keep.length<=15
  case neg=>
   ((conv=>whnf);repeat' ((first|refine odw ?_|refine nx ?_|refine AD (λ_=>?_) (λ_=>?_))<;>conv=>whnf))
   exact .inr rfl
  by_cases k0:1<=c.kind/\c.kind<=3
  case neg=>
   rw[decide_eq_false k0]at hw0
   (conv=>whnf)
   (repeat' ((first|refine Aj ?_ ?_|refine Af rfl hw0 ?_|refine Af rfl hw1 ?_|refine Af rfl hw2 ?_|refine Af rfl hw3 ?_|refine Af rfl hw4 ?_|refine nx ?_|refine AD (λ_=>?_) (λ_=>?_)|exact AG)<;>conv=>whnf))
   exact .inr rfl
  rw[decide_eq_true k0]at hw0
  by_cases k1:1<=c.size/\c.size<=8
  case neg=>
   rw[decide_eq_false k1]at hw1
   (conv=>whnf)
   (repeat' ((first|refine Aj ?_ ?_|refine Af rfl hw0 ?_|refine Af rfl hw1 ?_|refine Af rfl hw2 ?_|refine Af rfl hw3 ?_|refine Af rfl hw4 ?_|refine nx ?_|refine AD (λ_=>?_) (λ_=>?_)|exact AG)<;>conv=>whnf))
   exact .inr rfl
  rw[decide_eq_true k1]at hw1
  by_cases k2:1<=c.workers/\c.workers<=64
  case neg=>
   rw[decide_eq_false k2]at hw2
   (conv=>whnf)
   (repeat' ((first|refine Aj ?_ ?_|refine Af rfl hw0 ?_|refine Af rfl hw1 ?_|refine Af rfl hw2 ?_|refine Af rfl hw3 ?_|refine Af rfl hw4 ?_|refine nx ?_|refine AD (λ_=>?_) (λ_=>?_)|exact AG)<;>conv=>whnf))
   exact .inr rfl
  rw[decide_eq_true k2]at hw2
  by_cases k3:1<=c.cap/\c.cap<=1000000
  case neg=>
   rw[decide_eq_false k3]at hw3
   (conv=>whnf)
   (repeat' ((first|refine Aj ?_ ?_|refine Af rfl hw0 ?_|refine Af rfl hw1 ?_|refine Af rfl hw2 ?_|refine Af rfl hw3 ?_|refine Af rfl hw4 ?_|refine nx ?_|refine AD (λ_=>?_) (λ_=>?_)|exact AG)<;>conv=>whnf))
   exact .inr rfl
  rw[decide_eq_true k3]at hw3
  by_cases e:c.kind=3
  ·by_cases k5:1<=c.sup/\c.sup<=1000000
   ·rw[decide_eq_true k5]at hw4
    (conv=>whnf)
    (repeat' ((first|refine Aj ?_ ?_|refine Af rfl hw0 ?_|refine Af rfl hw1 ?_|refine Af rfl hw2 ?_|refine Af rfl hw3 ?_|refine Af rfl hw4 ?_|refine nx ?_|refine AD (λ_=>?_) (λ_=>?_)|exact AG)<;>conv=>whnf))
    exact .inl ⟨rfl,⟨k0,k1,k2,k3,k15,hlok,by rw[if_pos e];exact k5⟩⟩
   ·rw[decide_eq_false k5]at hw4
    (conv=>whnf)
    (repeat' ((first|refine Aj ?_ ?_|refine Af rfl hw0 ?_|refine Af rfl hw1 ?_|refine Af rfl hw2 ?_|refine Af rfl hw3 ?_|refine Af rfl hw4 ?_|refine nx ?_|refine AD (λ_=>?_) (λ_=>?_)|exact AG)<;>conv=>whnf))
    exact .inr rfl
  ·by_cases k5:c.sup=0
   ·(conv=>whnf)
    (repeat' ((first|refine Aj ?_ ?_|refine Af rfl hw0 ?_|refine Af rfl hw1 ?_|refine Af rfl hw2 ?_|refine Af rfl hw3 ?_|refine Af rfl hw4 ?_|refine nx ?_|refine AD (λ_=>?_) (λ_=>?_)|exact AG)<;>conv=>whnf))
    exact .inl ⟨congrArg Da.bool (decide_eq_true k5),⟨k0,k1,k2,k3,k15,hlok,by rw[if_neg e];exact k5⟩⟩
   ·(conv=>whnf)
    (repeat' ((first|refine Aj ?_ ?_|refine Af rfl hw0 ?_|refine Af rfl hw1 ?_|refine Af rfl hw2 ?_|refine Af rfl hw3 ?_|refine Af rfl hw4 ?_|refine nx ?_|refine AD (λ_=>?_) (λ_=>?_)|exact AG)<;>conv=>whnf))
    exact .inr (congrArg Da.bool (decide_eq_false k5))
 ·((conv=>whnf);repeat' ((first|refine odw ?_|refine nx ?_|refine AD (λ_=>?_) (λ_=>?_))<;>conv=>whnf))
  exact .inr rfl
def ADG:List (Nat×Plan):=[(1,.leaf [0,1,0,1,0,1,0,1,0,1,0,1,2,0,3] [0,2,4,6,8,10,1,3,5,7,9,11,12,13,14] [0,1,0,4,0,16,0,64,0,256,0,1024,3072,8191,16383])]
def AFw:List FuncId:=[51]
theorem jQ(c:Cnf)(hpl:c.keep.length<=500):Pure C1 17 [He c] (λy=>y=He c):=by
 have hof:=Yn c.keep (by omega)
 refine AW Tryz.func17 Tryz.ntmps17 AFw ADG ?_
 (conv=>whnf)
 (repeat' ((first|refine Aj ?_ ?_|refine Af rfl hof ?_|refine nx ?_|refine AD (λ_=>?_) (λ_=>?_)|exact AG)<;>conv=>whnf))
 exact rfl
def AD3:Da:=.tuple [.nilp,.agg [.nils,.nils],.agg [.int .i64 0,.int .i64 0,.int .i64 0,.int .i64 0,.int .i64 0,.nils],.bool false]
def iD:List (Nat×Plan):=[(9,.leaf [0,1,1,2,0,3,3,0] [0,1,2,3,4,5,6,7] [0,0,0,4,13,31,63,127])]
def AAI:List FuncId:=[17]
set_option maxHeartbeats 4000000 in
theorem gT(labels:List Int)(edges:List Edg)(c:Cnf):Pure C1 6 [Bn labels,Fa edges,He c] (λy=>y=AD3\/∃G,y=.tuple [dG G,dM G.labels G.edges,He c,.bool true]/\JobC G c):=by
 refine Pure.assume (P:=c.keep.length<=9223372036854775807) (λO w us hr=>?_) λhpl=>?_
 ·obtain⟨v0,vs0,rfl,_,h0⟩:=Cn hr
  obtain⟨v1,vs1,rfl,_,h1⟩:=Cn h0
  obtain⟨v,vs,rfl,⟨cs,h2,_⟩,_⟩:=Cn h1
  simp only[He,RepC,RepCs]at h2
  obtain⟨_,_,_,_,_,_,_,_,_,_,_,_,_,_,_,_,_,_,_,_,c6,_,_,h6,_⟩:=h2
  have:=AB9 (l:=c.keep) (v:=Ea (Ka c.keep) c6) ⟨c6,h6,rfl⟩
  exact this
 have hll:(labels.map dI).length=labels.length:=Ac _
 have hel:(edges.map dE).length=edges.length:=Ac _
 have hkl:(c.keep.map dO).length=c.keep.length:=Ac _
 have hmd:=WL labels edges
 have hrt:=VL c hpl
 refine AW Tryz.func6 Tryz.ntmps6 AAI iD ?_
 (conv=>whnf)
 rcases rU labels edges with hy|⟨G,hy,hG,_,hm,hGe,_,hlen⟩
 ·rw[hy]at hmd
  (repeat' ((first|refine Aj ?_ ?_|refine Af rfl hmd ?_|refine nx ?_|refine AD (λ_=>?_) (λ_=>?_)|exact AG)<;>conv=>whnf))
  exact .inl rfl
 rw[hy]at hmd
 have hGl:G.labels=labels:=by rw[hGe]
 by_cases h6:6<labels.length
 ·(repeat' ((first|refine Aj ?_ ?_|refine Af rfl hmd ?_|refine nx ?_|refine AD (λ_=>?_) (λ_=>?_)|exact AG)<;>conv=>whnf))
  exact .inl rfl
 by_cases h8:8<edges.length
 ·(repeat' ((first|refine Aj ?_ ?_|refine Af rfl hmd ?_|refine nx ?_|refine AD (λ_=>?_) (λ_=>?_)|exact AG)<;>conv=>whnf))
  exact .inl rfl
 (repeat' ((first|refine Aj ?_ ?_|refine Af rfl hmd ?_|refine nx ?_|refine AD (λ_=>?_) (λ_=>?_)|exact AG)<;>conv=>whnf))
 refine AS rfl hrt ?_
 rintro y (⟨rfl,hC⟩|rfl)
 case inr=>
  ((conv=>whnf);repeat' ((first|refine odw ?_|refine nx ?_|refine AD (λ_=>?_) (λ_=>?_))<;>conv=>whnf))
  exact .inl rfl
 have hof:=jQ c (by have:=hC.l15;omega)
 by_cases s4:4<c.size
 ·((conv=>whnf);repeat' ((first|refine odw ?_|refine nx ?_|refine AD (λ_=>?_) (λ_=>?_))<;>conv=>whnf))
  exact .inl rfl
 by_cases k3:c.kind=3
 ·by_cases s3:3<c.size
  ·((conv=>whnf);repeat' ((first|refine odw ?_|refine nx ?_|refine AD (λ_=>?_) (λ_=>?_))<;>conv=>whnf))
   exact .inl rfl
  ((conv=>whnf);repeat' ((first|refine odw ?_|refine nx ?_|refine AD (λ_=>?_) (λ_=>?_))<;>conv=>whnf))
  refine AR (ι:=Nat) (λi=>i<=c.keep.length/\(c.kind=3->∀o∈c.keep.take i,o.kind≠1)) (λi=>[(13,.d (.int .i64 i)),(11,.own 11),(10,.d (dG G)),(8,.own 8),(7,.own 7),(5,.own 5)]) (λ_=>[(5,.cells 26 [.d (.int .i64 c.kind),.d (.int .i64 c.size),.d (.int .i64 c.sup),.d (.int .i64 c.workers),.d (.int .i64 c.cap),.d (Ka c.keep)]),(7,.cells 30 [.d .nils,.d .nils]),(8,.cells 34 [.d (.int .i64 0),.d (.int .i64 0),.d (.int .i64 0),.d (.int .i64 0),.d (.int .i64 0),.d .nils]),(11,.cells 30 [.d (Bn G.labels),.d (Fa G.edges)])]) (λi=>c.keep.length-i) 0 (λ_=>rfl) ⟨Am _,λ_ o ho=>(by cases ho)⟩ (.refl _ _) ⟨rfl,rfl,rfl,rfl,rfl,rfl,trivial⟩ ⟨rfl,rfl,rfl,rfl,trivial⟩ ?_
  rintro i ⟨hi,hk⟩
  refine Cd AAI iD ?_
  by_cases hil:i<c.keep.length
  ·have hx:=Ab hil
   have htk:c.keep.take (i+1)=c.keep.take i++[c.keep[i]]:=by rw[Ay,hx];rfl
   generalize c.keep[i]=o at hx htk
   have hxd:(c.keep.map dO)[i]? =some (.agg [.int .i64 o.kind,.int .i64 o.n]):=by rw[Ad,hx];rfl
   by_cases h1:o.kind=1
   ·(conv=>whnf)
    (repeat' ((first|refine Aj ?_ ?_|refine AP hxd rfl ?_|refine nx ?_|refine AD (λ_=>?_) (λ_=>?_)|exact AG)<;>conv=>whnf))
    exact .inl rfl
   ·(conv=>whnf)
    (repeat' ((first|refine Aj ?_ ?_|refine AP hxd rfl ?_|refine nx ?_|refine AD (λ_=>?_) (λ_=>?_)|exact AG)<;>conv=>whnf))
    exact⟨i+1,_,_,⟨hil,λe p hp=>by
     rw[htk]at hp
     rcases Ag.1 hp with h|h
     ·exact hk e p h
     ·rw[As.1 h];exact h1⟩,.refl _ _,⟨rfl,rfl,rfl,rfl,rfl,rfl,trivial⟩,⟨rfl,rfl,rfl,rfl,trivial⟩,by omega⟩
  ·rw[Al (show c.keep.length<=i by omega)]at hk
   (conv=>whnf)
   (repeat' ((first|refine Aj ?_ ?_|refine Af rfl hof ?_|refine nx ?_|refine AD (λ_=>?_) (λ_=>?_)|exact AG)<;>conv=>whnf))
   exact .inr ⟨G,rfl,hG,by rw[hGl];omega,by omega,hC,by omega,λ_=>by omega,hk⟩
 ·((conv=>whnf);repeat' ((first|refine odw ?_|refine nx ?_|refine AD (λ_=>?_) (λ_=>?_))<;>conv=>whnf))
  refine AR (ι:=Nat) (λi=>i<=c.keep.length/\(c.kind=3->∀o∈c.keep.take i,o.kind≠1)) (λi=>[(13,.d (.int .i64 i)),(11,.own 11),(10,.d (dG G)),(8,.own 8),(7,.own 7),(5,.own 5)]) (λ_=>[(5,.cells 26 [.d (.int .i64 c.kind),.d (.int .i64 c.size),.d (.int .i64 c.sup),.d (.int .i64 c.workers),.d (.int .i64 c.cap),.d (Ka c.keep)]),(7,.cells 30 [.d .nils,.d .nils]),(8,.cells 34 [.d (.int .i64 0),.d (.int .i64 0),.d (.int .i64 0),.d (.int .i64 0),.d (.int .i64 0),.d .nils]),(11,.cells 30 [.d (Bn G.labels),.d (Fa G.edges)])]) (λi=>c.keep.length-i) 0 (λ_=>rfl) ⟨Am _,λ_ o ho=>(by cases ho)⟩ (.refl _ _) ⟨rfl,rfl,rfl,rfl,rfl,rfl,trivial⟩ ⟨rfl,rfl,rfl,rfl,trivial⟩ ?_
  rintro i ⟨hi,hk⟩
  refine Cd AAI iD ?_
  by_cases hil:i<c.keep.length
  ·have hx:=Ab hil
   have htk:c.keep.take (i+1)=c.keep.take i++[c.keep[i]]:=by rw[Ay,hx];rfl
   generalize c.keep[i]=o at hx htk
   have hxd:(c.keep.map dO)[i]? =some (.agg [.int .i64 o.kind,.int .i64 o.n]):=by rw[Ad,hx];rfl
   (conv=>whnf)
   (repeat' ((first|refine Aj ?_ ?_|refine AP hxd rfl ?_|refine nx ?_|refine AD (λ_=>?_) (λ_=>?_)|exact AG)<;>conv=>whnf))
   exact⟨i+1,_,_,⟨hil,λe=>absurd e k3⟩,.refl _ _,⟨rfl,rfl,rfl,rfl,rfl,rfl,trivial⟩,⟨rfl,rfl,rfl,rfl,trivial⟩,by omega⟩
  ·rw[Al (show c.keep.length<=i by omega)]at hk
   (conv=>whnf)
   (repeat' ((first|refine Aj ?_ ?_|refine Af rfl hof ?_|refine nx ?_|refine AD (λ_=>?_) (λ_=>?_)|exact AG)<;>conv=>whnf))
   exact .inr ⟨G,rfl,hG,by rw[hGl];omega,by omega,hC,by omega,λ_=>by omega,hk⟩
end Go.Proofs.YtjpmmkodoeipmaaGreatDoor
end
section
namespace Go.Proofs.YtjpmmkodoeipmaaGreatDoor
open Go.Sx Go.RowKit Go.Reg Go.Gr
section
variable {G:Gr} {e:Bool} {d:Int} {l:List Opp}
theorem Z2(h:JobOk G e d l) {k:Nat} {X:List Int}(hX:X∈C8 (CD G e) (Jz G e l) k):X≠[]/\X.length=k+1/\C6 (CD G e) X=true/\(VD G e X).length<=8:=by
 have hok:=IW h.ok (by have:=h.n;omega) h.m e
 obtain⟨h1,h2,h3⟩:=(Fi hok k).1 hX
 have hl:=IJ hok h1
 unfold eX at h3
 have hp:=CU.1 h3 (X.length-1) (AM.2 (by omega))
 rw[show X.length-1+1=X.length by omega,Ez]at hp
 rw[AD8 h hl,Ap,decide_eq_true_eq]at hp
 exact⟨λe=>by rw[e]at h2;simp at h2,h2,hl,hp.1⟩
theorem Xh {E:List Edg}:∀{l:List Int},(∀u∈l,0<=u/\u<E.length)->(Cw E l).length=l.length
 |[],_=>rfl
 |
  u::l,h=>by
  have h1:=h u (by simp)
  obtain⟨m,rfl⟩:=A6 h1.1
  have hx:=Ab (l:=E) (i:=m) (by omega)
  have ih:=Xh (l:=l) λv hv=>h v (by simp[hv])
  unfold Cw at ih⊢
  rw[List.filterMap_cons_some (b:=E[m]'(by omega)) (by rw[if_pos h1,AY];exact hx),Aw,Aw,ih]
theorem AE1(h:JobOk G e d l) {X:List Int}(h0:X≠[])(hl:C6 (CD G e) X=true):VD G e X≠[]/\(VD G e X).Nodup:=by
 cases e with
 |false=>exact⟨h0,OG hl⟩
 |
  true=>
  have hr:=jH h hl
  have hs:=KT (Cw G.edges X)
  refine⟨λe=>?_,hs.1⟩
  have hlen:=Xh hr
  cases hE:Cw G.edges X with
  |nil=>rw[hE]at hlen;exact h0 (AJ hlen.symm)
  |
   cons y E=>
   have:y.a∈C5 (Cw G.edges X):=(hs.2 _).2 ⟨y,by rw[hE];exact .head _,.inl rfl⟩
   have e2:C5 (Cw G.edges X)=[]:=e
   rw[e2]at this;cases this
theorem ADK(h:JobOk G e d l) {k:Nat}(hk:k<=500) {X:List Int}(hX:X∈C8 (CD G e) (Jz G e l) k):PatAt G e d l (Je G e) (VD G e) X:=by
 obtain⟨h0,hlen,hl,h8⟩:=Z2 h hX
 obtain⟨v0,vn⟩:=AE1 h h0 hl
 have hlb:(Je G e X).labels=(VD G e X).map (ES G):=by cases e<;>rfl
 refine⟨ZP h hl h8,λe=>v0 (List.map_eq_nil_iff.1 (hlb▸e)),by rw[hlb,Ac],vn,?_⟩
 have:=Oh h X h0 (by omega)
 rwa [xN h hl h8]at this
theorem XI {w:Gr} {ps:List Int->Bool} {D:Nat} {R:List (List Int)}(hR:R∈Ed w ps D):∃k,k<D/\R=C8 w ps k:=by
 obtain⟨k,hk⟩:=EY.1 hR
 have:=(Ae.1 hk).1
 exact⟨k,Bq this (Uc w ps D),ABw hk⟩
theorem Z0(h:JobOk G e d l) {D:Nat}(hD:D<=8) {R:List (List Int)}(hR:R∈Ed (CD G e) (Jz G e l) D) {X:List Int}(hX:X∈R):PatAt G e d l (Je G e) (VD G e) X/\X.Nodup/\X.length<=8:=by
 obtain⟨k,hk,rfl⟩:=XI hR
 obtain⟨_,hlen,hl,_⟩:=Z2 h hX
 exact⟨ADK h (by omega) hX,OG hl,by omega⟩
theorem vW(h:JobOk G e d l) {D:Nat}(hD:D<=8):(Ed (CD G e) (Jz G e l) D).flatten.length<=2048/\∀R∈Ed (CD G e) (Jz G e l) D,R.length<=256:=by
 have hok:=IW h.ok (by have:=h.n;omega) h.m e
 have hsm:=Nf h
 have hr:∀R∈Ed (CD G e) (Jz G e l) D,R.length<=256:=λR hR=>by
  obtain⟨k,hk,rfl⟩:=XI hR
  exact BH (Uf hok _ k) (BH (JZ (by decide) hsm) (by decide))
 refine⟨?_,hr⟩
 have h8:=Uc (CD G e) (Jz G e l) D
 generalize Ed (CD G e) (Jz G e l) D=L at hr h8
 suffices H:∀L:List (List (List Int)),(∀R∈L,R.length<=256)->L.flatten.length<=256*L.length by
  have:=H L hr
  omega
 intro L hr
 induction L with
 |nil=>simp
 |
  cons R L ih=>
  have h1:=hr R (.head _)
  have h2:=ih λS hS=>hr S (.tail _ hS)
  simp only[CI,Ah,Aw];omega
theorem vI {X:List Int}(h:X.Nodup):DF (Kk X)=Kk X:=by
 refine TL ?_
 have hp:(Kk X).Perm X:=H9 _ _
 have h1:(Kk X).Pairwise λx y=>x<=y:=by
  have:=N2 (le:=λx y:Int=>decide (x<=y)) (λa b c h1 h2=>by
   simp only[decide_eq_true_eq]at*;omega) (λa b=>by
   simp only[Dj,decide_eq_true_eq];omega) X
  exact this.imp λh=>by simpa using h
 have h2:(Kk X).Nodup:=hp.nodup_iff.2 h
 exact(h1.and h2).imp λh=>by omega
end
end Go.Proofs.YtjpmmkodoeipmaaGreatDoor
end
section
namespace Go.Sx
open Go Go.RowKit Go.Reg
section
variable {C:Cx} {T:Hh} {B S:List Nat} {w0 w w':World} {n kd:Nat} {fr:Fr} {σ:Sg} {η:Nat->Value} {φ:Nat->List Nat} {a:Act}
theorem Models.absn(hM:Models C B S w0 n fr σ η φ a w) {i:Nat} {t:TypeId} {ds:List Dat}(r:Absn)(hg:BI i σ=some (.cells t ds))(hr:∀η I O w v F,(Own.cells t ds).holds η I O w v F->r.R w v F):Models C B S w0 n fr (AX id i r.own σ) η φ a w:=by
 have hi:=AV (AQ hg)
 have he:CE φ i (φ i)=φ:=by funext j;by_cases e:j=i<;>simp[CE,e]
 have hll:=Later.turn (X:=[]) (w':=w) B (Tch.refl [] w) (by simp) hi (F:=φ i) (λb hb=>.inl hb) id r.own
 have:=hM.mem.turnSame (X:=[]) (w':=w) (Tch.refl [] w) (by simp) hi (F:=φ i) (λb hb=>.inl hb) (o:=r.own) (hr _ _ _ _ _ _ (hM.mem.own _ (AQ hg)))
 rw[he]at this hll
 exact⟨this,hM.fr.later hll (λj hj=>⟨by rw[AZ];exact hj,rfl⟩),hM.defers,hM.size⟩
theorem tN {c:Code} {K:KE}(i:Nat)(r:Absn) {t:TypeId} {ds:List Dat}(hg:BI i σ=some (.cells t ds))(hr:∀η I O w v F,(Own.cells t ds).holds η I O w v F->r.R w v F)(h:Ci (AX id i r.own σ) λσ=>FB C n c K fr σ):FB C n c K fr σ:=by
 rw[Bw]at h
 refine BY.2 λB S w0 η φ a w hM=>?_
 exact BY.1 h B S w0 η φ a w (hM.absn r hg hr)
end
theorem Rh {w w':World} {S:List Nat} {e:TypeId} {v:Value} {k:Nat} {xs:List Value}(h:w.ownsRowF 0 e 1 v k xs)(t:Tch S w w')(hS:∀g,v.ownBlock=some g->g∉S):w'.ownsRowF 0 e 1 v k xs:=by
 refine⟨h.1,?_⟩
 rcases h.2 with hn|⟨g,cap,cur,fz,rfl,hb,hgg,rest⟩
 ·exact .inl hn
 ·exact .inr ⟨g,cap,cur,fz,rfl,hb,by rw[t.blk g (Ak.1 hgg).1 (hS g rfl)];exact hgg,rest⟩
def ACT:Absn where
 R _ v F:=F=[]/\v.oneCell'=true
 keep:=by rintro S w w' v F h _ _;exact h
 lt:=by rintro w v F ⟨rfl,_⟩ x hx;cases hx
 one:=by rintro w v F ⟨_,h⟩;exact h
def AEO(T e:TypeId)(l:List UInt8):Absn where
 R w v F:=∃b p sv,v=.pointer (some ⟨b,0,none⟩)/\F=b::sv.ownBlock.toList/\(p=.pointer none\/p=.pointer (some ⟨b,0,none⟩))/\w.heap[b]? =some (.cells #[p,sv] T (0,0))/\w.ownsRowF 0 e 1 sv l.length (Lib.byteCells l)/\(l=[]->sv=.slice none 0 0)
 keep:=by
  rintro S w w' v F ⟨b,p,sv,rfl,rfl,h1,h2,h3,h4⟩ t hd
  exact⟨b,p,sv,rfl,rfl,h1,by rw[t.blk b (Ak.1 h2).1 (hd b (.head _))];exact h2,Rh h3 t (λg hg=>hd g (by simp[hg])),h4⟩
 lt:=by
  rintro w v F ⟨b,p,sv,rfl,rfl,h1,h2,h3,h4⟩ x hx
  rcases Ai.1 hx with rfl|hx
  ·exact(Ak.1 h2).1
  ·exact(h3.lt x (by simpa using hx)).2
 one:=by rintro w v F ⟨b,p,sv,rfl,_⟩;rfl
theorem AC1 {T e:TypeId} {η:Nat->Value} {I O:List Nat} {w:World} {v:Value} {F:List Nat}(h:(Own.cells T [.d .nilp,.d .nils]).holds η I O w v F):(AEO T e []).R w v F:=by
 obtain⟨b,cs,rfl,rfl,h1,h2⟩:=h
 simp only[B6,AH,RepC]at h2
 obtain⟨c1,c2,rfl,rfl,c3,c4,rfl,rfl,rfl⟩:=h2
 exact⟨b,_,_,rfl,rfl,.inl rfl,h1,World.ownsRowF_nil _ _ _ _,λ_=>rfl⟩
theorem ABu {P:Program}(w:World)(t u ty e:TypeId)(i:TypeInfo)(ht:P.underlying t=some (.slice e))(hu:P.underlying u=some .string)(hi:P.info? e=some i)(hz:i.zero=some (.int .u8 0))(hsize:i.size=1)(hby:i.bytes=1)
  (v:Value) (n:Nat) (xs:List Value) (hown:w.ownsRowF 0 e 1 v n xs) (s:ByteArray) (h63:n+s.size<=maxLen) (hbytes:n+s.size<=140737488355328):
  ∃v' w',(Builtin.append_ #[t,u] ty #[v,.string s]).run P w=.ok v' w'/\w'.ownsRowF 0 e 1 v' (n+s.size) (xs++Lib.strCells s)/\w.grownBy w' v.ownBlock/\(v'=.slice none 0 0↔v=.slice none 0 0/\s.size=0)/\∀g,v'.ownBlock=some g->v.ownBlock=some g\/w.heap.size<=g:=by
 rcases hown.2 with⟨rfl,rfl⟩|⟨g,cap,cur,fz,rfl,hbg,hg,hfz,hnc,hcm,hcs,htake⟩
 ·obtain⟨v',w',h1,h2,h3,h4⟩:=Lib.run_append_own_stringF (P:=P) w w.heap.size t u ty e i ht hu hi hz hsize hby (.slice none 0 0) 0 xs ⟨hown.1,.inl ⟨rfl,rfl⟩⟩ s h63 hbytes (Ax _)
  refine⟨v',w',h1,⟨h2.1,?_⟩,h3,h4,λg hg=>.inr (h2.lt g hg).1⟩
  rcases h2.2 with hn|⟨g,cap,cur,fz,h5,_,h6⟩
  ·exact .inl hn
  ·exact .inr ⟨g,cap,cur,fz,h5,Am _,h6⟩
 ·by_cases hroom:n+s.size<=cap
  ·obtain⟨v',w',h1,h2,h3,h4⟩:=Lib.run_append_own_stringF (P:=P) w 0 t u ty e i ht hu hi hz hsize hby _ n xs hown s h63 hbytes (Am _)
   refine⟨v',w',h1,h2,h3,h4,λg' hg'=>.inl ?_⟩
   have hcs2:cur.size=cap:=by simpa using hcs
   have hroom2:n+s.size<=cur.size:=by omega
   have hr:=Lib.run_append_room_stringF (P:=P) w t u ty e i ht hu hi hsize g n cap cur fz hg (by simpa using hfz) s hroom hroom2
   rw[hr]at h1
   injection h1 with h1 _
   rw[<-h1]at hg'
   exact hg'
  ·obtain⟨v',w',h1,h2,h3,h4⟩:=Lib.run_append_own_stringF (P:=P) w 0 t u ty e i ht hu hi hz hsize hby _ n xs hown s h63 hbytes (Am _)
   refine⟨v',w',h1,h2,h3,h4,λg' hg'=>.inr ?_⟩
   have holds:∀j u,xs[j]? =some u->w.cell? ((⟨g,0,none⟩:Addr).add j)=some u:=hown.cells (g:=g) rfl
   have hxl:xs.length=n:=by simpa using hown.1
   have hsmall:n+s.size<=9223372036854775807:=by simp only[maxLen]at h63;omega
   have hr:=Lib.run_append_grow_string (P:=P) w t u ty e i (.int .u8 0) ht hu hi hz ⟨g,0,none⟩ n cap xs (by rw[hsize];simpa using hxl) holds s (by omega) (by omega) (by rw[hby];exact growslice_fits (by omega) (by omega))
   rw[hr]at h1
   injection h1 with h1 _
   rw[<-h1]at hg'
   simp only[Value.ownBlock,AB]at hg'
   omega
theorem ADw {P:Program} {w:World} {ops:Array Oper} {rest:List Oper} {o:Oper} {a:Act} {Q:Exit->Act->World->Prop}(hgd:o.guard=none)(sl x:Operand)(t u:TypeId)
  (ho:o.op=.call {callee:=.builtin .append,args:=#[sl,x],argTypes:=#[t,u]})
  (e:TypeId) (i:TypeInfo) (ht:P.underlying t=some (.slice e)) (hu:P.underlying u=some .string) (hi:P.info? e=some i) (hz:i.zero=some (.int .u8 0))
  (hsize:i.size=1) (hby:i.bytes=1)
  (v:Value) (n:Nat) (xs:List Value) (hs:a.eval sl=v) (hown:w.ownsRowF 0 e 1 v n xs) (s:ByteArray) (hx:a.eval x=.string s)
  (h63:n+s.size<=maxLen) (hbytes:n+s.size<=140737488355328)
  (h:∀v' w',w'.ownsRowF 0 e 1 v' (n+s.size) (xs++Lib.strCells s)->w.grownBy w' v.ownBlock->(v'=.slice none 0 0↔v=.slice none 0 0/\s.size=0)->(∀g,v'.ownBlock=some g->v.ownBlock=some g\/w.heap.size<=g)->wpList P ops Q rest (a.put o.dst v') w'):wpList P ops Q (o::rest) a w:=by
 refine wpList_plain hgd λK hK=>?_
 obtain⟨v',w',hr,h2,h3,h4,h5⟩:=ABu (P:=P) w t u o.type e i ht hu hi hz hsize hby v n xs hown s h63 hbytes
 unfold Oper.wp execOp
 simp only[ho,resolve,invoke,builtin,AK,Bo,AF,HX,Ar,Bu,hs,hx,hr]
 exact hK _ _ (h v' w' h2 h3 h4 h5)
end Go.Sx
namespace Go.Proofs.YtjpmmkodoeipmaaGreatDoor
open Go.Sx Go.RowKit Go.Reg Go.Gr
set_option maxRecDepth 100000
theorem bN:(Tryz.prog.info? 99).map (·.size)=some 2:=by kernel_rfl
theorem ABO:(Tryz.prog.info? 5).map (λi=>(i.zero,i.size,i.bytes))=some (some (.int .u8 0),1,1):=by kernel_rfl
theorem zB:liesAt Tryz.prog Tryz.prog.depth 99 (2/Tryz.prog.cellsOf 99) 0 99 1=true:=by kernel_rfl
set_option maxHeartbeats 1000000 in
theorem ACz(b:Nat)(w:World)(h0:w.cell? ⟨b,0,none⟩=some (.pointer (some ⟨b,0,none⟩))):
  Calls Tryz.prog 81 #[.pointer (some ⟨b,0,none⟩)] w λe w'=>e=.returned (.tuple #[])/\w'=w:=by
 obtain⟨j,hj,_⟩:=Cl.1 bN
 go_enter Tryz.func81,Tryz.ntmps81
 go_wp2
 rw[Lib.run_neq_ptr_same w _ Tryz.underlying96 hj]
 go_wp2
 go_end0
 exact⟨rfl,rfl⟩
set_option maxHeartbeats 1000000 in
theorem AAs(b:Nat)(w:World)(h0:w.cell? ⟨b,0,none⟩=some (.pointer none))(hsh:w.shape? b=some (99,2))(hfz:w.frozen? ⟨b,0,none⟩=false):
  Calls Tryz.prog 81 #[.pointer (some ⟨b,0,none⟩)] w λe w'=>e=.returned (.tuple #[])/\w'=w.setCell ⟨b,0,none⟩ (.pointer (some ⟨b,0,none⟩)):=by
 obtain⟨j,hj,hjs⟩:=Cl.1 bN
 go_enter Tryz.func81,Tryz.ntmps81
 go_wp2
 rw[Lib.run_to_unsafe w ⟨b,0,none⟩ Tryz.underlying96 Tryz.underlying212 hj (by rw[hjs];decide) hsh (Nat.zero_lt_succ 1)]
 simp only[Result.andThen]
 rw[Oper.upon_value]
 go_wp2
 rw[run_callFunc_extern Tryz.func131 (by kernel_rfl) (by kernel_rfl) (by kernel_rfl) (e:=Extern.AbiNoEscape.same) (by kernel_rfl)]
 rw[Lib.run_noEscape]
 simp only[Result.andThen]
 rw[Oper.upon_value]
 go_wp2
 rw[Lib.run_from_unsafe w ⟨b,0,none⟩ Tryz.underlying212 Tryz.underlying96 hj hsh zB]
 simp only[Result.andThen]
 rw[Oper.upon_value]
 go_wp2
 go_end0
 exact⟨rfl,rfl⟩
def bld(l:List UInt8):Absn:=AEO 99 5 l
theorem AEj(b:Nat)(p sv:Value)(w:World)(hp:p=.pointer none\/p=.pointer (some ⟨b,0,none⟩))(hb:w.heap[b]? =some (.cells #[p,sv] 99 (0,0))):
  Calls Tryz.prog 81 #[.pointer (some ⟨b,0,none⟩)] w λe w'=>e=.returned (.tuple #[])/\w'.heap[b]? =some (.cells #[.pointer (some ⟨b,0,none⟩),sv] 99 (0,0))/\Tch [b] w w':=by
 have hB:IV w b 99 [p,sv]:=hb
 rcases hp with rfl|rfl
 ·refine(AAs b w (hB.cell (i:=0) rfl) (by simp[World.shape?,hb]) (hB.frozen 0)).mono ?_
  rintro e w' ⟨rfl,rfl⟩
  exact⟨rfl,hB.set 0 _,Tch.setCell w (.inl (.head _)) _⟩
 ·refine(ACz b w (hB.cell (i:=0) rfl)).mono ?_
  rintro e w' ⟨rfl,rfl⟩
  exact⟨rfl,hb,Tch.refl _ _⟩
theorem sI {w w':World} {row:Option Nat}(h:w.grownBy w' row):Tch row.toList w w':=⟨h.os,h.tape,h.output,h.size,λk hk hn=>h.block k hk (λe=>hn (by rw[<-e];exact .head _))⟩
set_option maxHeartbeats 2000000 in
theorem YM(l s:List UInt8)(hl:l.length+s.length<=1000000000):Th C3 40 (bld l) [.str (bs s)] (λy r'=>y=.tuple [.int .i64 s.length,.nili]/\r'=bld (l++s)):=by
 rintro O w v F us ⟨b,p,sv,rfl,rfl,hp,hb,hown,hnil⟩ hF hO hg hr
 obtain⟨v1,vs,rfl,h1,h2⟩:=Cn hr
 obtain rfl:=Ds h2
 obtain rfl:=PE h1
 clear hr h1 h2 hg hO hF
 refine⟨by kernel_rfl,?_⟩
 have hblt:b<w.heap.size:=(Ak.1 hb).1
 have hne:sv.ownBlock≠some b:=Lib.ownBlock_neF hown hb (by decide)
 obtain⟨i0,hi,hz0,hz1,hz2⟩:=info_parts ABO
 have hcc:=AEj b p sv w hp hb
 show Calls Tryz.prog _ _ _ _
 go_enter Tryz.func40,Tryz.ntmps40
 go_wp2_with fail
 refine hcc.mono ?_
 rintro e w1 ⟨rfl,hb1,ht1⟩
 have own1:=Rh hown ht1 (by intro g hg hx;simp at hx;subst hx;exact hne hg)
 have c1:w1.cell? ⟨b,1,none⟩=some sv:=by rw[uH hb1];rfl
 go_wp2_with (at_builtin;refine ADw rfl _ _ 97 9 rfl 5 i0 Tryz.underlying97 Tryz.underlying9 hi hz0 hz1 hz2 _ _ _ rfl own1 (bs s) rfl ?c3 ?c4 ?_)
 case c3=>rw[Em];unfold maxLen;omega
 case c4=>rw[Em];omega
 intro v' w2 hown' hgrow hnil' hwh
 have hb1lt:b<w1.heap.size:=(Ak.1 hb1).1
 have hb2:w2.heap[b]? =some (.cells #[.pointer (some ⟨b,0,none⟩),sv] 99 (0,0)):=by
  rw[hgrow.block b hb1lt (λe=>hne e.symm)];exact hb1
 have d1:w2.cell? ⟨b,1,none⟩=some sv:=by rw[uH hb2];rfl
 have f1:w2.frozen? ⟨b,1,none⟩=false:=Lib.frozen_of_heap hb2 1
 obtain⟨ao,n',cap,rfl⟩:∃ao n' cap,v'=.slice ao n' cap:=by
  rcases hown'.2 with⟨hv,_⟩|⟨g,cap,cur,fz,hv,_⟩
  ·exact⟨_,_,_,hv⟩
  ·exact⟨_,_,_,hv⟩
 go_wp2
 go_ret2
 have hne':(Value.slice ao n' cap).ownBlock≠some b:=Lib.ownBlock_neF hown' hb2 (by decide)
 have hB2:IV w2 b 99 [.pointer (some ⟨b,0,none⟩),sv]:=hb2
 have hcells:Lib.byteCells l++Lib.strCells (bs s)=Lib.byteCells (l++s):=by rw[Lib.byteCells_append,Lib.strCells_eq];simp[bs]
 rw[hcells,Em,<-Ah]at hown'
 refine⟨_,_,bld (l++s),b::(Value.slice ao n' cap).ownBlock.toList,rfl,⟨rfl,rfl⟩,⟨b,_,_,rfl,rfl,.inr rfl,hB2.set 1 _,Rh hown' (Tch.setCell w2 (S:=[b]) (.inl (.head _)) _) (by intro g hg hx;simp at hx;subst hx;exact hne' hg),?_⟩,?_,?_,?_⟩
 ·intro h
  rw[List.append_eq_nil_iff]at h
  exact hnil'.2 ⟨hnil h.1,by rw[h.2];rfl⟩
 ·intro x hx
  rcases Ai.1 hx with rfl|hx
  ·exact .inl (.head _)
  ·rcases hwh x (by simpa using hx)with h|h
   ·exact .inl (A9 _ (by simpa using h))
   ·exact .inr (BH ht1.size h)
 ·intro O' _
  refine⟨[_],?_,rfl⟩
  simp only[RepC,Aq]
  exact⟨[[.int .i64 s.length],[.nilIface]],⟨_,_,rfl,rfl,_,_,rfl,rfl,rfl⟩,by rw[Em];rfl⟩
 ·have t1:Tch (b::sv.ownBlock.toList) w w1:=ht1.mono (λx hx=>by simp at hx;subst hx;exact .head _)
  have t2:Tch (b::sv.ownBlock.toList) w1 w2:=(sI hgrow).mono (λx hx=>.tail _ hx)
  exact(t1.trans0 t2).andSet (.inl (.head _)) _
theorem fV(w:World) {S:List Nat} {g:Nat}(hg:g∈S)(n:Nat):Tch S w (w.freeze ⟨g,0,none⟩ n):=by
 unfold World.freeze
 split
 ·exact Tch.refl _ _
 ·refine⟨rfl,rfl,rfl,by simp,λk hk hn=>?_⟩
  simp only[C9]
  rw[if_neg (λ(e:g=k)=>hn (e▸hg))]
set_option maxHeartbeats 2000000 in
theorem ABk(l:List UInt8)(hl:l.length<=1000000000):Th C3 45 (bld l) [] (λy r'=>y=.str (bs l)/\r'=ACT):=by
 rintro O w v F us ⟨b,p,sv,rfl,rfl,hp,hb,hown,hnil⟩ hF hO hg hr
 obtain rfl:=Ds hr
 clear hr hg hO hF
 refine⟨by kernel_rfl,?_⟩
 have hblt:b<w.heap.size:=(Ak.1 hb).1
 have fin:∀w',Tch (b::sv.ownBlock.toList) w w'->∃u y r' F',Ending.returned (.string (bs l))=.returned u/\(y=.str (bs l)/\r'=ACT)/\r'.R w' (.pointer (some ⟨b,0,none⟩)) F'/\(∀x∈F',x∈b::sv.ownBlock.toList\/w.heap.size<=x)/\(∀O',(∀x∈O',x∈O\/x∈F')->Rep O' w' y u)/\Tch (b::sv.ownBlock.toList) w w':=
  λw' t=>⟨_,_,_,[],rfl,⟨rfl,rfl⟩,⟨rfl,rfl⟩,(by simp),(λO' _=>⟨[_],(by simp only[RepC]),rfl⟩),t⟩
 show Calls Tryz.prog _ _ _ _
 have mixed:Tryz.prog.follows .mixedOrders=true:=by kernel_rfl
 by_cases h0:l=[]
 ·obtain rfl:=hnil h0
  subst h0
  have hUS:=Lib.run_unsafeString_none (P:=Tryz.prog) w.drew 157 3 9 none
  have hSD:(Builtin.unsafeSliceData_ #[97] 157 #[.slice none 0 0]).run Tryz.prog w.drew=.ok (.pointer none) w.drew:=rfl
  have c1:w.drew.cell? ⟨b,1,none⟩=some (.slice none 0 0):=by
   have:w.drew.heap[b]? =some (.cells #[p,.slice none 0 0] 99 (0,0)):=hb
   rw[uH this];rfl
  go_enter Tryz.func45,Tryz.ntmps45
  go_wp2
  go_region_o
  all_goals (go_wp2;go_ret;exact fin _ (Tch.drew w _))
 ·have hl0:l.length≠0:=by simpa using h0
  obtain⟨g,cap,cur,fz,rfl,hbg,hg,hfz,hnc,hcm,hcs,htake⟩:∃g cap cur fz,sv=.slice (some ⟨g,0,none⟩) l.length cap/\0<=g/\w.heap[g]? =some (.cells cur 5 fz)/\fz.2<=l.length*1/\l.length<=cap/\cap<=maxLen/\cur.size=cap*1/\cur.toList.take (l.length*1)=Lib.byteCells l:=by
   rcases hown.2 with⟨_,hz⟩|⟨g,cap,cur,fz,hv,r⟩
   ·exact absurd hz hl0
   ·exact⟨g,cap,cur,fz,hv,r⟩
  have c1:w.drew.cell? ⟨b,1,none⟩=some (.slice (some ⟨g,0,none⟩) l.length cap):=by
   have:w.drew.heap[b]? =some (.cells #[p,.slice (some ⟨g,0,none⟩) l.length cap] 99 (0,0)):=hb
   rw[uH this];rfl
  have hSD:(Builtin.unsafeSliceData_ #[97] 157 #[.slice (some ⟨g,0,none⟩) l.length cap]).run Tryz.prog w.drew=.ok (.pointer (some ⟨g,0,none⟩)) w.drew:=
   Lib.run_unsafeSliceData_row _ _ _ _ _ _ (by omega)
  have hUS:(Builtin.unsafeString_ #[157,3] 9 #[.pointer (some ⟨g,0,none⟩),.int .i64 l.length]).run Tryz.prog w.drew=.ok (.string ⟨l.toArray⟩) (w.drew.freeze ⟨g,0,none⟩ l.length):=by
   refine Lib.run_unsafeString_row w.drew 157 3 9 5 Tryz.underlying157 (by kernel_rfl) g cur.size (by have hg':w.drew.heap[g]? =some (.cells cur 5 fz):=hg;simp[World.shape?,hg']) l h0 (by omega) (by unfold maxLen at hcm;omega) ?_
   intro j x hx
   have:=hown.cells (g:=g) rfl j (.int .u8 x.toNat) (by simp[Lib.byteCells,hx])
   exact this
  go_enter Tryz.func45,Tryz.ntmps45
  go_wp2
  go_region_o
  all_goals (go_wp2;go_ret;exact fin _ ((Tch.drew w _).trans0 (fV w.drew (.tail _ (.head _)) l.length)))
end Go.Proofs.YtjpmmkodoeipmaaGreatDoor
end
section
namespace Go.Sx
open Go Go.RowKit Go.Reg
theorem L5 {C:Cx} {fr:Fr} {σ:Sg} {f:FuncId} {i:Nat} {args:List Dat} {xs:List Da} {r:Absn} {z:Da} {r0:Absn} {K:KD}(hg:BI i σ=some r.own)(ha:EX args=some xs)(hp:Th C f r xs (λy r'=>y=z/\r'=r0))(hK:Ci (AX id i r0.own σ) λσ=>K (.d z) fr σ):Cj C false f (.own i::args) K fr σ:=
 tQ hg ha hp λy r' h=>by obtain⟨rfl,rfl⟩:=h;exact hK
end Go.Sx
namespace Go.Proofs.YtjpmmkodoeipmaaGreatDoor
open Go.Sx Go.RowKit Go.Reg Go.Gr
set_option maxRecDepth 100000
theorem lK {a b:List UInt8}(h:a=b):some (bld a).own=some (bld b).own:=by rw[h]
theorem sE {n:Int}(h0:0<=n)(h1:n<=999999):(Lib.itoa n).length<=6:=Gf h0 h1
theorem xO {p:Pt}(h:Dp p=none):(DW p).length<=2000:=by
 obtain⟨⟨_,x1,x2,x3,x4⟩,_⟩:=Na h
 have h8:=(CS (BJ h).1).1
 have h64:=Kr h
 have l1:=Jp (m:=6) [44] (p.labels.map Lib.itoa) (λx hx=>by
  obtain⟨y,hy,rfl⟩:=An.1 hx
  exact Gf (x2 y hy).1 (x2 y hy).2)
 have l2:=Jp (m:=13) [44] (p.edges.map JW) (λx hx=>by
  obtain⟨y,hy,rfl⟩:=An.1 hx
  have:=x4 y hy
  have h1:=Gf this.1.1 this.1.2
  have h2:=Gf this.2.1 this.2.2
  unfold JW
  rw[Ah,Aw];omega)
 rw[Ac,BE]at l1 l2
 unfold DW
 rw[Ah,Aw];omega
theorem WR {x:Pt×Int}(h:Dp x.1=none)(h0:0<=x.2)(h1:x.2<=999999):(Jo x).length<=2010:=by
 unfold Jo
 have:=xO h
 have:=sE h0 h1
 simp only[Ah,Aw,Bt];omega
theorem OI:∀A:List (Pt×Int),(∀x∈A,Dp x.1=none/\0<=x.2/\x.2<=999999)->(A.flatMap Jo).length<=2010*A.length
 |[],_=>Am _
 |
  x::A,h=>by
  obtain⟨h1,h2,h3⟩:=h x (.head _)
  have:=WR h1 h2 h3
  have:=OI A λy hy=>h y (.tail _ hy)
  rw[BD,Ah,Aw];omega
theorem Zo {s:List Int}(h:s.length<=100/\∀v∈s,0<=v/\v<=999999):(P7 s).length<=701:=by
 have l1:=Jp (m:=6) [32] (s.map Lib.itoa) (λx hx=>by
  obtain⟨y,hy,rfl⟩:=An.1 hx
  exact Gf (h.2 y hy).1 (h.2 y hy).2)
 rw[Ac,BE]at l1
 unfold P7
 rw[Ah,BE];omega
theorem QV:∀S:List (List Int),(∀s∈S,s.length<=100/\∀v∈s,0<=v/\v<=999999)->(S.flatMap P7).length<=701*S.length
 |[],_=>Am _
 |
  s::S,h=>by
  have:=Zo (h s (.head _))
  have:=QV S λy hy=>h y (.tail _ hy)
  rw[BD,Ah,Aw];omega
def XR:List (Nat×Plan):=[(5,.leaf [0,1,2,0,0,1,2,0,0,3] [0,4,1,5,2,3,6,7,8,9] [0,1,3,7,0,16,55,127,255,511])]
def oN:List FuncId:=[41,42,43,44]
set_option maxHeartbeats 4000000 in
theorem gO(k:Int)(A:List (Pt×Int))(S:List (List Int))(hA:∀x∈A,Dp x.1=none/\0<=x.2/\x.2<=999999)(hm:A.length<=100000)(hS:∀s∈S,s.length<=100/\∀v∈s,0<=v/\v<=999999)(hm2:S.length<=100000):Pure C3 14 [ACm k A S] (λy=>y=.str (bs (YZ A S))):=by
 have hdA:(A.map D0).length=A.length:=Ac _
 have hdS:(S.map Bn).length=S.length:=Ac _
 refine Oe Tryz.func14 Tryz.ntmps14 oN XR ?_
 ((conv=>whnf);repeat' ((first|refine odw ?_|refine nx ?_|refine AD (λ_=>?_) (λ_=>?_))<;>conv=>whnf))
 refine tN 3 (bld []) rfl (λ_ _ _ _ _ _=>AC1) ?_
 (conv=>whnf)
 refine AR (ι:=Nat) (λi=>i<=A.length) (λi=>[(14,.d (.int .i64 i)),(13,.d (.int .i64 (A.map D0).length)),(12,.d (.list 3 (A.map D0))),(3,.own 3),(1,.own 1)]) (λi=>[(1,.cells 48 [.d (.int .i64 k),.d (.list 3 (A.map D0)),.d (.list 1 (S.map Bn))]),(3,(bld ((A.take i).flatMap Jo)).own)]) (λi=>A.length-i) 0 (λ_=>rfl) (Am _) (.refl _ _) ⟨rfl,rfl,rfl,rfl,rfl,trivial⟩ ⟨rfl,rfl,trivial⟩ ?_
 intro i hi
 refine Hf oN XR ?_
 by_cases hil:i<A.length
 ·have hx:=Ab hil
  have htk:(A.take (i+1)).flatMap Jo=(A.take i).flatMap Jo++Jo A[i]:=by rw[Ay,hx,AU,CO,List.flatMap_singleton]
  have hxm:=hA _ (A8 hx)
  have hbl:=OI (A.take i) (λx hx=>hA x (DP hx))
  rw[AA]at hbl
  generalize A[i]=x at hx htk hxm
  obtain⟨hp,hn0,hn1⟩:=hxm
  have hll:=WR hp hn0 hn1
  have hxd:(A.map D0)[i]? =some (.agg [.agg [Bn x.1.labels,Fa x.1.edges],.int .i64 x.2]):=by rw[Ad,hx];rfl
  obtain⟨⟨_,x1,x2,x3,x4⟩,_⟩:=Na hp
  have htx:=Lh _ x1 x2 x3 x4
  have hfm:=zQ x.2 (by omega) (by omega)
  have el:bs (Lib.itoa x.2)++bs [32]++bs (DW x.1)++bs [10]=bs (Jo x):=by
   rw[HU,HU,HU];unfold Jo;simp
  have hw:=YM ((A.take i).flatMap Jo) (Jo x) (by omega)
  rw[<-el]at hw
  unfold Jo at hll
  simp only[Ah,Aw,Bt]at hll
  have c1:(bs (Lib.itoa x.2)).size+(bs [32]).size<=9223372036854775807:=by rw[Em,Em];simp only[Aw,Bt];omega
  have c2:(bs (Lib.itoa x.2)++bs [32]).size+(bs (DW x.1)).size<=9223372036854775807:=by rw[HU,Em,Em];simp only[Ah,Aw,Bt];omega
  have c3:(bs (Lib.itoa x.2)++bs [32]++bs (DW x.1)).size+(bs [10]).size<=9223372036854775807:=by rw[HU,HU,Em,Em];simp only[Ah,Aw,Bt];omega
  (conv=>whnf)
  (repeat' ((first|refine Aj ?_ ?_|refine AP hxd rfl ?_|refine Af rfl hfm ?_|refine Af rfl htx ?_|refine MQ c1 ?_|refine MQ c2 ?_|refine MQ c3 ?_|refine L5 rfl rfl hw ?_|refine nx ?_|refine AD (λ_=>?_) (λ_=>?_)|exact AG)<;>conv=>whnf))
  exact⟨i+1,_,_,hil,.refl _ _,⟨rfl,rfl,rfl,rfl,rfl,trivial⟩,⟨rfl,lK htk.symm,trivial⟩,by omega⟩
 ·rw[Al (show A.length<=i by omega)]
  ((conv=>whnf);repeat' ((first|refine odw ?_|refine nx ?_|refine AD (λ_=>?_) (λ_=>?_))<;>conv=>whnf))
  obtain⟨TA,hTA⟩:∃TA,A.flatMap Jo=TA:=⟨_,rfl⟩
  have hTl:TA.length<=201000000:=by
   have:=OI A hA
   rw[hTA]at this
   omega
  have htr:YZ A S=TA++S.flatMap P7:=by unfold YZ;rw[hTA]
  rw[hTA,htr]
  refine AR (ι:=Nat) (λi=>i<=S.length) (λi=>[(32,.d (.int .i64 i)),(31,.d (.int .i64 (S.map Bn).length)),(30,.d (.list 1 (S.map Bn))),(3,.own 3)]) (λi=>[(3,(bld (TA++(S.take i).flatMap P7)).own)]) (λi=>S.length-i) 0 (λ_=>rfl) (Am _) (.refl _ _) ⟨rfl,rfl,rfl,rfl,trivial⟩ ⟨lK (by simp),trivial⟩ ?_
  intro j hj
  refine Hf oN XR ?_
  by_cases hjl:j<S.length
  ·have hy:=Ab hjl
   have htk:(S.take (j+1)).flatMap P7=(S.take j).flatMap P7++P7 S[j]:=by rw[Ay,hy,AU,CO,List.flatMap_singleton]
   have hsm:=hS _ (A8 hy)
   have hsl:=QV (S.take j) (λx hx=>hS x (DP hx))
   rw[AA]at hsl
   generalize S[j]=s at hy htk hsm
   have hyd:(S.map Bn)[j]? =some (Bn s):=by rw[Ad,hy];rfl
   have hds:(s.map dI).length=s.length:=Ac _
   have hbl:=Zo hsm
   have jl:=Jp (m:=6) [32] (s.map Lib.itoa) (λx hx=>by
    obtain⟨y,hy,rfl⟩:=An.1 hx
    exact Gf (hsm.2 y hy).1 (hsm.2 y hy).2)
   rw[Ac,BE]at jl
   have hjn:=R0 C3 rfl (s.map Lib.itoa) [32] (by rw[Ac];omega) (by omega)
   have el:bs (Lib.join (s.map Lib.itoa) [32])++bs [10]=bs (P7 s):=HU _ _
   have hw:=YM (TA++(S.take j).flatMap P7) (P7 s) (by rw[Ah];omega)
   rw[<-el]at hw
   have c1:(bs (Lib.join (s.map Lib.itoa) [32])).size+(bs [10]).size<=9223372036854775807:=by rw[Em,Em];simp only[Aw,Bt];omega
   (conv=>whnf)
   (repeat' ((first|refine Aj ?_ ?_|refine AP hyd rfl ?_|refine nx ?_|refine AD (λ_=>?_) (λ_=>?_)|exact AG)<;>conv=>whnf))
   refine AR (ι:=Nat) (λm=>m<=s.length) (λm=>[(38,.d (.int .i64 m)),(37,.d (.int .i64 (s.map dI).length)),(36,.d (Bn s)),(8,.own 300),(32,.d (.int .i64 j)),(31,.d (.int .i64 (S.map Bn).length)),(30,.d (.list 1 (S.map Bn))),(3,.own 3)]) (λm=>[(3,(bld (TA++(S.take j).flatMap P7)).own),(300,.slice 9 1 (((s.take m).map Lib.itoa).map KY))]) (λm=>s.length-m) 0 (λ_=>rfl) (Am _) (.own 8 300 9 1 rfl rfl (.refl _ _)) ⟨rfl,rfl,rfl,rfl,rfl,rfl,rfl,rfl,trivial⟩ ⟨rfl,rfl,trivial⟩ ?_
   intro m hm3
   refine Hf oN XR ?_
   by_cases hml:m<s.length
   ·have hz:=Ab hml
    have htm:((s.take (m+1)).map Lib.itoa).map KY=((s.take m).map Lib.itoa).map KY++[KY (Lib.itoa s[m])]:=by rw[Ay,hz,AU,A7,A7];rfl
    have hvm:=hsm.2 _ (A8 hz)
    generalize s[m]=v at hz htm hvm
    have hzd:(s.map dI)[m]? =some (.int .i64 v):=by rw[Ad,hz];rfl
    have hit:=Lu v (by omega) (by omega)
    have hzl:(((s.take m).map Lib.itoa).map KY).length<=100:=by rw[Ac,Ac,AA];omega
    generalize ((s.take m).map Lib.itoa).map KY=Z at htm hzl⊢
    (conv=>whnf)
    (repeat' ((first|refine Aj ?_ ?_|refine AP hzd rfl ?_|refine Af rfl hit ?_|refine nx ?_|refine AD (λ_=>?_) (λ_=>?_)|exact AG)<;>conv=>whnf))
    exact⟨m+1,_,_,hml,.refl _ _,⟨rfl,rfl,rfl,rfl,rfl,rfl,rfl,rfl,trivial⟩,⟨rfl,Bk htm.symm,trivial⟩,by omega⟩
   ·rw[Al (show s.length<=m by omega)]
    (conv=>whnf)
    (repeat' ((first|refine Aj ?_ ?_|refine Dx 300 rfl ?_|refine Af rfl hjn ?_|refine MQ c1 ?_|refine L5 rfl rfl hw ?_|refine nx ?_|refine AD (λ_=>?_) (λ_=>?_)|exact AG)<;>conv=>whnf))
    exact⟨j+1,_,_,hjl,.refl _ _,⟨rfl,rfl,rfl,rfl,trivial⟩,⟨lK (by rw[htk,Bj]),trivial⟩,by omega⟩
  ·rw[Al (show S.length<=j by omega)]
   have hsl:=QV S hS
   have hst:=ABk (TA++S.flatMap P7) (by rw[Ah];omega)
   (conv=>whnf)
   (repeat' ((first|refine Aj ?_ ?_|refine L5 rfl rfl hst ?_|refine nx ?_|refine AD (λ_=>?_) (λ_=>?_)|exact AG)<;>conv=>whnf))
   exact rfl
end Go.Proofs.YtjpmmkodoeipmaaGreatDoor
end
section
namespace Go.Proofs.YtjpmmkodoeipmaaGreatDoor
open Go.Sx Go.RowKit Go.Reg Go.Gr
set_option maxRecDepth 100000
def qN:Pt:=⟨[0,0,0],[⟨0,1⟩,⟨1,2⟩]⟩
theorem qM:sortI qN.labels=[0,0,0]:=(YX X1).antisymm (IB (Zk _) ((Po _).trans (IZ _).symm)) (IB (by decide) ((IZ _).trans (Po _)))
theorem wO:GU qN.labels [0,0,0] qN.labels.length []=[[0,1,2],[0,2,1],[1,0,2],[1,2,0],[2,0,1],[2,1,0]]:=by decide
theorem wQ:Cc qN=⟨[0,0,0],[⟨0,1⟩,⟨0,2⟩]⟩:=by
 have h:∃o,Xa qN=some (⟨[0,0,0],[⟨0,1⟩,⟨0,2⟩]⟩,o):=by
  unfold Xa Oi
  rw[qM,wO]
  exact⟨_,rfl⟩
 obtain⟨o,h⟩:=h
 unfold Cc
 rw[h];rfl
def DV:Gr:=⟨[0,0,0],[⟨0,2⟩,⟨1,2⟩]⟩
theorem Wq:Hu DV.edges=DV.edges:=(Vu (by decide) (by decide) (by decide)).symm
theorem mS:Eo DV.labels DV.edges=none:=by decide
theorem hU:DV.Ok:=by
 have:=Q5 mS
 rwa [Wq]at this
theorem wP:Jm [0,0,0] [⟨0,2⟩,⟨1,2⟩]=.tuple [dG DV,dM DV.labels DV.edges,.bool true]:=by
 unfold Jm Qc
 rw[if_pos ⟨by decide,by decide⟩,show Eo [0,0,0] [⟨0,2⟩,⟨1,2⟩]=none from mS]
 simp only[show Hu [⟨0,2⟩,⟨1,2⟩]=DV.edges from Wq]
 rfl
theorem wN {x:List Int}(h:C6 DV x=true)(h8:x.length<=8):Jz DV false [] x=true:=by
 unfold Jz CD
 rw[if_neg (by decide),h,if_neg (by decide),decide_eq_true h8]
 unfold Lt
 rw[Rz hU h8 h];rfl
theorem PL:C8 DV (Jz DV false []) 0=[[0],[1],[2]]:=by
 show([[0],[1],[2]]:List (List Int)).filter _=_
 refine HC.2 λx hx=>wN ?_ ?_
 ·revert x;decide
 ·revert x;decide
theorem Ml {l:List Int} {r:List (List Int)}(h:((if Ev DV l=true then(Ug DV l 3).filter (FH DV l)else[]).map λv=>l++[v])=r)(hr:∀x∈r,C6 DV x=true/\x.length<=8):Ha DV (Jz DV false []) l=r:=by
 unfold Ha LG
 rw[sL hU]
 rw[show DV.labels.length=3 from rfl,h]
 exact HC.2 λx hx=>wN (hr x hx).1 (hr x hx).2
theorem PK:C8 DV (Jz DV false []) 1=[[0,2],[1,2]]:=by
 show(C8 DV (Jz DV false []) 0).flatMap _=_
 rw[PL,BD,BD,BD,List.flatMap_nil]
 rw[Ml (l:=[0]) (r:=[[0,2]]) (by decide) (by decide),Ml (l:=[1]) (r:=[[1,2]]) (by decide) (by decide),Ml (l:=[2]) (r:=[]) (by decide) (by decide)];rfl
theorem Un:C8 DV (Jz DV false []) 2=[[0,2,1]]:=by
 show(C8 DV (Jz DV false []) 1).flatMap _=_
 rw[PK,BD,BD,List.flatMap_nil]
 rw[Ml (l:=[0,2]) (r:=[[0,2,1]]) (by decide) (by decide),Ml (l:=[1,2]) (r:=[]) (by decide) (by decide)];rfl
theorem wM:Ed DV (Jz DV false []) 3=[[[0],[1],[2]],[[0,2],[1,2]],[[0,2,1]]]:=by
 rw[GS]
 ·show[C8 _ _ 0,C8 _ _ 1,C8 _ _ 2]=_
  rw[PL,PK,Un]
 ·intro k hk
  have:k=0\/k=1\/k=2:=by omega
  rcases this with rfl|rfl|rfl
  ·rw[PL];simp
  ·rw[PK];simp
  ·rw[Un];simp
theorem wK:NW DV [0,2,1]=qN:=by decide
def qO:Cnf:=⟨1,3,0,1,9,[]⟩
theorem AB2:CnfOk qO:=⟨by decide,by decide,by decide,by decide,by decide,λo ho=>(by cases ho),rfl⟩
theorem XO:JobOk DV (decide (qO.kind=3)) qO.size (EU qO):=⟨hU,by decide,by decide,λh=>(by cases h),by decide,by decide,λo ho=>(by cases ho)⟩
theorem wL:YZ [(⟨[0,0,0],[⟨0,1⟩,⟨0,2⟩]⟩,1)] []=[49,32,48,44,48,44,48,124,48,45,49,44,48,45,50,10]:=by
 have h0:Lib.itoa 0=[48]:=by rw[show(0:Int)=((0:Nat):Int)from rfl,Ip,Lib.decDigits_one (by omega)];rfl
 have h1:Lib.itoa 1=[49]:=by rw[show(1:Int)=((1:Nat):Int)from rfl,Ip,Lib.decDigits_one (by omega)];rfl
 have h2:Lib.itoa 2=[50]:=by rw[show(2:Int)=((2:Nat):Int)from rfl,Ip,Lib.decDigits_one (by omega)];rfl
 unfold YZ Jo DW JW
 simp only[Ar,Bu,BD,List.flatMap_nil,h0,h1,h2]
 rfl
theorem wR(u:List Int->Pt)(wv:List Int->List Int)(h:u [0,2,1]=⟨[0,0,0],[⟨0,1⟩,⟨0,2⟩]⟩):FT 1 3 0 u wv [[[0],[1],[2]],[[0,2],[1,2]],[[0,2,1]]]=[(⟨[0,0,0],[⟨0,1⟩,⟨0,2⟩]⟩,1)]:=by
 unfold FT
 rw[if_pos rfl,if_pos (by decide)]
 show Ee [u [0,2,1]]=_
 rw[h];rfl
def AFc:List FuncId:=[15,8,7,9,14]
set_option maxHeartbeats 4000000 in
theorem ZK:Pure C3 5 [] (λy=>y=.bool true):=by
 have hm:=Pure.up3 (WL [0,0,0] [⟨0,2⟩,⟨1,2⟩])
 rw[wP]at hm
 have lx:LaxA (.agg [.int .i64 1,.int .i64 3,.int .i64 0,.int .i64 1,.int .i64 9,.nils]) (He qO):=.agg (.cons (.refl _) (.cons (.refl _) (.cons (.refl _) (.cons (.refl _) (.cons (.refl _) (.cons (.nils 2) .nil))))))
 have hj:Pure C3 8 [.agg [.int .i64 1,.int .i64 3,.int .i64 0,.int .i64 1,.int .i64 9,.nils],dG DV] (λy=>y=dJ DV false 3 []):=Sx.Pure.lax (.cons lx (.cons (.refl _) .nil)) (Pure.up3 (Rb DV qO (by decide)))
 have ha:=Pure.up3 (eW XO 100)
 have hr:Ed DV (Jz DV false []) 3=[[[0],[1],[2]],[[0,2],[1,2]],[[0,2,1]]]:=wM
 have hs:JO DV (Jz DV false []) 3=6:=by
  unfold JO
  show((C8 _ _ 0).length+((C8 _ _ 1).length+((C8 _ _ 2).length+0)))=6
  rw[PL,PK,Un];rfl
 have ha:Pure C3 7 [dJ DV false 3 [],.int .i64 100] (λy=>y=.tuple [OS [[[0],[1],[2]],[[0,2],[1,2]],[[0,2,1]]],.nili]):=by
  have e:lN DV (Jz DV false []) 3 100=.tuple [OS [[[0],[1],[2]],[[0,2],[1,2]],[[0,2,1]]],.nili]:=by
   unfold lN
   rw[hs,if_pos (by decide),hr];rfl
  rw[<-e];exact ha
 have hp:∀R∈([[[0],[1],[2]],[[0,2],[1,2]],[[0,2,1]]]:List (List (List Int))),∀X∈R,PatAt DV false 3 [] (Je DV false) (VD DV false) X/\X.Nodup/\X.length<=8:=λR hR X hX=>Z0 (D:=3) XO (by decide) (R:=R) (by show R∈Ed DV (Jz DV false []) 3;rw[hr];exact hR) hX
 have hof:=Z7 XO AB2 [[[0],[1],[2]],[[0,2],[1,2]],[[0,2,1]]] (Je DV false) (VD DV false) (by decide) (by decide) (by decide) (λR hR X hX=>by have:=(hp R hR X hX).2.2;omega) (λR hR X hX=>(hp R hR X hX).1)
 have hof:Pure C3 9 [.agg [.int .i64 1,.int .i64 3,.int .i64 0,.int .i64 1,.int .i64 9,.nils],dG DV,OS [[[0],[1],[2]],[[0,2],[1,2]],[[0,2,1]]]] (λy=>y=.tuple [ACm 1 [(⟨[0,0,0],[⟨0,1⟩,⟨0,2⟩]⟩,1)] [],.nili]):=by
  refine Sx.Pure.lax (.cons lx (.cons (.refl _) (.cons (.refl _) .nil))) ?_
  rw[<-wR (λX=>Cc (Je DV false X)) (λX=>JS (LM (Je DV false X)) (VD DV false X)) (by show Cc (NW DV [0,2,1])=_;rw[wK,wQ])]
  exact hof
 have htx:=gO 1 [(⟨[0,0,0],[⟨0,1⟩,⟨0,2⟩]⟩,1)] [] (by decide) (by decide) (by decide) (by decide)
 rw[wL]at htx
 refine Oe Tryz.func5 Tryz.ntmps5 AFc [] ?_
 (conv=>whnf)
 (repeat' ((first|refine Aj ?_ ?_|refine Dx 10 rfl ?_|refine Dx 13 rfl ?_|refine Af (xs:=[Bn [0,0,0],Fa [⟨0,2⟩,⟨1,2⟩]]) rfl hm ?_|refine Af rfl hj ?_|refine Af rfl ha ?_|refine Af rfl hof ?_|refine Af rfl htx ?_|refine nx ?_|refine AD (λ_=>?_) (λ_=>?_)|exact AG)<;>conv=>whnf))
 exact rfl
end Go.Proofs.YtjpmmkodoeipmaaGreatDoor
end
section
namespace Go.Proofs.YtjpmmkodoeipmaaGreatDoor
open Go.Sx Go.RowKit Go.Reg Go.Gr
set_option maxRecDepth 100000
theorem bB {G:Gr} {e:Bool} {d:Int} {l:List Opp}(hj:JobOk G e d l) {D:Nat}(hD:d=D)(h8:D<=8):Pure C3 7 [dJ G e d l,.int .i64 1048576] (λy=>y=.tuple [OS (Ed (CD G e) (Jz G e l) D),.nili]):=by
 have ha:=Pure.up3 (eW hj 1048576)
 have hok:=IW hj.ok (by have:=hj.n;omega) hj.m e
 have hs:=Ze hok (Jz G e l) (Nf hj) h8
 rw[hD,AY]at ha
 unfold lN at ha
 rw[if_pos (by omega)]at ha
 rw[hD]
 exact ha
theorem cL {k:Int} {d:Nat} {s:Int} {q:List Int->Pt} {V:List Int->List Int} {L:List (List (List Int))}(h:∀R∈L,∀X∈R,Dp (q X)=none):AA7 (FT k d s (λX=>Cc (q X)) (λX=>JS (LM (q X)) (V X)) L):=by
 intro x hx
 unfold FT at hx
 have ht:∀Xs:List (List Int),(∀X∈Xs,Dp (q X)=none)->∀x∈Ee (Xs.map λX=>Cc (q X)),Dp x.1=none:=λXs hX x hx=>by
  obtain⟨X,hXm,e⟩:=An.1 ((EG _).2.2.2.1 x hx)
  rw[<-e];exact KN (hX X hXm)
 split at hx
 ·split at hx
  ·refine ht _ (λX hX=>?_) x hx
   cases hg:L[d-1]? with
   |none=>rw[hg]at hX;cases hX
   |some R=>rw[hg]at hX;exact h R (A8 hg) X hX
  ·cases hx
 ·split at hx
  ·cases hx
  ·unfold R6 at hx
   obtain⟨y,hy,rfl⟩:=An.1 (Az.1 hx).1
   exact ht _ (λX hX=>by
    obtain⟨R,hR,hXR⟩:=RT.1 hX
    exact h R hR X hXR) y hy
theorem sR {k:Int} {d:Nat} {s:Int} {u:List Int->Pt} {wv:List Int->List Int} {L:List (List (List Int))}(h:L.flatten.length<=2048)(hr:∀R∈L,R.length<=256):(FT k d s u wv L).length<=2048:=by
 have ht:∀Xs:List (List Int),Xs.length<=2048->(Ee (Xs.map u)).length<=2048:=λXs hX=>by
  have:=(EG (Xs.map u)).2.2.1
  rw[Ac]at this;omega
 unfold FT
 split
 ·split
  ·refine ht _ ?_
   cases hg:L[d-1]? with
   |none=>simp
   |some R=>have:=hr R (A8 hg);simp only[Gz];omega
  ·simp
 ·split
  ·simp
  ·unfold R6
   refine BH (CM _ _) ?_
   rw[Ac]
   exact ht _ h
theorem zV {k:Int} {L:List (List (List Int))}(h:∀R∈L,∀X∈R,X.Nodup/\X.length<=8)(hf:L.flatten.length<=2048):(Jq k L).length<=2048/\∀s∈Jq k L,DF s=s/\s.length<=8:=by
 unfold Jq
 split
 ·refine⟨by rw[(GR _).length_eq,Ac];exact hf,λs hs=>?_⟩
  obtain⟨X,hX,rfl⟩:=An.1 ((GR _).mem_iff.1 hs)
  obtain⟨R,hR,hXR⟩:=RT.1 hX
  obtain⟨h1,h2⟩:=h R hR X hXR
  have hl:(Kk X).length=X.length:=(H9 _ _).length_eq
  exact⟨vI h1,by omega⟩
 ·exact⟨Am _,λs hs=>(by cases hs)⟩
end Go.Proofs.YtjpmmkodoeipmaaGreatDoor
end
section
namespace Go.Proofs.YtjpmmkodoeipmaaGreatDoor
open Go.Gr
theorem UJ {l:List Opp} {p:Pt}(h:Lt l p=true):Lt [] p=true:=by
 unfold Lt at h⊢
 rw[Ap]at h
 rw[h.1];rfl
theorem AB3 {G:Gr} {e:Bool} {l:List Opp} {x:List Int}(h:Jz G e l x=true):Jz G e [] x=true:=by
 unfold Jz at h⊢
 cases e with
 |
  true=>
  simp only[if_true,Ap]at h⊢
  exact⟨h.1,h.2.1,UJ h.2.2⟩
 |
  false=>
  simp only[CL,if_false,Ap]at h⊢
  exact⟨h.1,h.2.1,UJ h.2.2⟩
section
variable {w:Gr} {ps ps':List Int->Bool}
theorem Wj(hG:w.Ok)(h:∀x,ps x=true->ps' x=true)(k:Nat):∀X∈C8 w ps k,X∈C8 w ps' k:=λX hX=>by
 obtain⟨h1,h2,h3⟩:=(Fi hG k).1 hX
 refine(Fi hG k).2 ⟨h1,h2,?_⟩
 unfold eX at h3⊢
 rw[CU]at h3⊢
 exactλn hn=>h _ (h3 n hn)
theorem gR(hG:w.Ok)(k:Nat):(C8 w ps k).Nodup:=(Ra hG ps k).imp λh=>AAy h
theorem kO(hG:w.Ok)(h:∀x,ps x=true->ps' x=true) {D:Nat}(h0:0<D)(s:Int)(u:List Int->Pt)(wv:List Int->List Int):LeR (FT 1 D s u wv (Ed w ps D)) (FT 1 D s u wv (Ed w ps' D)):=by
 unfold FT
 rw[if_pos rfl,if_pos rfl]
 by_cases hl:D<=(Ed w ps D).length
 ·obtain⟨m,hm,e,hn,_⟩:=Ow w ps D
  rw[e,Ac,D9]at hl
  have em:m=D:=by omega
  subst em
  have e':=GS (G:=w) (ps:=ps') (d:=m) λk hk hz=>by
   obtain⟨X,hX⟩:=List.exists_mem_of_ne_nil _ (hn k hk)
   have:=Wj hG h k X hX
   rw[hz]at this;cases this
  rw[e,e',if_pos (by simp),if_pos (by simp)]
  have hg:∀f:Nat->List (List Int),((((List.range m).map f)[m-1]?).getD [])=f (m-1):=λf=>by
   rw[Ad,CN (by omega)];rfl
  rw[hg,hg]
  exact ABg λp=>tF (gR hG _) (Wj hG h _) p
 ·rw[if_neg hl]
  intro x hx
  cases hx
theorem vV(hG:w.Ok) {D:Nat}:∀{E:Nat},D<=E->∃T,Ed w ps E=Ed w ps D++T/\∀R∈T,∀X∈R,D<X.length:=by
 intro E hE
 induction E with
 |zero=>exact⟨[],by rw[show D=0 by omega];rfl,λR h=>(by cases h)⟩
 |
  succ E ih=>
  rcases BL E D with h|h
  ·exact⟨[],by rw[show D=E+1 by omega,Cg],λR h=>(by cases h)⟩
  ·obtain⟨T,h1,h2⟩:=ih h
   by_cases hz:C8 w ps E=[]
   ·refine⟨T,?_,h2⟩
    conv=>lhs;unfold Ed
    rw[if_pos hz,h1]
   ·refine⟨T++[C8 w ps E],?_,λR hR X hX=>?_⟩
    ·conv=>lhs;unfold Ed
     rw[if_neg hz,h1,Bj]
    ·rcases Ag.1 hR with hR|hR
     ·exact h2 R hR X hX
     ·rw[As.1 hR]at hX
      have:=((Fi hG E).1 hX).2.1
      omega
theorem Xe(hG:w.Ok)(k:Int) {D E:Nat}(h:D<=E):∃T,Jq k (Ed w ps E)=Jq k (Ed w ps D)++T:=by
 unfold Jq
 by_cases hk:k=2
 ·rw[if_pos hk,if_pos hk]
  obtain⟨T,h1,h2⟩:=vV (ps:=ps) hG h
  refine⟨sortC (T.flatten.map Kk),?_⟩
  rw[h1,Df,A7]
  refine pO λa ha b hb=>?_
  have hl:∀X:List Int,(Kk X).length=X.length:=λX=>(H9 _ _).length_eq
  obtain⟨X,hX,rfl⟩:=An.1 ha
  obtain⟨Y,hY,rfl⟩:=An.1 hb
  obtain⟨R,hR,hXR⟩:=RT.1 hX
  obtain⟨Q,hQ,hYQ⟩:=RT.1 hY
  obtain⟨j,hj,rfl⟩:=XI hR
  have g1:=((Fi hG j).1 hXR).2.1
  have g2:=h2 Q hQ Y hYQ
  rw[hl,hl];omega
 ·rw[if_neg hk,if_neg hk]
  exact⟨[],rfl⟩
end
structure KeepsR(A B:List (Pt×Int))(S T:List (List Int)):Prop where
 has:∀x∈A,∃y∈B,y.1=x.1
 val:∀x∈A,∀y∈B,y.1=x.1->x.2<=y.2
 set:∀(i:Nat) (a b:List Int),S[i]? =some a->T[i]? =some b->a=b
theorem KeepsR.of {A B:List (Pt×Int)} {S T:List (List Int)}(h:LeR A B)(hs:GA Dw B)(ht:∀(i:Nat) (a b:List Int),S[i]? =some a->T[i]? =some b->a=b):KeepsR A B S T:=by
 refine⟨λx hx=>?_,λx hx y hy e=>?_,ht⟩
 ·obtain⟨y,hy,e,_⟩:=h x hx
  exact⟨y,hy,e⟩
 ·obtain⟨z,hz,e2,hle⟩:=h x hx
  have h1:=Py hs y hy
  have h2:=Py hs z hz
  rw[e]at h1
  rw[e2]at h2
  omega
theorem kN(k:Int)(d:Nat)(s:Int)(u:List Int->Pt)(wv:List Int->List Int)(L:List (List (List Int))):GA Dw (FT k d s u wv L):=by
 unfold FT
 split
 ·split
  ·exact(EG _).2.2.2.2
  ·exact .nil
 ·split
  ·exact .nil
  ·exact WZ u wv _ s
theorem wT {S T U:List (List Int)}(h:U=S++T)(i:Nat)(a b:List Int)(h1:S[i]? =some a)(h2:U[i]? =some b):a=b:=by
 rw[h,Bi (Ae.1 h1).1,h1]at h2
 exact Ce h2
def keepC(c:Cnf):Cnf:=if c.kind=1 then {c with keep:=[]}else if c.kind=2 then {c with size:=c.size.tmod 4+1}else {c with sup:=1}
theorem jS(c:Cnf):(keepC c).kind=c.kind:=by
 unfold keepC
 split
 ·rfl
 ·split<;>rfl
theorem ACO {D:Nat}:((D:Int).tmod 4+1)=((D % 4+1:Nat):Int):=by
 rw[Int.tmod_eq_emod_of_nonneg (by omega)];omega
theorem JobC.keepC {G:Gr} {c:Cnf}(h:JobC G c):JobC G (keepC c):=by
 have hc:=h.cnf
 have hk:=hc.kind
 obtain⟨D,hD⟩:=A6 (show 0<=c.size by have:=hc.size;omega)
 have ht:=ACO (D:=D)
 unfold Go.Proofs.YtjpmmkodoeipmaaGreatDoor.keepC
 by_cases h1:c.kind=1
 ·rw[if_pos h1]
  exact⟨h.ok,h.n,h.m,⟨hc.kind,hc.size,hc.workers,hc.cap,Am _,λo ho=>(by cases ho),hc.sup⟩,h.size,h.s3,λ_ o ho=>(by cases ho)⟩
 ·rw[if_neg h1]
  by_cases h2:c.kind=2
  ·rw[if_pos h2]
   refine⟨h.ok,h.n,h.m,⟨hc.kind,?_,hc.workers,hc.cap,hc.l15,hc.lok,hc.sup⟩,?_,λe=>?_,h.k3⟩
   ·show 1<=c.size.tmod 4+1/\c.size.tmod 4+1<=8
    rw[hD,ht];omega
   ·show c.size.tmod 4+1<=4
    rw[hD,ht];omega
   ·exact absurd (show c.kind=3 from e) (by omega)
  ·rw[if_neg h2]
   have h3:c.kind=3:=by omega
   refine⟨h.ok,h.n,h.m,⟨hc.kind,hc.size,hc.workers,hc.cap,hc.l15,hc.lok,?_⟩,h.size,h.s3,h.k3⟩
   show if c.kind=3 then 1<=(1:Int)/\(1:Int)<=1000000 else(1:Int)=0
   rw[if_pos h3];decide
def J9(G:Gr)(c:Cnf):List (List (List Int)):=Ed (CD G (decide (c.kind=3))) (Jz G (decide (c.kind=3)) (EU c)) c.size.toNat
def JU(G:Gr)(c:Cnf):List (Pt×Int):=FT c.kind c.size.toNat c.sup (λX=>Cc (Je G (decide (c.kind=3)) X)) (λX=>JS (LM (Je G (decide (c.kind=3)) X)) (VD G (decide (c.kind=3)) X)) (J9 G c)
def P5(G:Gr)(c:Cnf):List (List Int):=Jq c.kind (J9 G c)
theorem sC {G:Gr} {c:Cnf}(h:JobC G c):KeepsR (JU G c) (JU G (keepC c)) (P5 G c) (P5 G (keepC c)):=by
 have hc:=h.cnf
 have hk:=hc.kind
 have hj:=h.job
 have hok:=IW hj.ok (by have:=hj.n;omega) hj.m (decide (c.kind=3))
 obtain⟨D,hD⟩:=A6 (show 0<=c.size by have:=hc.size;omega)
 have ht:=ACO (D:=D)
 refine KeepsR.of ?_ (kN _ _ _ _ _ _) ?_
 ·unfold Go.Proofs.YtjpmmkodoeipmaaGreatDoor.keepC
  by_cases h1:c.kind=1
  ·rw[if_pos h1]
   unfold JU J9
   have hp:EU c=c.keep:=by unfold EU;rw[if_neg (by omega)]
   have hp2:EU {c with keep:=[]}=[]:=by unfold EU;exact if_neg (show¬c.kind=2 by omega)
   rw[hp,hp2]
   simp only
   rw[h1]
   rw[h1]at hok
   exact kO hok (λx hx=>AB3 hx) (by have:=hc.size;omega) _ _ _
  ·rw[if_neg h1]
   by_cases h2:c.kind=2
   ·intro x hx
    unfold JU FT at hx
    rw[if_neg h1,if_pos h2]at hx
    cases hx
   ·rw[if_neg h2]
    have hsp:=hc.sup
    rw[if_pos (by omega)]at hsp
    have e:∀s:Int,FT c.kind c.size.toNat s (λX=>Cc (Je G (decide (c.kind=3)) X)) (λX=>JS (LM (Je G (decide (c.kind=3)) X)) (VD G (decide (c.kind=3)) X)) (J9 G c)=R6 (λX=>Cc (Je G (decide (c.kind=3)) X)) (λX=>JS (LM (Je G (decide (c.kind=3)) X)) (VD G (decide (c.kind=3)) X)) (J9 G c).flatten s:=λs=>by unfold FT;rw[if_neg h1,if_neg h2]
    show LeR (FT c.kind c.size.toNat c.sup (λX=>Cc (Je G (decide (c.kind=3)) X)) (λX=>JS (LM (Je G (decide (c.kind=3)) X)) (VD G (decide (c.kind=3)) X)) (J9 G c)) (FT c.kind c.size.toNat 1 (λX=>Cc (Je G (decide (c.kind=3)) X)) (λX=>JS (LM (Je G (decide (c.kind=3)) X)) (VD G (decide (c.kind=3)) X)) (J9 G c))
    rw[e,e]
    exact ACa _ _ _ hsp.1
 ·by_cases h2:c.kind=2
  ·have hk2:keepC c={c with size:=c.size.tmod 4+1}:=by unfold Go.Proofs.YtjpmmkodoeipmaaGreatDoor.keepC;rw[if_neg (by omega),if_pos h2]
   rw[hk2]
   unfold P5 J9
   simp only
   rw[show EU {c with size:=c.size.tmod 4+1}=EU c from rfl,hD,ht,AY,AY]
   rcases Nat.le_total D (D % 4+1)with g|g
   ·obtain⟨T,e⟩:=Xe (ps:=Jz G (decide (c.kind=3)) (EU c)) hok c.kind g
    exact wT e
   ·obtain⟨T,e⟩:=Xe (ps:=Jz G (decide (c.kind=3)) (EU c)) hok c.kind g
    exactλi a b h1 h2=>(wT e i b a h2 h1).symm
  ·intro i a b h1
   unfold P5 Jq at h1
   rw[if_neg h2]at h1
   simp at h1
end Go.Proofs.YtjpmmkodoeipmaaGreatDoor
end
section
namespace Go.Proofs.YtjpmmkodoeipmaaGreatDoor
open Go.Sx Go.RowKit Go.Reg Go.Gr
set_option maxRecDepth 100000
theorem oE {a b:Bool}(h:a=b):Dat.d (.bool a)=Dat.d (.bool b):=by rw[h]
theorem bH {G:Gr} {c:Cnf}(hJ:JobC G c):
  Pure C3 8 [He c,dG G] (λy=>y=dJ G (decide (c.kind=3)) c.size (EU c))
  /\Pure C3 7 [dJ G (decide (c.kind=3)) c.size (EU c),.int .i64 1048576] (λy=>y=.tuple [OS (J9 G c),.nili])
  /\Pure C3 9 [He c,dG G,OS (J9 G c)] (λy=>y=.tuple [ACm c.kind (JU G c) (P5 G c),.nili])
  /\AA7 (JU G c)/\(JU G c).length<=2048/\(P5 G c).length<=2048:=by
 have hj:=hJ.job
 have hjb:=Pure.up3 (Rb G c (by have:=hJ.cnf.l15;omega))
 obtain⟨D,hD⟩:=A6 (show 0<=c.size by have:=hJ.cnf.size;omega)
 have hD4:1<=D/\D<=4:=by have:=hJ.cnf.size;have:=hJ.size;omega
 have hall:=bB hj hD (by omega)
 have hpt:=λR hR X hX=>Z0 (D:=D) hj (by omega) (R:=R) hR (X:=X) hX
 obtain⟨hfew,hrow⟩:=vW (D:=D) hj (by omega)
 have hLl:=Uc (CD G (decide (c.kind=3))) (Jz G (decide (c.kind=3)) (EU c)) D
 have eL:J9 G c=Ed (CD G (decide (c.kind=3))) (Jz G (decide (c.kind=3)) (EU c)) D:=by unfold J9;rw[hD,AY]
 unfold JU P5
 rw[eL]
 generalize Ed (CD G (decide (c.kind=3))) (Jz G (decide (c.kind=3)) (EU c)) D=L at hall hpt hfew hrow hLl
 exact⟨hjb,hall,Z7 hj hJ.cnf L _ _ (by omega) (by omega) (λR h=>by have:=hrow R h;omega) (λR hR X hX=>by have:=(hpt R hR X hX).2.2;omega) (λR hR X hX=>(hpt R hR X hX).1),cL (λR hR X hX=>(hpt R hR X hX).1.err),sR hfew hrow,(zV (λR hR X hX=>(hpt R hR X hX).2) hfew).1⟩
def XT:List (Nat×Plan):=[(27,.leaf [0,1,0,0,0,1,0,1,0,0,0,1,2,0] [0,2,6,8,1,3,4,5,7,9,10,11,12,13] [0,1,0,7,15,31,0,64,0,448,960,1984,4095,8191]),
 (28,.leaf [0,1,0,0,0,1,0,1,0,0,0,1,0,0] [0,2,6,8,1,3,4,5,7,9,10,11,12,13] [0,1,0,7,15,31,0,64,0,448,960,1984,4095,8191]),
 (34,.leaf [0,1,0,0,1,0,1,0,0,1,2,0] [0,2,5,7,1,3,4,6,8,9,10,11] [0,1,0,7,15,0,32,0,224,480,1023,2047])]
def oO:List FuncId:=[10,11]
set_option maxHeartbeats 8000000 in
theorem Z9(labels:List Int)(edges:List Edg)(c:Cnf):Pure C3 3 [Bn labels,Fa edges,He c] (λy=>y=.bool true):=by
 have hal:=ZK
 have hmd:=Pure.up3 (gT labels edges c)
 refine Oe Tryz.func3 Tryz.ntmps3 oO XT ?_
 (conv=>whnf)
 (repeat' ((first|refine Aj ?_ ?_|refine Af rfl hal ?_|refine nx ?_|refine AD (λ_=>?_) (λ_=>?_)|exact AG)<;>conv=>whnf))
 refine AS rfl hmd ?_
 rintro y (rfl|⟨G,rfl,hJ⟩)
 ·((conv=>whnf);repeat' ((first|refine odw ?_|refine nx ?_|refine AD (λ_=>?_) (λ_=>?_))<;>conv=>whnf))
  exact rfl
 obtain⟨a1,a2,a3,a4,a5,a6⟩:=bH hJ
 obtain⟨b1,b2,b3,b4,b5,b6⟩:=bH (JobC.keepC hJ)
 have hlaw:=sC hJ
 have hk:=hJ.cnf.kind
 have hsz:=hJ.cnf.size
 rw[jS]at b1 b2 b3
 have hr:0<=c.size.tmod 4/\c.size.tmod 4<=3:=by
  rw[Int.tmod_eq_emod_of_nonneg (by omega)];omega
 generalize JU G (keepC c)=B at b3 b4 b5 hlaw
 generalize P5 G (keepC c)=T at b3 b6 hlaw
 generalize J9 G (keepC c)=M at b2 b3
 generalize JU G c=A at a3 a4 a5 hlaw
 generalize P5 G c=S at a3 a6 hlaw
 generalize J9 G c=L at a2 a3
 generalize dJ G (decide (c.kind=3)) (keepC c).size (EU (keepC c))=J2 at b1 b2
 generalize dJ G (decide (c.kind=3)) c.size (EU c)=J1 at a1 a2
 have hdS:(S.map Bn).length=S.length:=Ac _
 have hdT:(T.map Bn).length=T.length:=Ac _
 have hdA:(A.map D0).length=A.length:=Ac _
 have hdB:(B.map D0).length=B.length:=Ac _
 have hk3:c.kind=1\/c.kind=2\/c.kind=3:=by omega
 rcases hk3 with e|e|e
 case' inr.inl=>
  have hY:He (keepC c)=.agg [.int .i64 c.kind,.int .i64 c.size,.int .i64 c.sup,.int .i64 c.workers,.int .i64 c.cap,.list 2 []]:=by unfold keepC;rw[if_pos e];rfl
  rw[hY]at b1 b3
  have b1:=Sx.Pure.lax (.cons (.agg (.cons (.refl _) (.cons (.refl _) (.cons (.refl _) (.cons (.refl _) (.cons (.refl _) (.cons (.nils 2) .nil))))))) (.cons (.refl _) .nil)) b1
  have b3:=Sx.Pure.lax (.cons (.agg (.cons (.refl _) (.cons (.refl _) (.cons (.refl _) (.cons (.refl _) (.cons (.refl _) (.cons (.nils 2) .nil))))))) (.cons (.refl _) (.cons (.refl _) .nil))) b3
  clear hY
  (conv=>whnf)
  (repeat' ((first|refine Aj ?_ ?_|refine Af rfl a1 ?_|refine Af rfl a2 ?_|refine Af rfl a3 ?_|refine Af rfl b1 ?_|refine Af rfl b2 ?_|refine Af rfl b3 ?_|refine nx ?_|refine AD (λ_=>?_) (λ_=>?_)|exact AG)<;>conv=>whnf))
 case' inr.inr.inl=>
  have hY:He (keepC c)=.agg [.int .i64 c.kind,.int .i64 (c.size.tmod 4+1),.int .i64 c.sup,.int .i64 c.workers,.int .i64 c.cap,Ka c.keep]:=by unfold keepC;rw[if_neg (by omega),if_pos e];rfl
  rw[hY]at b1 b3
  clear hY
  (conv=>whnf)
  (repeat' ((first|refine Aj ?_ ?_|refine Af rfl a1 ?_|refine Af rfl a2 ?_|refine Af rfl a3 ?_|refine Af rfl b1 ?_|refine Af rfl b2 ?_|refine Af rfl b3 ?_|refine nx ?_|refine AD (λ_=>?_) (λ_=>?_)|exact AG)<;>conv=>whnf))
 case' inr.inr.inr=>
  have hY:He (keepC c)=.agg [.int .i64 c.kind,.int .i64 c.size,.int .i64 1,.int .i64 c.workers,.int .i64 c.cap,Ka c.keep]:=by unfold keepC;rw[if_neg (by omega),if_neg (by omega)];rfl
  rw[hY]at b1 b3
  clear hY
  (conv=>whnf)
  (repeat' ((first|refine Aj ?_ ?_|refine Af rfl a1 ?_|refine Af rfl a2 ?_|refine Af rfl a3 ?_|refine Af rfl b1 ?_|refine Af rfl b2 ?_|refine Af rfl b3 ?_|refine nx ?_|refine AD (λ_=>?_) (λ_=>?_)|exact AG)<;>conv=>whnf))
 all_goals
  refine AR (ι:=Nat) (λj=>j<=A.length) (λj=>[(20,.d (.int .i64 j)),(18,.own 18),(16,.own 16)]) (λ_=>[(16,.cells 48 [.d (.int .i64 c.kind),.d (.list 3 (A.map D0)),.d (.list 1 (S.map Bn))]),(18,.cells 48 [.d (.int .i64 c.kind),.d (.list 3 (B.map D0)),.d (.list 1 (T.map Bn))])]) (λj=>A.length-j) 0 (λ_=>rfl) (Am _) (.refl _ _) ⟨rfl,rfl,rfl,trivial⟩ ⟨rfl,rfl,trivial⟩ ?_
  clear a1 a2 a3 b1 b2 b3 hal hmd
  intro j hj
  refine Hf oO XT ?_
  by_cases hjl:j<A.length
  ·have hx:=Ab hjl
   have hm:=A8 hx
   generalize A[j]=x at hx hm
   have hxd:(A.map D0)[j]? =some (.agg [.agg [Bn x.1.labels,Fa x.1.edges],.int .i64 x.2]):=by rw[Ad,hx];rfl
   have hpx:=a4 x hm
   (conv=>whnf)
   ((conv=>whnf);repeat' ((first|refine odw ?_|refine nx ?_|refine AD (λ_=>?_) (λ_=>?_))<;>conv=>whnf))
   refine AR (ι:=Nat) (λk=>k<=B.length) (λk=>[(22,.d (.int .i64 k)),(21,.d (.bool ((B.take k).any λy=>decide (y.1=x.1)))),(20,.d (.int .i64 j)),(18,.own 18),(16,.own 16)]) (λ_=>[(16,.cells 48 [.d (.int .i64 c.kind),.d (.list 3 (A.map D0)),.d (.list 1 (S.map Bn))]),(18,.cells 48 [.d (.int .i64 c.kind),.d (.list 3 (B.map D0)),.d (.list 1 (T.map Bn))])]) (λk=>B.length-k) 0 (λ_=>rfl) (Am _) (.refl _ _) ⟨rfl,rfl,rfl,rfl,rfl,trivial⟩ ⟨rfl,rfl,trivial⟩ ?_
   intro k hk2
   refine Hf oO XT ?_
   by_cases hkl:k<B.length
   ·have hy:=Ab hkl
    have hym:=A8 hy
    have htk:(B.take (k+1)).any (λy=>decide (y.1=x.1))=((B.take k).any (λy=>decide (y.1=x.1))||decide (B[k].1=x.1)):=by rw[Ay,hy,AU,List.any_append,List.any_cons,List.any_nil,Bool.or_false]
    generalize B[k]=y at hy hym htk
    have hyd:(B.map D0)[k]? =some (.agg [.agg [Bn y.1.labels,Fa y.1.edges],.int .i64 y.2]):=by rw[Ad,hy];rfl
    have hcm:=Pure.up3 (AEh hpx (b4 y hym))
    generalize (B.take k).any (λy=>decide (y.1=x.1))=b at htk⊢
    by_cases hxy:y.1=x.1
    ·have hle:=hlaw.val x hm y hym hxy
     rw[(Hl.eq0 _ _).2 hxy.symm]at hcm
     rw[decide_eq_true hxy,Bool.or_true]at htk
     (conv=>whnf)
     (repeat' ((first|refine Aj ?_ ?_|refine AP hxd rfl ?_|refine AP hyd rfl ?_|refine Af rfl hcm ?_|refine nx ?_|refine AD (λ_=>?_) (λ_=>?_)|exact AG)<;>conv=>whnf))
     exact⟨k+1,_,_,hkl,.lax 21 rfl (.yes hle) (.refl _ _),⟨rfl,oE htk.symm,rfl,rfl,rfl,trivial⟩,⟨rfl,rfl,trivial⟩,by omega⟩
    ·have hne:¬Dw x.1 y.1=0:=λh=>hxy ((Hl.eq0 _ _).1 h).symm
     rw[decide_eq_false hxy,Bool.or_false]at htk
     (conv=>whnf)
     (repeat' ((first|refine Aj ?_ ?_|refine AP hxd rfl ?_|refine AP hyd rfl ?_|refine Af rfl hcm ?_|refine nx ?_|refine AD (λ_=>?_) (λ_=>?_)|exact AG)<;>conv=>whnf))
     exact⟨k+1,_,_,hkl,.refl _ _,⟨rfl,oE htk.symm,rfl,rfl,rfl,trivial⟩,⟨rfl,rfl,trivial⟩,by omega⟩
   have hany:(B.take k).any (λy=>decide (y.1=x.1))=true:=by
    rw[Al (show B.length<=k by omega),Cp]
    obtain⟨y,hy,hxy⟩:=hlaw.has x hm
    exact⟨y,hy,decide_eq_true hxy⟩
   rw[hany]
   (conv=>whnf)
   ((conv=>whnf);repeat' ((first|refine odw ?_|refine nx ?_|refine AD (λ_=>?_) (λ_=>?_))<;>conv=>whnf))
   exact⟨j+1,_,_,hjl,.refl _ _,⟨rfl,rfl,rfl,trivial⟩,⟨rfl,rfl,trivial⟩,by omega⟩
  (conv=>whnf)
  ((conv=>whnf);repeat' ((first|refine odw ?_|refine nx ?_|refine AD (λ_=>?_) (λ_=>?_))<;>conv=>whnf))
  refine AR (ι:=Nat) (λi=>i<=S.length/\i<=T.length) (λi=>[(23,.d (.int .i64 i)),(18,.own 18),(16,.own 16)]) (λ_=>[(16,.cells 48 [.d (.int .i64 c.kind),.d (.list 3 (A.map D0)),.d (.list 1 (S.map Bn))]),(18,.cells 48 [.d (.int .i64 c.kind),.d (.list 3 (B.map D0)),.d (.list 1 (T.map Bn))])]) (λi=>S.length-i) 0 (λ_=>rfl) ⟨Am _,Am _⟩ (.refl _ _) ⟨rfl,rfl,rfl,trivial⟩ ⟨rfl,rfl,trivial⟩ ?_
  intro i hi
  refine Hf oO XT ?_
  by_cases hiS:i<S.length
  ·by_cases hiT:i<T.length
   ·have hx:=Ab hiS
    have hy:=Ab hiT
    have hxy:=hlaw.set i _ _ hx hy
    rw[<-hxy]at hy
    generalize S[i]=s at hx hy
    have hxd:(S.map Bn)[i]? =some (Bn s):=by rw[Ad,hx];rfl
    have hyd:(T.map Bn)[i]? =some (Bn s):=by rw[Ad,hy];rfl
    have hsi:=Pure.up3 (pT s s)
    rw[decide_eq_true rfl]at hsi
    (conv=>whnf)
    (repeat' ((first|refine Aj ?_ ?_|refine AP hxd rfl ?_|refine AP hyd rfl ?_|refine Af rfl hsi ?_|refine nx ?_|refine AD (λ_=>?_) (λ_=>?_)|exact AG)<;>conv=>whnf))
    exact⟨i+1,_,_,⟨hiS,hiT⟩,.refl _ _,⟨rfl,rfl,rfl,trivial⟩,⟨rfl,rfl,trivial⟩,by omega⟩
   ·(conv=>whnf)
    ((conv=>whnf);repeat' ((first|refine odw ?_|refine nx ?_|refine AD (λ_=>?_) (λ_=>?_))<;>conv=>whnf))
    exact rfl
  ·(conv=>whnf)
   ((conv=>whnf);repeat' ((first|refine odw ?_|refine nx ?_|refine AD (λ_=>?_) (λ_=>?_))<;>conv=>whnf))
   exact rfl
end Go.Proofs.YtjpmmkodoeipmaaGreatDoor
end
section
namespace Go.Reg
open Go Go.RowKit Go.Deep Go.WideShapes
section
variable {α H:Type}
theorem eQ {P:Program} {k:Nat} {enc:α->List Value} {e':TypeId×Value->H} {w:World} {base:Nat} {spare:Nat->Bool} {held:Bool} {t e:TypeId} {v:Value} {d:DataW H} {ps:List MemPlace}(Q:α->Prop)
  (ht:P.underlying t=some (.slice e)) (hc:P.cellsOf e=k) (hk:0<k) (he:∀x,(enc x).length=k)
  (hel:∀n cs y,DataW.trod e' P w base spare held n e cs=some y->∃x,cs=enc x/\Q x)
  (hsh:∃a n c,v=.slice a n c) (h:DataW.Trod e' P w base spare held t v d ps):∃l,EB k enc w v l/\∀x∈l,Q x:=by
 obtain⟨a0,len0,cap0,rfl⟩:=hsh
 obtain⟨fuel,hf⟩:=h
 rcases open_slice ht hf with⟨h1,_⟩|⟨a,len,cap,m,n,D,Pl,h1,hb,hl,hm,hmm,_,hx⟩
 ·simp[Value.cells]at h1
  obtain⟨rfl,rfl,rfl⟩:=h1
  exact⟨[],⟨none,0,rfl,by simp,λi x hi=>by simp at hi⟩,by simp⟩
 ·simp[Value.cells]at h1
  obtain⟨rfl,rfl,rfl⟩:=h1
  have hlm:len0<=m:=by rw[hmm];split<;>omega
  obtain⟨l,hll,hq⟩:=nM (Q:=λi x=>Q x/\w.cells? base (a.add (i*k)) k=some (enc x)) (n:=len0) (λi hi=>by
   obtain⟨cs',h1,h2⟩:=hx i (by omega)
   obtain⟨x,rfl,hQ⟩:=hel _ _ _ h2
   rw[hc]at h1
   exact⟨x,hQ,h1⟩)
  refine⟨l,⟨some a,cap0,by rw[hll],by omega,λi x hi=>?_⟩,λx hx=>?_⟩
  ·have h2:=(hq i x hi).2
   obtain⟨_,_,hcell⟩:=World.cells?_some h2
   have h0:=hcell 0 hk
   obtain⟨b,o,sp⟩:=a
   have hi0:0<l.length:=by have:=(Ae.1 hi).1;omega
   have hz:=(hq 0 l[0] (by simp[hi0])).2
   obtain⟨_,_,hcell0⟩:=World.cells?_some hz
   have hsp:sp=none:=by
    have h00:=hcell0 0 hk
    rw[Nat.zero_mul,add_add]at h00
    have hsome:(w.cell? ⟨b,o,sp⟩).isSome=true:=by
     simp only[Addr.add,Et,if_true]at h00
     rw[h00]
     simp[he,hk]
    cases sp with
    |none=>rfl
    |
     some s=>
     exfalso
     unfold World.cell? at hsome
     simp at hsome
     split at hsome<;>simp at hsome
   subst hsp
   refine⟨b,o,rfl,λj u hj=>?_⟩
   have hjk:j<k:=by have:=(Ae.1 hj).1;rw[he]at this;exact this
   have:=hcell j hjk
   rw[add_add,hj]at this
   by_cases hz:i*k+j=0
   ·rw[hz]at this
    simp only[Addr.add,if_true]at this
    rw[show o+i*k+j=o by omega]
    exact this
   ·simp only[Addr.add,hz,if_false]at this
    rw[show o+i*k+j=o+(i*k+j)by omega]
    exact this
  ·obtain⟨i,hi⟩:=SM hx
   exact(hq i x hi).1
theorem QN {P:Program} {e':TypeId×Value->H} {w:World} {base:Nat} {spare:Nat->Bool} {held:Bool} {t e:TypeId} {fuel:Nat} {cs:List Value} {y:DataW H×List MemPlace}(ht:P.underlying t=some (.slice e))(h:DataW.trod e' P w base spare held fuel t cs=some y):∃a n c,cs=[.slice a n c]/\n<=c/\c<=maxLen:=by
 rcases open_slice ht h with⟨h1,_⟩|⟨a,len,cap,m,k,D,Pl,h1,_,h2,h3,_,_,_⟩
 ·exact⟨none,0,0,h1,Ax _,by unfold maxLen;omega⟩
 ·exact⟨some a,len,cap,h1,h2,h3⟩
end
end Go.Reg
namespace Go.Proofs.YtjpmmkodoeipmaaGreatDoor
open Go.ChangeShapes Go.WideShapes Go.ChangeAt Go.RowKit Go.Reg Go.Gr Go.Sx Go.ChangeMaps
theorem own:ownKnob Tryz.prog.godebug=none:=by kernel_rfl
theorem Yo:laidOutB Tryz.prog=true:=by kernel_rfl
abbrev Qh:List (String×DataW Unit):=Rows.renderTurnedRow.laid
abbrev rY:List (String×DataW Unit):=[("math/bits.deBruijn32tab",Rows.laid_math_bits_deBruijn32tab),("math/bits.deBruijn64tab",Rows.laid_math_bits_deBruijn64tab),("internal/strconv.uint64pow10",Rows.laid_internal_strconv_uint64pow10)]
theorem jN {W:World}(h:laidMetH Tryz.prog Qh W):laidMet Tryz.prog rY W:=h
theorem oV {P:Program} {w:World} {name:String} {g:Nat} {cs:Array Value}(h:w.var? P name=some cs)(hg:P.globalNamed name=some g):∃t fr,w.heap[g]? =some (.cells cs t fr):=by
 unfold World.var? at h
 rw[hg,RR]at h
 cases hh:w.heap[g]? with
 |none=>rw[hh]at h;cases h
 |
  some o=>
  rw[hh]at h
  cases o with
  |cells cs' t fr=>simp only[AB]at h;subst h;exact⟨t,fr,rfl⟩
  |_=>cases h
theorem ABX {W:World} {g:Nat} {cs:Array Value} {t:TypeId} {fr:Nat×Nat} {d:Da}(h:W.heap[g]? =some (.cells cs t fr))(hr:Sx.RepC [] W d cs.toList)(hs:cs.size=Sx.gsz d):Sx.GRep [] W (g,d):=by
 refine⟨⟨[_],?_,rfl⟩,by simp,cs,t,fr,h,hs⟩
 simp only[Sx.RepC]
 refine⟨g,0,cs.toList,rfl,by simp,(Ak.1 h).1,hr,λj u hj=>?_⟩
 rw[uH h,DT]
 simpa using hj
theorem X3 {W:World}(h:laidMetH Tryz.prog Qh W):∃t fr,W.heap[0]? =some (.cells (Lib.pow10Tab.map λz=>Value.int .u64 z).toArray t fr):=by
 have h1:=laidMet.tail (laidMet.tail (jN h))
 have h2:laidMet Tryz.prog (("internal/strconv.uint64pow10",Lib.tabData .u64 Lib.pow10Tab)::[]) W:=h1
 have h3:=Lib.tabIs_of_head (g:=0) (by kernel_rfl) (t:=261) (e:=215) (n:=20) (by kernel_rfl) Tryz.underlying261 Tryz.underlying215 (by kernel_rfl) (by kernel_rfl) h2
 exact oV h3 (by kernel_rfl)
theorem bJ(O:List Nat)(W:World)(k:IntKind):∀l:List Int,Sx.RepCs O W (l.map (Da.int k)) (l.map λz=>Value.int k z)
 |[]=>by simp[Sx.RepCs]
 |
  x::l=>by
  simp only[Ar,Sx.RepCs,Sx.RepC]
  exact⟨[_],_,rfl,rfl,bJ O W k l⟩
theorem zN {W:World}(h:laidMetH Tryz.prog Qh W):Sx.Glob C3 [] W:=by
 obtain⟨t5,f5,e5⟩:=X3 h
 intro g hg
 rcases Ag.1 hg with hg|hg
 ·exact absurd hg (by simp[C1])
 ·rw[As.1 hg]
  exact ABX e5 (by simp only[Sx.RepC];exact bJ _ _ _ _) (by simp[Sx.gsz])
def eI:Sx.Enc Int:=⟨λn=>[.int .i64 n],dI,1,λ_=>rfl,λn u hu=>by simp at hu;rw[hu];rfl,λO w n=>by simp[dI,Sx.RepC]⟩
def eE:Sx.Enc Edg:=⟨λe=>[.int .i64 e.a,.int .i64 e.b],dE,2,λ_=>rfl,λn u hu=>by simp at hu;rcases hu with rfl|rfl<;>rfl,λO w n=>by simp[dE,Sx.RepC,Sx.RepCs]⟩
set_option maxRecDepth 100000 in
theorem ADW {H:Type} {e':TypeId×Value->H} {w:World} {base:Nat} {spare:Nat->Bool} {held:Bool}(n:Nat)(cs:List Value)(y:DataW H×List MemPlace)
  (h:DataW.trod e' Tryz.prog w base spare held n 3 cs=some y):∃x:Int,cs=eI.enc x/\True:=by
 obtain⟨m,h0,_⟩:=GB Tryz.underlying3 h
 exact⟨m,h0,trivial⟩
set_option maxRecDepth 100000 in
theorem ACc {H:Type} {e':TypeId×Value->H} {w:World} {base:Nat} {spare:Nat->Bool} {held:Bool}(n:Nat)(cs:List Value)(y:DataW H×List MemPlace)
  (h:DataW.trod e' Tryz.prog w base spare held n 66 cs=some y):∃x:Edg,cs=eE.enc x/\True:=by
 obtain⟨xs,k,_,_,hcl,hxl,hf⟩:=DataW.trod_struct Tryz.underlying66 h
 have cl:cs.length=2:=hcl.trans (by kernel_rfl)
 match cs,cl with
 |
  [c0,c1],_=>
  have hx4:xs.length=2:=hxl
  match xs,hx4 with
  |
   [y0,y1],_=>
   have k3:Tryz.prog.cellsOf 3=1:=by kernel_rfl
   have g0:=hf 0 _ rfl
   have g1:=hf 1 _ rfl
   simp[k3]at g0 g1
   obtain⟨n0,h0,_⟩:=GB Tryz.underlying3 g0
   obtain⟨n1,h1,_⟩:=GB Tryz.underlying3 g1
   simp at h0 h1
   subst h0;subst h1
   exact⟨⟨n0,n1⟩,rfl,trivial⟩
theorem wE {O:List Nat} {w:World} {v:Value} {b:Bool}(h:Sx.Rep O w (.bool b) v):v=.bool b:=by obtain⟨cs,r,rfl⟩:=h;simp only[Sx.RepC]at r;subst r;rfl
def eO:Sx.Enc Opp:=⟨λe=>[.int .i64 e.kind,.int .i64 e.n],dO,2,λ_=>rfl,λn u hu=>by simp at hu;rcases hu with rfl|rfl<;>rfl,λO w n=>by simp[dO,Sx.RepC,Sx.RepCs]⟩
set_option maxRecDepth 100000 in
theorem AE9 {H:Type} {e':TypeId×Value->H} {w:World} {base:Nat} {spare:Nat->Bool} {held:Bool}(n:Nat)(cs:List Value)(y:DataW H×List MemPlace)
  (h:DataW.trod e' Tryz.prog w base spare held n 69 cs=some y):∃x:Opp,cs=eO.enc x/\True:=by
 obtain⟨xs,k,_,_,hcl,hxl,hf⟩:=DataW.trod_struct Tryz.underlying69 h
 have cl:cs.length=2:=hcl.trans (by kernel_rfl)
 match cs,cl with
 |
  [c0,c1],_=>
  have hx4:xs.length=2:=hxl
  match xs,hx4 with
  |
   [y0,y1],_=>
   have k3:Tryz.prog.cellsOf 3=1:=by kernel_rfl
   have g0:=hf 0 _ rfl
   have g1:=hf 1 _ rfl
   simp[k3]at g0 g1
   obtain⟨n0,h0,_⟩:=GB Tryz.underlying3 g0
   obtain⟨n1,h1,_⟩:=GB Tryz.underlying3 g1
   simp at h0 h1
   subst h0;subst h1
   exact⟨⟨n0,n1⟩,rfl,trivial⟩
set_option maxRecDepth 100000 in
theorem qX {H:Type} {e':TypeId×Value->H} {w:World} {held:Bool} {spare:Nat->Bool} {r:Reach} {b0:Nat} {v:Value} {d:DataW H} {ps:List MemPlace}(hval:Value.okWide Tryz.prog w r b0 26 v)(h:DataW.Trod e' Tryz.prog w 0 spare held 26 v d ps):∃c:Cnf,Sx.Rep [] w (He c) v:=by
 obtain⟨cs,rfl,hsz⟩:=okWide_struct Tryz.underlying26 hval
 obtain⟨fuel,hf⟩:=h
 obtain⟨xs,k,_,_,hcl,hxl,hfl⟩:=DataW.trod_struct Tryz.underlying26 hf
 have hcs:(Value.agg cs).cells.toList=cs.toList:=rfl
 rw[hcs]at hcl hfl
 have cl:cs.toList.length=6:=hcl.trans (by kernel_rfl)
 match hl:cs.toList,cl with
 |
  [c0,c1,c2,c3,c4,c5],_=>
  rw[hl]at hfl
  have hx6:xs.length=6:=hxl
  match xs,hx6 with
  |
   [y0,y1,y2,y3,y4,y5],_=>
   have k3:Tryz.prog.cellsOf 3=1:=by kernel_rfl
   have k1:Tryz.prog.cellsOf 24=1:=by kernel_rfl
   have g0:=hfl 0 _ rfl
   have g1:=hfl 1 _ rfl
   have g2:=hfl 2 _ rfl
   have g3:=hfl 3 _ rfl
   have g4:=hfl 4 _ rfl
   have g5:=hfl 5 _ rfl
   simp[k1,k3]at g0 g1 g2 g3 g4 g5
   obtain⟨n0,h0,_⟩:=GB Tryz.underlying3 g0
   obtain⟨n1,h1,_⟩:=GB Tryz.underlying3 g1
   obtain⟨n2,h2,_⟩:=GB Tryz.underlying3 g2
   obtain⟨n3,h3,_⟩:=GB Tryz.underlying3 g3
   obtain⟨n4,h4,_⟩:=GB Tryz.underlying3 g4
   obtain⟨a5,n5,m5,e5,h50,h51⟩:=QN Tryz.underlying24 g5
   simp only[D2,and_true]at h0 h1 h2 h3 h4 e5
   subst h0 h1 h2 h3 h4 e5
   obtain⟨l,r5,_⟩:=eQ (enc:=eO.enc) (λ_=>True) Tryz.underlying24 (k:=2) (by kernel_rfl) (by decide) (λ_=>rfl) AE9 ⟨_,_,_,rfl⟩ (⟨k,g5⟩:DataW.Trod e' Tryz.prog w 0 spare held 24 (.slice a5 n5 m5) y5.1 y5.2)
   obtain⟨s5,p5,q5⟩:=eO.rep_arg (by decide) r5 (λa n c e=>by cases e;exact⟨h50,h51⟩)
   refine⟨⟨n0,n1,n2,n3,n4,l⟩,[.int .i64 n0,.int .i64 n1,.int .i64 n2,.int .i64 n3,.int .i64 n4,.slice a5 n5 m5],?_,?_⟩
   ·simp only[He,Sx.RepC,Sx.RepCs]
    have z5:s5=[.slice a5 n5 m5]:=by
     have p5':=p5
     simp only[Sx.RepC]at p5'
     obtain⟨_,_,_,rfl,_⟩:=p5'
     rw[q5];rfl
    subst z5
    exact⟨_,_,rfl,rfl,_,_,rfl,rfl,_,_,rfl,rfl,_,_,rfl,rfl,_,_,rfl,rfl,_,_,rfl,p5,rfl⟩
   ·show Value.agg cs=.agg _
    congr 1
    apply Array.toList_inj.1
    rw[hl]
def fP:DataW Unit->Array Value
 |.agg ds=>(ds.map λ|.lit (.int k n)=>Value.int k n|_=>undef).toArray
 |_=>#[]
def TM(cs:Array Value):Obj->Obj
 |.cells _ t frozen=>.cells cs t frozen
 |o=>o
noncomputable def Rw(os:Os):World:=
 let w0:=World.holding Tryz.prog os ⟨#[],#[],[]⟩
 {w0 with heap:=((w0.heap.modify 0 (TM (fP Rows.laid_internal_strconv_uint64pow10))).modify 2 (TM (fP Rows.laid_math_bits_deBruijn32tab))).modify 3 (TM (fP Rows.laid_math_bits_deBruijn64tab))}
theorem VM(os:Os)(args:Array Value):laidMetH Tryz.prog Qh ((Rw os).forCall (λ_ _=>0) ⟨#[],args,[]⟩).memory:=
 laidMetH_of_parts (laidMet_of_run' 8 (by kernel_rfl) (by kernel_rfl)) (by kernel_rfl)
end Go.Proofs.YtjpmmkodoeipmaaGreatDoor
end
section
namespace Go.Proofs.YtjpmmkodoeipmaaGreatDoor
open Go.ChangeShapes Go.WideShapes Go.ChangeAt Go.RowKit Go.Reg Go.Gr Go.ChangeMaps
set_option maxRecDepth 100000 in
theorem N9(H:Type)(enc:TypeId×Value->H)(W:World)(base:Nat)(args:Array Value)(ds gs:List (DataW H))(before:List MemPlace)
  (hval:∀(j:Nat) t v,Tryz.f3.params[j]? =some t->args[j]? =some v->Value.okWide Tryz.prog W .any base t v)
  (hW:DataW.Whole enc Tryz.prog Tryz.f3.params.toList Rows.renderKeepsSpec.vars false W args.toList ds gs before) (hsz0:(DataW.weightsEach Tryz.prog (Tryz.f3.params.toList++(OpenSpec.ofChange Rows.renderKeepsSpec).bare.plain.varTypes Tryz.prog) (ds++gs)).all (· <=reachBytes)=true) (hL:laidMetH Tryz.prog Rows.renderKeepsRow.laid W) (_hsh:W.ShapedOpen Tryz.prog):
  Calls Tryz.prog 3 args W λe W'=>∃v,e=.returned v/\Rows.renderKeepsSpec.post enc Tryz.prog Tryz.f3 false true false false W args v W':=by
 have hsz:=hsz0
 clear hsz0
 have hW':=hW
 obtain⟨p,q,hA0,hV,rfl,hfz,hnd⟩:=hW
 have hA:DataW.TrodAll enc Tryz.prog W 0 (λ_=>true) true Tryz.f3.params.toList args.toList ds p:=hA0
 rw[Tryz.params3]at hA hval hsz
 obtain⟨v0,v1,v2,d0,d1,d2,p0,p1,p2,rfl,rfl,rfl,h0,h1,h2⟩:=trodAll_three hA
 obtain⟨rfl,rfl⟩:=trodVars_none hV
 have c0:=Sx.cap_of Tryz.underlying22 (hval 0 _ _ rfl rfl) h0
 obtain⟨x0,a0,_⟩:=eT (enc:=eI.enc) (λ_=>True) Tryz.underlying22 (k:=1) (by kernel_rfl) (by decide) (λ_=>rfl) ADW (hval 0 _ _ rfl rfl) h0
 have c1:=Sx.cap_of Tryz.underlying23 (hval 1 _ _ rfl rfl) h1
 obtain⟨x1,a1,_⟩:=eT (enc:=eE.enc) (λ_=>True) Tryz.underlying23 (k:=2) (by kernel_rfl) (by decide) (λ_=>rfl) ACc (hval 1 _ _ rfl rfl) h1
 obtain⟨x2,r2⟩:=qX (hval 2 _ _ rfl rfl) h2
 have hg:=zN (show laidMetH Tryz.prog Qh W from hL)
 have l0:∀x∈p0,x.block<W.heap.size:=λx hx=>by have:=hW'.lt x (by simp[hx]);simpa using this
 have l1:∀x∈p1,x.block<W.heap.size:=λx hx=>by have:=hW'.lt x (by simp[hx]);simpa using this
 have l2:∀x∈p2,x.block<W.heap.size:=λx hx=>by have:=hW'.lt x (by simp[hx]);simpa using this
 refine((Z9 x0 x1 x2).calls hg (Sx.reps_cons (eI.rep_arg (by decide) a0 c0) (Sx.reps_cons (eE.rep_arg (by decide) a1 c1) (Sx.reps_cons r2 Sx.reps_nil)))).mono λe W' ⟨u,y,he,hy,hr,ht⟩=>?_
 subst hy
 obtain rfl:=wE hr
 subst he
 refine⟨_,rfl,_,_,_,[],p0++(p1++p2),[],hW',?_,?_,?_,?_,λh=>by cases h⟩
 ·exact trodAll_mk1 (shut_bool Tryz.underlying4 true)
 ·exact trodAll_mk3 (Below.trod Yo (by kernel_rfl) (of_decide_eq_true (by kernel_rfl)) h0 ht.below l0) (Below.trod Yo (by kernel_rfl) (of_decide_eq_true (by kernel_rfl)) h1 ht.below l1) (Below.trod Yo (by kernel_rfl) (of_decide_eq_true (by kernel_rfl)) h2 ht.below l2)
 ·rfl
 ·refine⟨ht.os,ht.output,λi hi=>?_⟩
  rw[ht.blk i hi (by simp)]
  have hsome:∃o,W.heap[i]? =some o:=⟨_,BS hi⟩
  obtain⟨o,ho⟩:=hsome
  rw[ho]
  cases o<;>simp
theorem Re(os:Os) {H:Type}(enc:TypeId×Value->H):∃places,DataW.whole enc Tryz.prog ((Rw os).forCall (λ_ _=>0) ⟨#[],#[.slice none 0 0,.slice none 0 0,.agg #[.int .i64 0,.int .i64 0,.int .i64 0,.int .i64 0,.int .i64 0,.slice none 0 0]],[]⟩).memory Tryz.f3.params.toList Rows.renderKeepsSpec.vars false #[.slice none 0 0,.slice none 0 0,.agg #[.int .i64 0,.int .i64 0,.int .i64 0,.int .i64 0,.int .i64 0,.slice none 0 0]].toList 8=some ([.nil,.nil,.agg [.lit (.int .i64 0),.lit (.int .i64 0),.lit (.int .i64 0),.lit (.int .i64 0),.lit (.int .i64 0),.nil]],[],places):=
 ⟨[],by kernel_rfl⟩
set_option maxRecDepth 100000 in
theorem Qf(os:Os)(started:os.Started)(H:Type)(enc:TypeId×Value->H)(F:Stop.Interp):
  ReturnsInHanded {} Tryz.checked os 3 .any ((OpenSpec.ofChange Rows.renderKeepsSpec).preRow enc Tryz.prog Tryz.f3 Rows.renderKeepsRow.domain false Rows.renderKeepsRow.laid) (((OpenSpec.ofChange Rows.renderKeepsSpec).at F).post enc Tryz.prog Tryz.f3 false true false false):=by
 obtain⟨places,hx⟩:=Re os enc
 refine returnsInHanded_of_row (C:=Tryz.checked) (s:=OpenSpec.ofChange Rows.renderKeepsSpec) own started (by kernel_rfl) Tryz.func3
  (witness_row_at (enc:=enc) (C:=Tryz.checked) false (Rw os) #[.slice none 0 0,.slice none 0 0,.agg #[.int .i64 0,.int .i64 0,.int .i64 0,.int .i64 0,.int .i64 0,.slice none 0 0]] rfl (by kernel_rfl) (by kernel_rfl) (by kernel_rfl)
   (OpenSpec.preRow_of_cond 8 hx (by kernel_rfl) (λk hk=>by cases hk) (by kernel_rfl) (VM os _))) ?_
 intro W base args ds gs before hval hW _ _ hsz hL hsh _
 exact N9 H enc W base args ds gs before hval hW hsz hL hsh
end Go.Proofs.YtjpmmkodoeipmaaGreatDoor
end
section
namespace Go.Proofs.YtjpmmkodoeipmaaGreatDoor
open Go.ChangeShapes Go.WideShapes Go.ChangeAt
theorem Pf:(Rows.renderKeepsRow.wf (OpenSpec.ofChange (OpenSpec.ofChange Rows.renderKeepsSpec).bare))=true:=by kernel_rfl
theorem Pe:(laidOutB Tryz.pinned.checked.prog)=true:=by kernel_rfl
theorem Pd:(mapsRowed Tryz.pinned.checked.prog)=true:=by kernel_rfl
theorem Pc:(Tryz.f3.params.all (Tryz.pinned.checked.prog.readableRec ·))=true:=by kernel_rfl
theorem Pb:(namedTie Tryz.pinned.checked.prog Rows.renderKeepsRow.named (OpenSpec.ofChange Rows.renderKeepsSpec).bare.vars)=true:=by kernel_rfl
theorem OZ:((Rows.renderKeepsRow.stops==[]))=true:=by kernel_rfl
theorem OY:((Tryz.pinned.checked.prog.stops==[]))=true:=by kernel_rfl
theorem OX:((Rows.renderKeepsRow.knobs==[]))=true:=by kernel_rfl
theorem OW:((Tryz.pinned.checked.prog.stopKnobs==[]))=true:=by kernel_rfl
theorem OV:((Rows.renderKeepsRow.inPlace==Tryz.pinned.checked.prog.inPlace 3))=true:=by kernel_rfl
theorem NV:((Rows.renderKeepsRow.unfollowed==Tryz.pinned.checked.prog.unfollowed 3))=true:=by kernel_rfl
theorem NU:((Rows.renderKeepsRow.recurses==Tryz.pinned.checked.prog.recurses 3))=true:=by kernel_rfl
theorem NT:((Rows.renderKeepsRow.named==Tryz.pinned.checked.prog.varsNamed 3))=true:=by kernel_rfl
theorem NS:((Rows.renderKeepsRow.maps==(Tryz.f3.params.toList++(OpenSpec.ofChange Rows.renderKeepsSpec).bare.plain.varTypes Tryz.pinned.checked.prog).any (Tryz.pinned.checked.prog.mapsRec ·)))=true:=by kernel_rfl
theorem NR:((Rows.renderKeepsRow.ifaces==(Tryz.f3.params.toList++(OpenSpec.ofChange Rows.renderKeepsSpec).bare.plain.varTypes Tryz.pinned.checked.prog).any (Tryz.pinned.checked.prog.ifacesRec ·)))=true:=by kernel_rfl
theorem NQ:((Rows.renderKeepsRow.mapsOut==Tryz.pinned.checked.prog.mapsAmong Tryz.f3.resultTypes.toList))=true:=by kernel_rfl
theorem NP:((Rows.renderKeepsRow.loops==(Tryz.f3.params.toList++(OpenSpec.ofChange Rows.renderKeepsSpec).bare.plain.varTypes Tryz.pinned.checked.prog).any (Tryz.pinned.checked.prog.loopsFrom ·)))=true:=by kernel_rfl
theorem NO:((Rows.renderKeepsRow.wideKeys==(Tryz.f3.params.toList++(OpenSpec.ofChange Rows.renderKeepsSpec).bare.plain.varTypes Tryz.pinned.checked.prog++Tryz.f3.resultTypes.toList).any (Tryz.pinned.checked.prog.wideKeysFrom ·)))=true:=by kernel_rfl
theorem NN:((OpenSpec.ofChange Rows.renderKeepsSpec).bare.vars.all (Tryz.pinned.checked.prog.varReadable ·))=true:=by kernel_rfl
theorem NM:(Tryz.f3.resultTypes.all (λt=>Tryz.pinned.checked.prog.readableRec t&&decide (t<Tryz.pinned.checked.prog.types.size)))=true:=by kernel_rfl
theorem NL:((Rows.renderKeepsRow.ifacesOut==Tryz.f3.resultTypes.toList.any (Tryz.pinned.checked.prog.ifacesRec ·)))=true:=by kernel_rfl
theorem NK:((Rows.renderKeepsRow.loopsOut==Tryz.f3.resultTypes.toList.any (Tryz.pinned.checked.prog.loopsFrom ·)))=true:=by kernel_rfl
theorem NJ:((Rows.renderKeepsRow.plainKeys==Tryz.pinned.checked.prog.plainKeys))=true:=by kernel_rfl
theorem NI:(Rows.renderKeepsRow.shortTexts.isNone)=true:=by kernel_rfl
theorem NH:(Tryz.pinned.checked.prog.stopsHeard)=true:=by kernel_rfl
theorem NG:(Tryz.pinned.checked.prog.mayEnter)=true:=by kernel_rfl
theorem NF:((Rows.renderKeepsRow.lifted==Tryz.pinned.checked.prog.liftsFinal))=true:=by kernel_rfl
theorem ND:((Tryz.pinned.checked.prog.make==some Rows.renderKeepsRow.make))=true:=by kernel_rfl
theorem NC:((Rows.renderKeepsRow.pinned==Rows.renderKeepsRow.pinnedBy))=true:=by kernel_rfl
theorem NB:((Rows.renderKeepsRow.veiled==(Tryz.f3.params.toList++(OpenSpec.ofChange Rows.renderKeepsSpec).bare.plain.varTypes Tryz.pinned.checked.prog++Tryz.f3.resultTypes.toList).any (Tryz.pinned.checked.prog.veiledRec ·)))=true:=by kernel_rfl
theorem NA:(Rows.renderKeepsRow.veiledFits Tryz.pinned.checked.prog Tryz.f3.params.toList (Tryz.f3.params.toList++(OpenSpec.ofChange Rows.renderKeepsSpec).bare.plain.varTypes Tryz.pinned.checked.prog++Tryz.f3.resultTypes.toList))=true:=by kernel_rfl
theorem Q3:joinedFacts Tryz.pinned.checked.prog 3 Tryz.f3 (OpenSpec.ofChange Rows.renderKeepsSpec).bare Rows.renderKeepsRow=true:=by
 unfold joinedFacts
 rw[Pf,Pe,Pd,Pc,Pb,OZ,OY,OX,OW,OV,NV,NU,NT,NS,NR,NQ,NP,NO,NN,NM,NL,NK,NJ,NI,NH,NG,NF,ND,NC,NB,NA]
 simp only[Bool.true_and,Bool.and_true]
 kernel_rfl
end Go.Proofs.YtjpmmkodoeipmaaGreatDoor
end
