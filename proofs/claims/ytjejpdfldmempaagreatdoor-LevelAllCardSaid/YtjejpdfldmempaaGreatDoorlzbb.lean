/- Merged: Lal Lcb Lck. -/
import Derived.Test.YtjejpdfldmempaaGreatDoorlzba
import Derived.Test.YtjejpdfldmempaaGreatDoorlzav
import Derived.Test.YtjejpdfldmempaaGreatDoorRows
import Derived.JoinedCond
section
namespace Go.Proofs.YtjejpdfldmempaaGreatDoor
open Go.Sx Go.RowKit Go.Reg Go.Gr
set_option maxRecDepth 100000
section
variable {G:Gr} {e:Bool} {d:Int} {l:List Opp}
theorem nX(h:JobOk G e d l) {k:Nat} {X:List Int}(hX:X∈Bx (BQ G e) (II G e l) k):X≠[]/\X.length=k+1/\BW (BQ G e) X=true/\(WU G e X).length<=8:=by
 have hok:=GI h.ok (by have:=h.n;omega) h.m e
 obtain⟨h1,h2,h3⟩:=(El hok k).1 hX
 have hl:=EW hok h1
 unfold Ka at h3
 have hp:=BY.1 h3 (X.length-1) (AJ.2 (by omega))
 rw[show X.length-1+1=X.length by omega,De]at hp
 rw[iF h hl,Ai,decide_eq_true_eq]at hp
 exact⟨λe=>by rw[e]at h2;simp at h2,h2,hl,hp.1⟩
theorem RY {p:Pt}(h:FI p=none):NU p:=HY h
end
def Pd:List (Nat×Plan):=[(23,.leaf [1,0,0,0,1,3,0,0,0,0,0] [1,2,3,0,4,5,6,7,8,9,10] [0,0,0,6,14,31,63,127,127,255,1023]),
 (24,.leaf [0,0,0,0,0,0,1,0,0,0,1,2,0,0,0,0,1,0,0,0,1,2,3,0,0] [0,1,2,3,4,5,7,8,9,6,10,11,12,13,14,15,17,18,19,16,20,21,22,23,24] [0,1,3,7,7,31,63,7,7,391,903,2047,4095,8191,16383,32767,32767,32767,32767,425983,950271,2064383,4194303,8388607,16777215])]
def Ua:List FuncId:=[30,44]
set_option maxHeartbeats 8000000 in
theorem cV(labels:List Int)(edges:List Edg)(e:Bool)(d:Int)(p:List Opp)(most:Int):Pure C3 7 [AS labels,D0 edges,.bool e,.int .i64 d,Ja p,.int .i64 most] (λy=>y=.bool true):=by
 have hal:=Pure.up3 TR
 have hmd:=Pure.up3 (Ya labels edges e d p)
 refine qK Tryz.func7 Tryz.ntmps7 Ua Pd ?_
 (conv=>whnf)
 (repeat' ((first|refine Af ?_ ?_|refine Ad rfl hal ?_|refine nx ?_|refine Aw (λ_=>?_) (λ_=>?_)|exact A0)<;>conv=>whnf))
 refine AI rfl hmd ?_
 rintro y (rfl|⟨G,rfl,hJ⟩)
 ·((conv=>whnf);repeat' ((first|refine odw ?_|refine nx ?_|refine Aw (λ_=>?_) (λ_=>?_))<;>conv=>whnf))
  exact rfl
 have h1:=hJ.d.1
 have h2:=hJ.d.2
 have hok:=GI hJ.ok (by have:=hJ.n;omega) hJ.m e
 have hsm:=Kn hJ
 have hal:=Pure.up3 (WC hJ most)
 have hlev:=λk (hk:k<=500)=>Pure.up3 (Ru hJ k hk)
 have hrp:=λk X=>nX hJ (k:=k) (X:=X)
 have hpe:∀k X,X∈Bx (BQ G e) (II G e p) k->FI (Lh G e X)=none:=λk X hX=>Qa hJ (hrp k X hX).2.2.1 (hrp k X hX).2.2.2
 have htb:∀k,k<=500->(Bx (BQ G e) (II G e p) k).length<=256->_:=λk hk hl=>cP (G:=G) (e:=e) (d:=d) (l:=p) (Bx (BQ G e) (II G e p) k) (Lh G e) (by omega) (λX hX=>⟨hpe k X hX,WU G e X,by
  have:=KO hJ X (hrp k X hX).1 (by have:=(hrp k X hX).2.1;omega)
  rw[jF hJ (hrp k X hX).2.2.1 (hrp k X hX).2.2.2]at this
  exact this⟩)
 have hrt:∀k,k<=500->(Bx (BQ G e) (II G e p) k).length<=256->_:=λk hk hl=>Pure.up3 (Rs (G:=G) (e:=e) (d:=d) (l:=p) (Bx (BQ G e) (II G e p) k) (Lh G e) (by omega) (λX hX=>⟨RY (hpe k X hX),WU G e X,_,Oj hJ X (by have:=(hrp k X hX).2.1;omega) (hrp k X hX).2.2.1⟩))
 have hsp:∀k,∀x∈H9 ((Bx (BQ G e) (II G e p) k).map (Lh G e)),NU x.1:=λk x hx=>by
  obtain⟨X,hX,e1⟩:=Ar.1 ((Ki _).2.2.2.1 x hx)
  rw[<-e1]
  exact RY (hpe k X hX)
 obtain⟨D,rfl⟩:=Ax (show 0<=d by omega)
 rw[AV]at hal
 clear hJ hpe hrp
 generalize BQ G e=w at*
 generalize II G e p=ps at*
 have hrl:∀k,(Bx w ps k).length<=256:=λk=>BE (LO hok ps k) (BE (HK (by decide) hsm) (by decide))
 have hfew:∀m,m<=8->F4 w ps m<=2048:=λm hm=>Ur hok ps hsm hm
 unfold WD at hal
 by_cases hbig:(F4 w ps D:Int)<=max most 0
 ·rw[if_pos hbig]at hal
  have hRm:((CZ w ps D).map Fy).length=(CZ w ps D).length:=Ab _
  have hRl:=gU w ps D
  have hRg:∀n,n<(CZ w ps D).length->(CZ w ps D)[n]? =some (Bx w ps n):=λn hn=>gV hn
  (conv=>whnf)
  (repeat' ((first|refine Af ?_ ?_|refine Ad rfl hal ?_|refine nx ?_|refine Aw (λ_=>?_) (λ_=>?_)|exact A0)<;>conv=>whnf))
  apply lH (ι:=Unit) C3 _ (λ_=>True) (λ_=>[(22,.d (.int .i64 0)),(19,.d (.list 1 ((CZ w ps D).map Fy))),(16,.d (.list 1 ((CZ w ps D).map Fy))),(14,.own 14),(13,.own 13)]) (λ_=>[(13,.cells 58 [.d (dG G),.d (.bool e),.d (.int .i64 (D:Int)),.d (Ja p)]),(14,.cells 61 [.d (dM G.labels G.edges),.d (.bool e),.d (.int .i64 (D:Int)),.d (Ja p)])])
  ·intro mid
   refine AC (ι:=Nat) (λk=>k<=D/\∀j,j<k->Bx w ps j≠[]) (λk=>[(20,.d (.int .i64 ((k:Int)+1))),(19,.own 300),(18,.d (.int .i64 (F4 w ps k:Nat))),(17,.d .nili),(16,.d (.list 1 ((CZ w ps D).map Fy))),(14,.own 14),(13,.own 13),(5,.d (.int .i64 most)),(3,.d (.int .i64 (D:Int)))]) (λk=>[(13,.cells 58 [.d (dG G),.d (.bool e),.d (.int .i64 (D:Int)),.d (Ja p)]),(14,.cells 61 [.d (dM G.labels G.edges),.d (.bool e),.d (.int .i64 (D:Int)),.d (Ja p)]),(300,.slice 70 1 (((List.range k).map (Bx w ps)).map Fy))]) (λk=>D-k) 0 (λ_=>rfl) ⟨Aj _,λj hj=>absurd hj (Ev _)⟩ (.own 19 300 70 1 rfl rfl (.refl _ _)) ⟨rfl,rfl,rfl,rfl,rfl,rfl,rfl,rfl,rfl,trivial⟩ ⟨rfl,rfl,rfl,trivial⟩ ?_
   rintro k ⟨hkD,hne⟩
   refine OA Ua Pd ?_
   have hdl:((Bx w ps k).map AS).length=(Bx w ps k).length:=Ab _
   have hst:=FV w ps k
   have hOl:(((List.range k).map (Bx w ps)).map Fy).length=k:=by rw[Ab,Ab,Bv]
   have hrg:(List.range k).length=k:=Bv
   have hO1:((List.range (k+1)).map (Bx w ps)).map Fy=((List.range k).map (Bx w ps)).map Fy++[Fy (Bx w ps k)]:=by rw[BN,Ay,Ay];rfl
   by_cases hlt:k<D
   ·have hk8:=hfew (k+1) (by omega)
    have hlv:=hlev k (by omega)
    rw[Int.natCast_add,Int.natCast_one]at hlv
    by_cases hR:Bx w ps k=[]
    ·have es:=MM hR (D:=D) (by omega)
     have eR:(List.range k).map (Bx w ps)=CZ w ps D:=by rw[ID hR (d:=D) (by omega),DK hne]
     have e0:((Bx w ps k).map AS).length=0:=by rw[hR];rfl
     have eL:(CZ w ps D).length=k:=by rw[<-eR,Ab,Bv]
     (conv=>whnf)
     (repeat' ((first|refine Af ?_ ?_|refine Ad rfl hlv ?_|refine nx ?_|refine Aw (λ_=>?_) (λ_=>?_)|exact A0)<;>conv=>whnf))
     all_goals
      refine ZC (fD.lo (.frz 300 rfl (.refl _ _))) ?_ ?_ ?_ (mid () trivial)
      ·exact⟨rfl,by rw[eR];rfl,rfl,rfl,rfl,trivial⟩
      ·exact⟨rfl,rfl,trivial⟩
      ·exact rfl
    ·have e0:(Bx w ps k).length≠0:=λh=>hR (AF h)
     (conv=>whnf)
     (repeat' ((first|refine Af ?_ ?_|refine Ad rfl hlv ?_|refine nx ?_|refine Aw (λ_=>?_) (λ_=>?_)|exact A0)<;>conv=>whnf))
     exact⟨k+1,_,_,⟨hlt,λj hj=>by
      rcases AP j k with h|h
      ·exact hne j h
      ·rw[show j=k by omega];exact hR⟩,.refl _ _,⟨congrArg (λx=>Dat.d (.int .i64 x)) (by omega),rfl,congrArg (λx=>Dat.d (.int .i64 x)) (by omega),rfl,rfl,rfl,rfl,rfl,rfl,trivial⟩,⟨rfl,rfl,AO hO1.symm,trivial⟩,by omega⟩
   ·have hkk:k=D:=by omega
    subst hkk
    have es:F4 w ps k=F4 w ps k:=rfl
    have eR:(List.range k).map (Bx w ps)=CZ w ps k:=(DK hne).symm
    have eL:(CZ w ps k).length=k:=by rw[<-eR,Ab,Bv]
    (conv=>whnf)
    ((conv=>whnf);repeat' ((first|refine odw ?_|refine nx ?_|refine Aw (λ_=>?_) (λ_=>?_))<;>conv=>whnf))
    all_goals
     refine ZC (fD.lo (.frz 300 rfl (.refl _ _))) ?_ ?_ ?_ (mid () trivial)
     ·exact⟨rfl,by rw[eR];rfl,rfl,rfl,rfl,trivial⟩
     ·exact⟨rfl,rfl,trivial⟩
     ·exact rfl
  ·intro _ _
   refine AC (ι:=Nat) (λi=>i<=(CZ w ps D).length) (λi=>[(22,.d (.int .i64 i)),(19,.d (.list 1 ((CZ w ps D).map Fy))),(16,.d (.list 1 ((CZ w ps D).map Fy))),(14,.own 14),(13,.own 13)]) (λ_=>[(13,.cells 58 [.d (dG G),.d (.bool e),.d (.int .i64 (D:Int)),.d (Ja p)]),(14,.cells 61 [.d (dM G.labels G.edges),.d (.bool e),.d (.int .i64 (D:Int)),.d (Ja p)])]) (λi=>(CZ w ps D).length-i) 0 (λ_=>rfl) (Aj _) (.refl _ _) ⟨rfl,rfl,rfl,rfl,rfl,trivial⟩ ⟨rfl,rfl,trivial⟩ ?_
   intro i hi
   refine OA Ua Pd ?_
   by_cases hil:i<(CZ w ps D).length
   ·have hgd:((CZ w ps D).map Fy)[i]? =some (.list 1 ((Bx w ps i).map AS)):=by rw[Ac,hRg i hil];rfl
    have hP256:=hrl i
    have htt:=htb i (by omega) hP256
    have hr18:=hrt i (by omega) hP256
    have hss:=Pure.up3 (XY (Bx w ps i) (by omega))
    have hsi:=hsp i
    have hti:=(Ki ((Bx w ps i).map (Lh G e))).2.2.1
    rw[Ab]at hti
    (conv=>whnf)
    (repeat' ((first|refine Af ?_ ?_|refine A1 hgd rfl ?_|refine nx ?_|refine Aw (λ_=>?_) (λ_=>?_)|exact A0)<;>conv=>whnf))
    refine SI [] [] htt (λd σ h=>h) rfl rfl rfl rfl rfl rfl (λ_=>rfl) ?_
    rintro⟨m,X⟩ hT
    have hs16:=aQ X hT (by omega) hsi
    (conv=>whnf)
    (repeat' ((first|refine Af ?_ ?_|refine A1 hgd rfl ?_|refine Ad rfl hss ?_|refine Ad rfl hr18 ?_|refine nx ?_|refine Aw (λ_=>?_) (λ_=>?_)|exact A0)<;>conv=>whnf))
    refine QZ [] [900,901] hs16 rfl rfl rfl rfl rfl rfl rfl ?_
    ((conv=>whnf);repeat' ((first|refine odw ?_|refine nx ?_|refine Aw (λ_=>?_) (λ_=>?_))<;>conv=>whnf))
    exact⟨i+1,_,_,hil,.refl _ _,⟨rfl,rfl,rfl,rfl,rfl,trivial⟩,⟨rfl,rfl,trivial⟩,by omega⟩
   ·((conv=>whnf);repeat' ((first|refine odw ?_|refine nx ?_|refine Aw (λ_=>?_) (λ_=>?_))<;>conv=>whnf))
    exact rfl
 ·rw[if_neg hbig]at hal
  have hcd:=Pure.up3 (SF 13 0 T3)
  (conv=>whnf)
  (repeat' ((first|refine Af ?_ ?_|refine Ad rfl hal ?_|refine nx ?_|refine Aw (λ_=>?_) (λ_=>?_)|exact A0)<;>conv=>whnf))
  refine AC (ι:=Nat) (λk=>k<=D/\∀j,j<k->Bx w ps j≠[]) (λk=>[(20,.d (.int .i64 ((k:Int)+1))),(19,.own 300),(18,.d (.int .i64 (F4 w ps k:Nat))),(17,.d (dF 13 0 T3)),(16,.d .nils),(14,.own 14),(13,.own 13),(5,.d (.int .i64 most)),(3,.d (.int .i64 (D:Int)))]) (λk=>[(13,.cells 58 [.d (dG G),.d (.bool e),.d (.int .i64 (D:Int)),.d (Ja p)]),(14,.cells 61 [.d (dM G.labels G.edges),.d (.bool e),.d (.int .i64 (D:Int)),.d (Ja p)]),(300,.slice 70 1 (((List.range k).map (Bx w ps)).map Fy))]) (λk=>D-k) 0 (λ_=>rfl) ⟨Aj _,λj hj=>absurd hj (Ev _)⟩ (.own 19 300 70 1 rfl rfl (.refl _ _)) ⟨rfl,rfl,rfl,rfl,rfl,rfl,rfl,rfl,rfl,trivial⟩ ⟨rfl,rfl,rfl,trivial⟩ ?_
  rintro k ⟨hkD,hne⟩
  refine OA Ua Pd ?_
  have hdl:((Bx w ps k).map AS).length=(Bx w ps k).length:=Ab _
  have hst:=FV w ps k
  have hOl:(((List.range k).map (Bx w ps)).map Fy).length=k:=by rw[Ab,Ab,Bv]
  have hrg:(List.range k).length=k:=Bv
  have hO1:((List.range (k+1)).map (Bx w ps)).map Fy=((List.range k).map (Bx w ps)).map Fy++[Fy (Bx w ps k)]:=by rw[BN,Ay,Ay];rfl
  by_cases hlt:k<D
  ·have hk8:=hfew (k+1) (by omega)
   have hlv:=hlev k (by omega)
   rw[Int.natCast_add,Int.natCast_one]at hlv
   by_cases hR:Bx w ps k=[]
   ·have es:=MM hR (D:=D) (by omega)
    have eR:(List.range k).map (Bx w ps)=CZ w ps D:=by rw[ID hR (d:=D) (by omega),DK hne]
    have e0:((Bx w ps k).map AS).length=0:=by rw[hR];rfl
    have eL:(CZ w ps D).length=k:=by rw[<-eR,Ab,Bv]
    (conv=>whnf)
    (repeat' ((first|refine Af ?_ ?_|refine Ad rfl hlv ?_|refine Ad rfl hcd ?_|refine nx ?_|refine Aw (λ_=>?_) (λ_=>?_)|exact A0)<;>conv=>whnf))
    exact rfl
   ·have e0:(Bx w ps k).length≠0:=λh=>hR (AF h)
    (conv=>whnf)
    (repeat' ((first|refine Af ?_ ?_|refine Ad rfl hlv ?_|refine nx ?_|refine Aw (λ_=>?_) (λ_=>?_)|exact A0)<;>conv=>whnf))
    exact⟨k+1,_,_,⟨hlt,λj hj=>by
     rcases AP j k with h|h
     ·exact hne j h
     ·rw[show j=k by omega];exact hR⟩,.refl _ _,⟨congrArg (λx=>Dat.d (.int .i64 x)) (by omega),rfl,congrArg (λx=>Dat.d (.int .i64 x)) (by omega),rfl,rfl,rfl,rfl,rfl,rfl,trivial⟩,⟨rfl,rfl,AO hO1.symm,trivial⟩,by omega⟩
  ·have hkk:k=D:=by omega
   subst hkk
   have es:F4 w ps k=F4 w ps k:=rfl
   have eR:(List.range k).map (Bx w ps)=CZ w ps k:=(DK hne).symm
   have eL:(CZ w ps k).length=k:=by rw[<-eR,Ab,Bv]
   (conv=>whnf)
   (repeat' ((first|refine Af ?_ ?_|refine Ad rfl hcd ?_|refine nx ?_|refine Aw (λ_=>?_) (λ_=>?_)|exact A0)<;>conv=>whnf))
   exact rfl
end Go.Proofs.YtjejpdfldmempaaGreatDoor
end
section
namespace Go.Proofs.YtjejpdfldmempaaGreatDoor
open Go.ChangeShapes Go.WideShapes Go.ChangeAt Go.RowKit Go.Reg Go.Gr Go.ChangeMaps
set_option maxRecDepth 100000 in
theorem Ny(H:Type)(enc:TypeId×Value->H)(W:World)(base:Nat)(args:Array Value)(ds gs:List (DataW H))(before:List MemPlace)
  (hval:∀(j:Nat) t v,Tryz.f7.params[j]? =some t->args[j]? =some v->Value.okWide Tryz.prog W .any base t v)
  (hW:DataW.Whole enc Tryz.prog Tryz.f7.params.toList Rows.levelAllSpec.vars false W args.toList ds gs before) (hsz0:(DataW.weightsEach Tryz.prog (Tryz.f7.params.toList++(OpenSpec.ofChange Rows.levelAllSpec).bare.plain.varTypes Tryz.prog) (ds++gs)).all (· <=reachBytes)=true) (hL:laidMetH Tryz.prog Rows.levelAllRow.laid W) (_hsh:W.ShapedOpen Tryz.prog):
  Calls Tryz.prog 7 args W λe W'=>∃v,e=.returned v/\Rows.levelAllSpec.post enc Tryz.prog Tryz.f7 false true false false W args v W':=by
 have hsz:=hsz0
 clear hsz0
 have hW':=hW
 obtain⟨p,q,hA0,hV,rfl,hfz,hnd⟩:=hW
 have hA:DataW.TrodAll enc Tryz.prog W 0 (λ_=>true) true Tryz.f7.params.toList args.toList ds p:=hA0
 rw[Tryz.params7]at hA hval hsz
 obtain⟨v0,v1,v2,v3,v4,v5,d0,d1,d2,d3,d4,d5,p0,p1,p2,p3,p4,p5,rfl,rfl,rfl,h0,h1,h2,h3,h4,h5⟩:=Ul hA
 obtain⟨rfl,rfl⟩:=trodVars_none hV
 have c0:=Sx.cap_of Tryz.underlying28 (hval 0 _ _ rfl rfl) h0
 obtain⟨x0,a0,_⟩:=Rf (enc:=eI.enc) (λ_=>True) Tryz.underlying28 (k:=1) (by kernel_rfl) (by decide) (λ_=>rfl) tF (hval 0 _ _ rfl rfl) h0
 have c1:=Sx.cap_of Tryz.underlying33 (hval 1 _ _ rfl rfl) h1
 obtain⟨x1,a1,_⟩:=Rf (enc:=eE.enc) (λ_=>True) Tryz.underlying33 (k:=2) (by kernel_rfl) (by decide) (λ_=>rfl) pD (hval 1 _ _ rfl rfl) h1
 obtain⟨x2,rfl,rfl,rfl⟩:=open_bool Tryz.underlying4 (hval 2 _ _ rfl rfl) h2
 obtain⟨x3,rfl,rfl,rfl,w3⟩:=open_int Tryz.underlying3 (hval 3 _ _ rfl rfl) h3
 have c4:=Sx.cap_of Tryz.underlying53 (hval 4 _ _ rfl rfl) h4
 obtain⟨x4,a4,_⟩:=Rf (enc:=eO.enc) (λ_=>True) Tryz.underlying53 (k:=2) (by kernel_rfl) (by decide) (λ_=>rfl) uO (hval 4 _ _ rfl rfl) h4
 obtain⟨x5,rfl,rfl,rfl,w5⟩:=open_int Tryz.underlying3 (hval 5 _ _ rfl rfl) h5
 have hg:=kP (show laidMetH Tryz.prog Kw W from hL)
 have l0:∀x∈p0,x.block<W.heap.size:=λx hx=>by have:=hW'.lt x (by simp[hx]);simpa using this
 have l1:∀x∈p1,x.block<W.heap.size:=λx hx=>by have:=hW'.lt x (by simp[hx]);simpa using this
 have l4:∀x∈p4,x.block<W.heap.size:=λx hx=>by have:=hW'.lt x (by simp[hx]);simpa using this
 refine((cV x0 x1 x2 x3 x4 x5).calls hg (Sx.reps_cons (eI.rep_arg (by decide) a0 c0) (Sx.reps_cons (eE.rep_arg (by decide) a1 c1) (Sx.reps_cons (Sx.rep_of_bool x2) (Sx.reps_cons (Sx.rep_of_int .i64 x3) (Sx.reps_cons (eO.rep_arg (by decide) a4 c4) (Sx.reps_cons (Sx.rep_of_int .i64 x5) Sx.reps_nil))))))).mono λe W' ⟨u,y,he,hy,hr,ht⟩=>?_
 subst hy
 obtain rfl:=iB hr
 subst he
 refine⟨_,rfl,_,_,_,[],p0++(p1++([]++([]++(p4++[])))),[],hW',?_,?_,?_,?_,λh=>by cases h⟩
 ·exact trodAll_mk1 (shut_bool Tryz.underlying4 true)
 ·exact Um (Below.trod T6 (by kernel_rfl) (of_decide_eq_true (by kernel_rfl)) h0 ht.below l0) (Below.trod T6 (by kernel_rfl) (of_decide_eq_true (by kernel_rfl)) h1 ht.below l1) (shut_bool Tryz.underlying4 x2) (shut_int Tryz.underlying3 w3) (Below.trod T6 (by kernel_rfl) (of_decide_eq_true (by kernel_rfl)) h4 ht.below l4) (shut_int Tryz.underlying3 w5)
 ·rfl
 ·refine⟨ht.os,ht.output,λi hi=>?_⟩
  rw[ht.blk i hi (by simp)]
  have hsome:∃o,W.heap[i]? =some o:=⟨_,BD hi⟩
  obtain⟨o,ho⟩:=hsome
  rw[ho]
  cases o<;>simp
theorem Ry(os:Os) {H:Type}(enc:TypeId×Value->H):∃places,DataW.whole enc Tryz.prog ((Nn os).forCall (λ_ _=>0) ⟨#[],#[.slice none 0 0,.slice none 0 0,.bool false,.int .i64 0,.slice none 0 0,.int .i64 0],[]⟩).memory Tryz.f7.params.toList Rows.levelAllSpec.vars false #[.slice none 0 0,.slice none 0 0,.bool false,.int .i64 0,.slice none 0 0,.int .i64 0].toList 8=some ([.nil,.nil,.lit (.bool false),.lit (.int .i64 0),.nil,.lit (.int .i64 0)],[],places):=
 ⟨[],by kernel_rfl⟩
set_option maxRecDepth 100000 in
theorem Qu(os:Os)(started:os.Started)(H:Type)(enc:TypeId×Value->H)(F:Stop.Interp):
  ReturnsInHanded {} Tryz.checked os 7 .any ((OpenSpec.ofChange Rows.levelAllSpec).preRow enc Tryz.prog Tryz.f7 Rows.levelAllRow.domain false Rows.levelAllRow.laid) (((OpenSpec.ofChange Rows.levelAllSpec).at F).post enc Tryz.prog Tryz.f7 false true false false):=by
 obtain⟨places,hx⟩:=Ry os enc
 refine returnsInHanded_of_row (C:=Tryz.checked) (s:=OpenSpec.ofChange Rows.levelAllSpec) own started (by kernel_rfl) Tryz.func7
  (witness_row_at (enc:=enc) (C:=Tryz.checked) false (Nn os) #[.slice none 0 0,.slice none 0 0,.bool false,.int .i64 0,.slice none 0 0,.int .i64 0] rfl (by kernel_rfl) (by kernel_rfl) (by kernel_rfl)
   (OpenSpec.preRow_of_cond 8 hx (by kernel_rfl) (λk hk=>by cases hk) (by kernel_rfl) (R0 os _))) ?_
 intro W base args ds gs before hval hW _ _ hsz hL hsh _
 exact Ny H enc W base args ds gs before hval hW hsz hL hsh
end Go.Proofs.YtjejpdfldmempaaGreatDoor
end
section
namespace Go.Proofs.YtjejpdfldmempaaGreatDoor
open Go.ChangeShapes Go.WideShapes Go.ChangeAt
theorem OT:(Rows.levelAllRow.wf (OpenSpec.ofChange (OpenSpec.ofChange Rows.levelAllSpec).bare))=true:=by kernel_rfl
theorem OS:(laidOutB Tryz.pinned.checked.prog)=true:=by kernel_rfl
theorem OR:(mapsRowed Tryz.pinned.checked.prog)=true:=by kernel_rfl
theorem OQ:(Tryz.f7.params.all (Tryz.pinned.checked.prog.readableRec ·))=true:=by kernel_rfl
theorem OP:(namedTie Tryz.pinned.checked.prog Rows.levelAllRow.named (OpenSpec.ofChange Rows.levelAllSpec).bare.vars)=true:=by kernel_rfl
theorem OO:((Rows.levelAllRow.stops==[]))=true:=by kernel_rfl
theorem ON:((Tryz.pinned.checked.prog.stops==[]))=true:=by kernel_rfl
theorem OM:((Rows.levelAllRow.knobs==[]))=true:=by kernel_rfl
theorem OL:((Tryz.pinned.checked.prog.stopKnobs==[]))=true:=by kernel_rfl
theorem OK:((Rows.levelAllRow.inPlace==Tryz.pinned.checked.prog.inPlace 7))=true:=by kernel_rfl
theorem NM:((Rows.levelAllRow.unfollowed==Tryz.pinned.checked.prog.unfollowed 7))=true:=by kernel_rfl
theorem NL:((Rows.levelAllRow.recurses==Tryz.pinned.checked.prog.recurses 7))=true:=by kernel_rfl
theorem NK:((Rows.levelAllRow.named==Tryz.pinned.checked.prog.varsNamed 7))=true:=by kernel_rfl
theorem NJ:((Rows.levelAllRow.maps==(Tryz.f7.params.toList++(OpenSpec.ofChange Rows.levelAllSpec).bare.plain.varTypes Tryz.pinned.checked.prog).any (Tryz.pinned.checked.prog.mapsRec ·)))=true:=by kernel_rfl
theorem NI:((Rows.levelAllRow.ifaces==(Tryz.f7.params.toList++(OpenSpec.ofChange Rows.levelAllSpec).bare.plain.varTypes Tryz.pinned.checked.prog).any (Tryz.pinned.checked.prog.ifacesRec ·)))=true:=by kernel_rfl
theorem NH:((Rows.levelAllRow.mapsOut==Tryz.pinned.checked.prog.mapsAmong Tryz.f7.resultTypes.toList))=true:=by kernel_rfl
theorem NG:((Rows.levelAllRow.loops==(Tryz.f7.params.toList++(OpenSpec.ofChange Rows.levelAllSpec).bare.plain.varTypes Tryz.pinned.checked.prog).any (Tryz.pinned.checked.prog.loopsFrom ·)))=true:=by kernel_rfl
theorem NF:((Rows.levelAllRow.wideKeys==(Tryz.f7.params.toList++(OpenSpec.ofChange Rows.levelAllSpec).bare.plain.varTypes Tryz.pinned.checked.prog++Tryz.f7.resultTypes.toList).any (Tryz.pinned.checked.prog.wideKeysFrom ·)))=true:=by kernel_rfl
theorem NE:((OpenSpec.ofChange Rows.levelAllSpec).bare.vars.all (Tryz.pinned.checked.prog.varReadable ·))=true:=by kernel_rfl
theorem ND:(Tryz.f7.resultTypes.all (λt=>Tryz.pinned.checked.prog.readableRec t&&decide (t<Tryz.pinned.checked.prog.types.size)))=true:=by kernel_rfl
theorem NC:((Rows.levelAllRow.ifacesOut==Tryz.f7.resultTypes.toList.any (Tryz.pinned.checked.prog.ifacesRec ·)))=true:=by kernel_rfl
theorem NB:((Rows.levelAllRow.loopsOut==Tryz.f7.resultTypes.toList.any (Tryz.pinned.checked.prog.loopsFrom ·)))=true:=by kernel_rfl
theorem NA:((Rows.levelAllRow.plainKeys==Tryz.pinned.checked.prog.plainKeys))=true:=by kernel_rfl
theorem N9:(Rows.levelAllRow.shortTexts.isNone)=true:=by kernel_rfl
theorem N8:(Tryz.pinned.checked.prog.stopsHeard)=true:=by kernel_rfl
theorem N7:(Tryz.pinned.checked.prog.mayEnter)=true:=by kernel_rfl
theorem N6:((Rows.levelAllRow.lifted==Tryz.pinned.checked.prog.liftsFinal))=true:=by kernel_rfl
theorem N5:((Tryz.pinned.checked.prog.make==some Rows.levelAllRow.make))=true:=by kernel_rfl
theorem N4:((Rows.levelAllRow.pinned==Rows.levelAllRow.pinnedBy))=true:=by kernel_rfl
theorem N3:((Rows.levelAllRow.veiled==(Tryz.f7.params.toList++(OpenSpec.ofChange Rows.levelAllSpec).bare.plain.varTypes Tryz.pinned.checked.prog++Tryz.f7.resultTypes.toList).any (Tryz.pinned.checked.prog.veiledRec ·)))=true:=by kernel_rfl
theorem N2:(Rows.levelAllRow.veiledFits Tryz.pinned.checked.prog Tryz.f7.params.toList (Tryz.f7.params.toList++(OpenSpec.ofChange Rows.levelAllSpec).bare.plain.varTypes Tryz.pinned.checked.prog++Tryz.f7.resultTypes.toList))=true:=by kernel_rfl
theorem QX:joinedFacts Tryz.pinned.checked.prog 7 Tryz.f7 (OpenSpec.ofChange Rows.levelAllSpec).bare Rows.levelAllRow=true:=by
 unfold joinedFacts
 rw[OT,OS,OR,OQ,OP,OO,ON,OM,OL,OK,NM,NL,NK,NJ,NI,NH,NG,NF,NE,ND,NC,NB,NA,N9,N8,N7,N6,N5,N4,N3,N2]
 simp only[FE,Bool.and_true]
 kernel_rfl
end Go.Proofs.YtjejpdfldmempaaGreatDoor
end
