/- Merged: Lta Ldw Ldv Ltp Ltk. -/
import Derived.Test.YtjejpdfldmempaaGreatDoorltba
import Derived.Test.YtjejpdfldmempaaGreatDoorltas
import Derived.Test.YtjejpdfldmempaaGreatDoorltak
import Derived.Test.YtjejpdfldmempaaGreatDoorCards
import Derived.Test.YtjejpdfldmempaaGreatDoorTie
import Derived.WalkKit
import Derived.ProofKit
import Derived.OpenShut
import Derived.ChangeMaps5
import Derived.ChangeSame
import Derived.SizedLaws
import Derived.Deep.DeepHandedRow
import Derived.Lib.LaidTab
import Derived.LaidHandle
import Derived.Carry
import Derived.Stop.LaidErr
import Derived.Test.YtjejpdfldmempaaGreatDoorltax
import Derived.Test.YtjejpdfldmempaaGreatDoorRows
import Derived.JoinedCond
section
namespace Go.Proofs.YtjejpdfldmempaaGreatDoor
open Go.Sx Go.RowKit Go.Reg Go.Gr
set_option maxRecDepth 100000
theorem gK {E:List Edg} {V:List Int}(hE:∀e∈E,e.a<e.b)(hEn:E.Nodup)(hn:V.Nodup)(hin:∀e∈E,e.a∈V/\e.b∈V):(Mj E V).length=E.length:=by
 obtain⟨h1,h2⟩:=UF hE hEn V hn hin
 rw[<-h2]
 have:=(Ql _ h1 [] List.Pairwise.nil (λx _=>by simp)).2.length_eq
 rw[this];simp
theorem Vu {E:List Edg}:∀{l:List Int},(∀u∈l,0<=u/\u<E.length)->(BJ E l).length=l.length
 |[],_=>rfl
 |
  u::l,h=>by
  have h1:=h u (by simp)
  obtain⟨m,rfl⟩:=A1 h1.1
  have hx:=Ab (l:=E) (i:=m) (by omega)
  have ih:=Vu (l:=l) λv hv=>h v (by simp[hv])
  unfold BJ at ih⊢
  rw[List.filterMap_cons_some (b:=E[m]'(by omega)) (by rw[if_pos h1,Be];exact hx),Ax,Ax,ih]
section
variable {G:Gr} {e:Bool} {d:Int} {l:List Opp}
theorem fO(h:JobOk G e d l) {X:List Int}(hl:BK (Ck G e) X=true):(if e=true then(Ma G e X).edges.length else(Ma G e X).labels.length)=X.length:=by
 cases e with
 |false=>exact Ac _
 |
  true=>
  have hr:=Xm h hl
  have hs:=Il (BJ G.edges X)
  show(Mj (BJ G.edges X) (BN (BJ G.edges X))).length=X.length
  rw[gK (λx hx=>(h.ok.edge x (M0 x hx)).2.1) (Qs h.ok.sorted.nodup (PS hl)) hs.1 (λx hx=>⟨(hs.2 _).2 ⟨x,hx,.inl rfl⟩,(hs.2 _).2 ⟨x,hx,.inr rfl⟩⟩),Vu hr]
end
def SC:List (Nat×Plan):=[(16,.leaf [0,0,0,0,1,0,0,0,0,0,0,0,1,0,0,0,1,6,3,0] [0,1,2,3,5,6,7,8,9,10,11,4,12,13,14,15,16,17,18,19] [0,0,0,6,14,0,0,64,224,0,0,1536,3584,7680,16352,32766,65534,131070,262143,524287]),
 (17,.leaf [1,0,0,0,1,3,0,0,0,0,0] [1,2,3,0,4,5,6,7,8,9,10] [0,0,0,6,14,31,63,127,127,255,1023])]
set_option maxHeartbeats 8000000 in
theorem Xh(labels:List Int)(edges:List Edg)(e:Bool)(d:Int)(p:List Opp)(c:Nat)(hc:c<=255):Pure C3 8 [Bx labels,Er edges,.bool e,.int .i64 d,N6 p,.int .u8 (c:Int)] (λy=>y=.bool true):=by
 have hal:=Pure.up3 Ts
 have hmd:=Pure.up3 (Xj labels edges e d p)
 refine Uj Tryz.func8 Tryz.ntmps8 [] SC ?_
 (conv=>whnf)
 (repeat' ((first|refine Ai ?_ ?_|refine Aj rfl hal ?_|refine nx ?_|refine A5 (λ_=>?_) (λ_=>?_)|exact AA)<;>conv=>whnf))
 refine AH rfl hmd ?_
 rintro y (rfl|⟨G,rfl,hJ⟩)
 ·((conv=>whnf);repeat' ((first|refine odw ?_|refine nx ?_|refine A5 (λ_=>?_) (λ_=>?_))<;>conv=>whnf))
  exact rfl
 have h1:=hJ.d.1
 have h2:=hJ.d.2
 by_cases h4:d<=4
 case neg=>
  (conv=>whnf)
  ((conv=>whnf);repeat' ((first|refine odw ?_|refine nx ?_|refine A5 (λ_=>?_) (λ_=>?_))<;>conv=>whnf))
  exact rfl
 have hok:=IS hJ.ok (by have:=hJ.n;omega) hJ.m e
 have hsm:=MU hJ
 have hal:=Pure.up3 (VR hJ 1048576)
 have hrp:=λk X=>lK hJ (k:=k) (X:=X)
 have hpe:∀k X,X∈Bv (Ck G e) (KS G e p) k->Hj (Ma G e X)=none:=λk X hX=>Up hJ (hrp k X hX).2.2.1 (hrp k X hX).2.2.2
 have htb:∀k (R:List (List Int)),k<=500->R.length<=256->(∀X∈R,X∈Bv (Ck G e) (KS G e p) k)->_:=λk R hk hl hR=>aC (G:=G) (e:=e) (d:=d) (l:=p) R (Ma G e) (by omega) (λX hX=>⟨hpe k X (hR X hX),kM G e X,by
  have:=KB hJ X (hrp k X (hR X hX)).1 (by have:=(hrp k X (hR X hX)).2.1;omega)
  rw[fP hJ (hrp k X (hR X hX)).2.2.1 (hrp k X (hR X hX)).2.2.2]at this
  exact this⟩)
 have hsz:∀k,∀x∈He ((Bv (Ck G e) (KS G e p) k).map (Ma G e)),tO x.1/\(if e=true then x.1.edges.length else x.1.labels.length)=k+1:=λk x hx=>by
  obtain⟨X,hX,e1⟩:=Aq.1 ((MR _).2.2.2.1 x hx)
  rw[<-e1]
  exact⟨rO (hpe k X hX),(fO hJ (hrp k X hX).2.2.1).trans (hrp k X hX).2.1⟩
 obtain⟨D,rfl⟩:=A1 (show 0<=d by omega)
 rw[Be]at hal
 clear hJ hpe hrp
 generalize Ck G e=w at*
 generalize KS G e p=ps at*
 have hrl:∀k,(Bv w ps k).length<=256:=λk=>Cv (Pw hok ps k) (Cv (Nat.pow_le_pow_right (by decide) hsm) (by decide))
 have hfew:=TF hok ps hsm (show D<=8 by omega)
 unfold VS at hal
 rw[if_pos (by omega)]at hal
 have hRm:((DI w ps D).map Kc).length=(DI w ps D).length:=Ac _
 have hRl:=eD w ps D
 have hRg:∀n,n<(DI w ps D).length->(DI w ps D)[n]? =some (Bv w ps n):=λn hn=>eF hn
 (conv=>whnf)
 ((conv=>whnf);repeat' ((first|refine odw ?_|refine nx ?_|refine A5 (λ_=>?_) (λ_=>?_))<;>conv=>whnf))
 (repeat' ((first|refine Ai ?_ ?_|refine Aj rfl hal ?_|refine nx ?_|refine A5 (λ_=>?_) (λ_=>?_)|exact AA)<;>conv=>whnf))
 refine AN (ι:=Nat) (λn=>n<=(DI w ps D).length) (λn=>[(18,.d (.int .i64 n)),(16,.d (.list 1 ((DI w ps D).map Kc))),(13,.own 13),(5,.d (.int .u8 (c:Int))),(2,.d (.bool e))]) (λ_=>[(13,.cells 58 [.d (dG G),.d (.bool e),.d (.int .i64 (D:Int)),.d (N6 p)])]) (λn=>(DI w ps D).length-n) 0 (λ_=>rfl) (As _) (.refl _ _) ⟨rfl,rfl,rfl,rfl,rfl,trivial⟩ ⟨rfl,trivial⟩ ?_
 intro n hn
 refine IM [] SC ?_
 by_cases hnl:n<(DI w ps D).length
 case neg=>
  ((conv=>whnf);repeat' ((first|refine odw ?_|refine nx ?_|refine A5 (λ_=>?_) (λ_=>?_))<;>conv=>whnf))
  exact rfl
 have hgd:((DI w ps D).map Kc)[n]? =some (.list 1 ((Bv w ps n).map Bx)):=by rw[Af,hRg n hnl];rfl
 have hP:=hrl n
 have hszn:=hsz n
 have htbn:=λR=>htb n R (by omega)
 have hdl:((Bv w ps n).map Bx).length=(Bv w ps n).length:=Ac _
 (conv=>whnf)
 (repeat' ((first|refine Ai ?_ ?_|refine AM hgd rfl ?_|refine nx ?_|refine A5 (λ_=>?_) (λ_=>?_)|exact AA)<;>conv=>whnf))
 refine AN (ι:=Nat) (λi=>i<=(Bv w ps n).length) (λi=>[(20,.d (.int .i64 i)),(19,.own 300),(18,.d (.int .i64 n)),(16,.d (.list 1 ((DI w ps D).map Kc))),(13,.own 13),(5,.d (.int .u8 (c:Int))),(2,.d (.bool e))]) (λi=>[(13,.cells 58 [.d (dG G),.d (.bool e),.d (.int .i64 (D:Int)),.d (N6 p)]),(300,.slice 28 1 ((Hp (Bv w ps n) c i).map Bx))]) (λi=>(Bv w ps n).length-i) 0 (λ_=>rfl) (As _) (.own 19 300 28 1 rfl rfl (.refl _ _)) ⟨rfl,rfl,rfl,rfl,rfl,rfl,rfl,trivial⟩ ⟨rfl,rfl,trivial⟩ ?_
 intro i hi
 refine IM [] SC ?_
 by_cases hil:i<(Bv w ps n).length
 ·have hlt:(i+c) % (Bv w ps n).length<(Bv w ps n).length:=jF _ (by omega)
  have hx:=Ab hlt
  generalize (Bv w ps n)[(i+c) % (Bv w ps n).length]=x at hx
  have hxd:((Bv w ps n).map Bx)[(i+c) % (Bv w ps n).length]? =some (Bx x):=by rw[Af,hx];rfl
  have htn:=congrArg (List.map Bx) (Wk _ _ _ hx)
  rw[AF]at htn
  have hmod:((i:Int)+(c:Int)).tmod (((Bv w ps n).map Bx).length:Int)=(((i+c) % (Bv w ps n).length:Nat):Int):=by
   rw[hdl,<-Int.natCast_add,Int.tmod_eq_emod_of_nonneg (by omega)];rfl
  have htl:(Hp (Bv w ps n) c i).length<=256:=by
   have:=Zc (Bv w ps n) c i
   omega
  (conv=>whnf)
  (repeat' ((first|refine Ai ?_ ?_|refine AM hgd rfl ?_|refine AM hxd hmod ?_|refine nx ?_|refine A5 (λ_=>?_) (λ_=>?_)|exact AA)<;>conv=>whnf))
  exact⟨i+1,_,_,hil,.refl _ _,⟨rfl,rfl,rfl,rfl,rfl,rfl,rfl,trivial⟩,⟨rfl,Bj htn.symm,trivial⟩,by omega⟩
 have ei:i=(Bv w ps n).length:=by omega
 subst ei
 have hpm:=Wl (Bv w ps n) c
 have hta:=htbn (Bv w ps n) hP (λX h=>h)
 have htb2:=htbn (Hp (Bv w ps n) c (Bv w ps n).length) (by rw[hpm.length_eq];exact hP) (λX h=>hpm.mem_iff.1 h)
 rw[Zn (hpm.map (Ma G e))]at htb2
 (conv=>whnf)
 (repeat' ((first|refine Ai ?_ ?_|refine AM hgd rfl ?_|refine nx ?_|refine A5 (λ_=>?_) (λ_=>?_)|exact AA)<;>conv=>whnf))
 refine NC [] [] hta (λd σ h=>h) rfl rfl rfl rfl rfl rfl (λ_=>rfl) ?_
 rintro⟨m1,X1⟩ hT1
 (conv=>whnf)
 (repeat' ((first|refine Ai ?_ ?_|refine Du 300 rfl ?_|refine nx ?_|refine A5 (λ_=>?_) (λ_=>?_)|exact AA)<;>conv=>whnf))
 refine NC [(940,900),(941,901)] [] htb2 (λd σ h=>h) rfl rfl rfl rfl rfl rfl (λ_=>rfl) ?_
 rintro⟨m2,X2⟩ hT2
 obtain⟨q1,q2,q3,q4,q5⟩:=MR ((Bv w ps n).map (Ma G e))
 rw[Ac]at q1 q3
 generalize He ((Bv w ps n).map (Ma G e))=l at*
 have hb1:=Ra l m1 X1 hT1 (by omega) (λx hx=>(hszn x hx).1)
 have hb2:=Ra l m2 X2 hT2 (by omega) (λx hx=>(hszn x hx).1)
 have hbl:=Na (l:=l) (λx hx=>(hszn x hx).1)
 have hsm3:=(TV (tB l) (by unfold tB;rw[Ae,F9];omega))
 have hrw:=T8 l m1 [] hT1 (by omega) (λx hx=>(hszn x hx).1.1)
 have hlm:(l.map FJ).length=l.length:=Ac _
 (conv=>whnf)
 ((conv=>whnf);repeat' ((first|refine odw ?_|refine nx ?_|refine A5 (λ_=>?_) (λ_=>?_))<;>conv=>whnf))
 refine CW [] [900,901] hb1 rfl rfl rfl rfl rfl rfl rfl ?_
 ((conv=>whnf);repeat' ((first|refine odw ?_|refine nx ?_|refine A5 (λ_=>?_) (λ_=>?_))<;>conv=>whnf))
 refine CW [(940,900),(941,901)] [940,941] hb2 rfl rfl rfl rfl rfl rfl rfl ?_
 (conv=>whnf)
 (repeat' ((first|refine Ai ?_ ?_|refine Aj rfl hsm3 ?_|refine nx ?_|refine A5 (λ_=>?_) (λ_=>?_)|exact AA)<;>conv=>whnf))
 refine CW [] [900,901] hrw rfl rfl rfl rfl rfl rfl rfl ?_
 ((conv=>whnf);repeat' ((first|refine odw ?_|refine nx ?_|refine A5 (λ_=>?_) (λ_=>?_))<;>conv=>whnf))
 refine AN (ι:=Nat) (λi=>i<=l.length) (λi=>[(27,.d (.int .i64 i)),(26,.d (.list 3 (l.map FJ))),(25,.d (.int .i64 (Gm (l.take i)))),(18,.d (.int .i64 n)),(16,.d (.list 1 ((DI w ps D).map Kc))),(13,.own 13),(5,.d (.int .u8 (c:Int))),(2,.d (.bool e))]) (λ_=>[(13,.cells 58 [.d (dG G),.d (.bool e),.d (.int .i64 (D:Int)),.d (N6 p)])]) (λi=>l.length-i) 0 (λ_=>rfl) (As _) (.frz 910 rfl (.refl _ _)) ⟨rfl,rfl,rfl,rfl,rfl,rfl,rfl,rfl,trivial⟩ ⟨rfl,trivial⟩ ?_
 intro i hi2
 refine IM [] SC ?_
 by_cases hli:i<l.length
 ·have hx:l[i]? =some l[i]:=Ab hli
  have hxs:=(hszn _ (AD hx)).2
  have hx2:=q2 _ (AD hx)
  generalize l[i]=x at hx hxs hx2
  obtain⟨t1,t2,t3⟩:=Zp q2 hx
  have hxd:(l.map FJ)[i]? =some (.agg [.agg [Bx x.1.labels,Er x.1.edges],.int .i64 x.2]):=by rw[Af,hx];rfl
  have hll:(x.1.labels.map dI).length=x.1.labels.length:=Ac _
  have hel:(x.1.edges.map dE).length=x.1.edges.length:=Ac _
  cases e with
  |
   false=>
   rw[if_neg (by decide)]at hxs
   (conv=>whnf)
   (repeat' ((first|refine Ai ?_ ?_|refine AM hxd rfl ?_|refine nx ?_|refine A5 (λ_=>?_) (λ_=>?_)|exact AA)<;>conv=>whnf))
   exact⟨i+1,_,_,hli,.refl _ _,⟨rfl,rfl,congrArg (λx=>Dat.d (.int .i64 x)) t1.symm,rfl,rfl,rfl,rfl,rfl,trivial⟩,⟨rfl,trivial⟩,by omega⟩
  |
   true=>
   rw[if_pos rfl]at hxs
   (conv=>whnf)
   (repeat' ((first|refine Ai ?_ ?_|refine AM hxd rfl ?_|refine nx ?_|refine A5 (λ_=>?_) (λ_=>?_)|exact AA)<;>conv=>whnf))
   exact⟨i+1,_,_,hli,.refl _ _,⟨rfl,rfl,congrArg (λx=>Dat.d (.int .i64 x)) t1.symm,rfl,rfl,rfl,rfl,rfl,trivial⟩,⟨rfl,trivial⟩,by omega⟩
 ·have e1:l.take i=l:=Ao (by omega)
  rw[e1,q1]
  (conv=>whnf)
  (repeat' ((first|refine Ai ?_ ?_|refine AM hgd rfl ?_|refine nx ?_|refine A5 (λ_=>?_) (λ_=>?_)|exact AA)<;>conv=>whnf))
  exact⟨n+1,_,_,hnl,.refl _ _,⟨rfl,rfl,rfl,rfl,rfl,trivial⟩,⟨rfl,trivial⟩,by omega⟩
theorem UG(labels:List Int)(edges:List Edg)(e:Bool)(d:Int)(p:List Opp)(t:Int)(ht:0<=t/\t<=255):Pure C3 8 [Bx labels,Er edges,.bool e,.int .i64 d,N6 p,.int .u8 t] (λy=>y=.bool true):=by
 obtain⟨c,rfl⟩:=A1 ht.1
 exact Xh labels edges e d p c (by omega)
end Go.Proofs.YtjejpdfldmempaaGreatDoor
end
section
namespace Go.Proofs.YtjejpdfldmempaaGreatDoor
open Go.ChangeShapes Go.WideShapes Go.ChangeAt Go.RowKit Go.Reg Go.Gr Go.Sx Go.ChangeMaps
theorem own:ownKnob Tryz.prog.godebug=none:=by kernel_rfl
theorem SR:laidOutB Tryz.prog=true:=by kernel_rfl
theorem uF:Tryz.prog.globalNamed "errors.errorType" =some 0:=by kernel_rfl
theorem uE:(Tryz.prog.cutTypes.find? (·.1== "internal/reflectlite.rtype")).map (·.2)=some 293:=by kernel_rfl
theorem qC:((List.range Tryz.prog.types.size).filter λt=>Tryz.prog.rowNamed t [101,114,114,111,114])=[39]:=by kernel_rfl
abbrev JU:List (String×DataW Unit):=Rows.levelAllRow.laid
abbrev aG:List (String×DataW Unit):=[("math/bits.deBruijn32tab",Rows.laid_math_bits_deBruijn32tab),("math/bits.deBruijn64tab",Rows.laid_math_bits_deBruijn64tab),("internal/strconv.uint64pow10",Rows.laid_internal_strconv_uint64pow10)]
theorem PV {W:World}(h:laidMetH Tryz.prog JU W):laidMet Tryz.prog aG W/\handlesMet Tryz.prog [("errors.errorType",Rows.laid_errors_errorType)] W:=h
theorem QW {P:Program} {w:World} {name:String} {g:Nat} {cs:Array Value}(h:w.var? P name=some cs)(hg:P.globalNamed name=some g):∃t fr,w.heap[g]? =some (.cells cs t fr):=by
 unfold World.var? at h
 rw[hg,NJ]at h
 cases hh:w.heap[g]? with
 |none=>rw[hh]at h;cases h
 |
  some o=>
  rw[hh]at h
  cases o with
  |cells cs' t fr=>simp only[Au]at h;subst h;exact⟨t,fr,rfl⟩
  |_=>cases h
theorem Th {W:World}(h:laidMetH Tryz.prog JU W):∃t fr,W.heap[0]? =some (.cells #[.iface 293 (.agg #[.pointer (some ⟨5,39,none⟩)])] t fr):=by
 obtain⟨name,u,ty,e1,e2,e3,e4,e5⟩:=(PV h).2 _ (AG.2 rfl)
 have en:name=[101,114,114,111,114]:=(BG e1).symm
 subst en
 obtain rfl:=BG (uE.symm.trans e2)
 have hm:ty∈(List.range Tryz.prog.types.size).filter λt=>Tryz.prog.rowNamed t [101,114,114,111,114]:=A3.2 ⟨AO.2 e3,e4⟩
 rw[qC]at hm
 obtain rfl:=AG.1 hm
 have hh:typeHandle Tryz.prog 39=.pointer (some ⟨5,39,none⟩):=by kernel_rfl
 rw[hh]at e5
 exact QW e5 uF
theorem YF {W:World} {g:Nat} {cs:Array Value} {t:TypeId} {fr:Nat×Nat} {d:Da}(h:W.heap[g]? =some (.cells cs t fr))(hr:Sx.RepC [] W d cs.toList)(hs:cs.size=Sx.gsz d):Sx.GRep [] W (g,d):=by
 refine⟨⟨[_],?_,rfl⟩,by simp,cs,t,fr,h,hs⟩
 simp only[Sx.RepC]
 refine⟨g,0,cs.toList,rfl,by simp,(A6.1 h).1,hr,λj u hj=>?_⟩
 rw[Lib.cell_of_heap h,E7]
 simpa using hj
theorem Sk {W:World}(h:laidMetH Tryz.prog JU W):∃t fr,W.heap[1]? =some (.cells (Lib.pow10Tab.map λz=>Value.int .u64 z).toArray t fr):=by
 have h1:=laidMet.tail (laidMet.tail (PV h).1)
 have h2:laidMet Tryz.prog (("internal/strconv.uint64pow10",Lib.tabData .u64 Lib.pow10Tab)::[]) W:=h1
 have h3:=Lib.tabIs_of_head (g:=1) (by kernel_rfl) (t:=327) (e:=186) (n:=20) (by kernel_rfl) Tryz.underlying327 Tryz.underlying186 (by kernel_rfl) (by kernel_rfl) h2
 exact QW h3 (by kernel_rfl)
theorem UU(O:List Nat)(W:World)(k:IntKind):∀l:List Int,Sx.RepCs O W (l.map (Da.int k)) (l.map λz=>Value.int k z)
 |[]=>by simp[Sx.RepCs]
 |
  x::l=>by
  simp only[Ap,Sx.RepCs,Sx.RepC]
  exact⟨[_],_,rfl,rfl,UU O W k l⟩
theorem hU {W:World}(h:laidMetH Tryz.prog JU W):Sx.Glob C3 [] W:=by
 obtain⟨t1,f1,e1⟩:=Th h
 obtain⟨t5,f5,e5⟩:=Sk h
 intro g hg
 rcases Ag.1 hg with hg|hg
 ·rw[AG.1 hg]
  exact YF e1 (by simp only[Sx.RepC]) rfl
 ·rw[AG.1 hg]
  exact YF e5 (by simp only[Sx.RepC];exact UU _ _ _ _) (by simp[Sx.gsz])
def eI:Sx.Enc Int:=⟨λn=>[.int .i64 n],dI,1,λ_=>rfl,λn u hu=>by simp at hu;rw[hu];rfl,λO w n=>by simp[dI,Sx.RepC]⟩
def eE:Sx.Enc Edg:=⟨λe=>[.int .i64 e.a,.int .i64 e.b],dE,2,λ_=>rfl,λn u hu=>by simp at hu;rcases hu with rfl|rfl<;>rfl,λO w n=>by simp[dE,Sx.RepC,Sx.RepCs]⟩
set_option maxRecDepth 100000 in
theorem qI {H:Type} {e':TypeId×Value->H} {w:World} {base:Nat} {spare:Nat->Bool} {held:Bool}(n:Nat)(cs:List Value)(y:DataW H×List MemPlace)
  (h:DataW.trod e' Tryz.prog w base spare held n 3 cs=some y):∃x:Int,cs=eI.enc x/\True:=by
 obtain⟨m,h0,_⟩:=DataW.trod_int Tryz.underlying3 h
 exact⟨m,h0,trivial⟩
set_option maxRecDepth 100000 in
theorem mO {H:Type} {e':TypeId×Value->H} {w:World} {base:Nat} {spare:Nat->Bool} {held:Bool}(n:Nat)(cs:List Value)(y:DataW H×List MemPlace)
  (h:DataW.trod e' Tryz.prog w base spare held n 137 cs=some y):∃x:Edg,cs=eE.enc x/\True:=by
 obtain⟨xs,k,_,_,hcl,hxl,hf⟩:=DataW.trod_struct Tryz.underlying137 h
 have cl:cs.length=2:=hcl.trans (by kernel_rfl)
 match cs,cl with
 |
  [c0,c1],_=>
  have hx4:xs.length=2:=hxl
  match xs,hx4 with
  |
   [y0,y1],_=>
   have k3:Tryz.prog.cellsOf 3=1:=by kernel_rfl
   have g0:=hf 0 _ rfl
   have g1:=hf 1 _ rfl
   simp[k3]at g0 g1
   obtain⟨n0,h0,_⟩:=DataW.trod_int Tryz.underlying3 g0
   obtain⟨n1,h1,_⟩:=DataW.trod_int Tryz.underlying3 g1
   simp at h0 h1
   subst h0;subst h1
   exact⟨⟨n0,n1⟩,rfl,trivial⟩
theorem eQ {O:List Nat} {w:World} {v:Value} {b:Bool}(h:Sx.Rep O w (.bool b) v):v=.bool b:=by obtain⟨cs,r,rfl⟩:=h;simp only[Sx.RepC]at r;subst r;rfl
def Wi:DataW Unit->Array Value
 |.agg ds=>(ds.map λ|.lit (.int k n)=>Value.int k n|_=>undef).toArray
 |_=>#[]
def LI(cs:Array Value):Obj->Obj
 |.cells _ t frozen=>.cells cs t frozen
 |o=>o
noncomputable def Nv(os:Os):World:=
 let w0:=World.holding Tryz.prog os ⟨#[],#[],[]⟩
 {w0 with heap:=(((w0.heap.modify 0 (LI #[.iface 293 (.agg #[.pointer (some ⟨5,39,none⟩)])])).modify 1 (LI (Wi Rows.laid_internal_strconv_uint64pow10))).modify 3 (LI (Wi Rows.laid_math_bits_deBruijn32tab))).modify 4 (LI (Wi Rows.laid_math_bits_deBruijn64tab))}
theorem QO(os:Os)(args:Array Value):laidMetH Tryz.prog JU ((Nv os).forCall (λ_ _=>0) ⟨#[],args,[]⟩).memory:=
 laidMetH_of_parts (laidMet_of_run' 8 (by kernel_rfl) (by kernel_rfl)) (by kernel_rfl)
end Go.Proofs.YtjejpdfldmempaaGreatDoor
end
section
namespace Go.Reg
open Go Go.Deep
section
open Go.ChangeShapes Go.RowKit
variable {H:Type} {enc:TypeId×Value->H} {P:Program} {w:World} {base:Nat} {spare:Nat->Bool} {held:Bool}
theorem TB {t0 t1 t2 t3 t4:TypeId} {v0 v1 v2 v3 v4:Value} {d0 d1 d2 d3 d4:DataW H} {p0 p1 p2 p3 p4:List MemPlace}(h0:DataW.Trod enc P w base spare held t0 v0 d0 p0)(h1:DataW.Trod enc P w base spare held t1 v1 d1 p1)
  (h2:DataW.Trod enc P w base spare held t2 v2 d2 p2) (h3:DataW.Trod enc P w base spare held t3 v3 d3 p3) (h4:DataW.Trod enc P w base spare held t4 v4 d4 p4):DataW.TrodAll enc P w base spare held [t0,t1,t2,t3,t4] [v0,v1,v2,v3,v4] [d0,d1,d2,d3,d4] (p0++(p1++(p2++(p3++p4)))):=⟨p0,p1++(p2++(p3++p4)),h0,trodAll_mk4 h1 h2 h3 h4,rfl⟩
theorem T9 {t0 t1 t2 t3 t4 t5:TypeId} {args:Array Value} {ds:List (DataW H)} {ps:List MemPlace}(h:DataW.TrodAll enc P w base spare held [t0,t1,t2,t3,t4,t5] args.toList ds ps):
  ∃v0 v1 v2 v3 v4 v5 d0 d1 d2 d3 d4 d5 p0 p1 p2 p3 p4 p5,args=#[v0,v1,v2,v3,v4,v5]/\ds=[d0,d1,d2,d3,d4,d5]/\ps=p0++(p1++(p2++(p3++(p4++p5))))/\DataW.Trod enc P w base spare held t0 v0 d0 p0/\DataW.Trod enc P w base spare held t1 v1 d1 p1/\DataW.Trod enc P w base spare held t2 v2 d2 p2/\DataW.Trod enc P w base spare held t3 v3 d3 p3/\DataW.Trod enc P w base spare held t4 v4 d4 p4/\DataW.Trod enc P w base spare held t5 v5 d5 p5:=by
 obtain⟨v0,vs0,d0,ds0,p0,q0,hargs,rfl,rfl,hd0,hr0⟩:=trodAll_cons h
 obtain⟨v1,vs1,d1,ds1,p1,q1,rfl,rfl,rfl,hd1,hr1⟩:=trodAll_cons hr0
 obtain⟨v2,vs2,d2,ds2,p2,q2,rfl,rfl,rfl,hd2,hr2⟩:=trodAll_cons hr1
 obtain⟨v3,vs3,d3,ds3,p3,q3,rfl,rfl,rfl,hd3,hr3⟩:=trodAll_cons hr2
 obtain⟨v4,vs4,d4,ds4,p4,q4,rfl,rfl,rfl,hd4,hr4⟩:=trodAll_cons hr3
 obtain⟨v5,vs5,d5,ds5,p5,q5,rfl,rfl,rfl,hd5,hr5⟩:=trodAll_cons hr4
 obtain⟨rfl,rfl,rfl⟩:=trodAll_nil hr5
 exact⟨v0,v1,v2,v3,v4,v5,d0,d1,d2,d3,d4,d5,p0,p1,p2,p3,p4,p5,by cases args;simp_all,rfl,by simp,hd0,hd1,hd2,hd3,hd4,hd5⟩
theorem TA {t0 t1 t2 t3 t4 t5:TypeId} {v0 v1 v2 v3 v4 v5:Value} {d0 d1 d2 d3 d4 d5:DataW H} {p0 p1 p2 p3 p4 p5:List MemPlace}(h0:DataW.Trod enc P w base spare held t0 v0 d0 p0)(h1:DataW.Trod enc P w base spare held t1 v1 d1 p1)
  (h2:DataW.Trod enc P w base spare held t2 v2 d2 p2) (h3:DataW.Trod enc P w base spare held t3 v3 d3 p3) (h4:DataW.Trod enc P w base spare held t4 v4 d4 p4) (h5:DataW.Trod enc P w base spare held t5 v5 d5 p5):DataW.TrodAll enc P w base spare held [t0,t1,t2,t3,t4,t5] [v0,v1,v2,v3,v4,v5] [d0,d1,d2,d3,d4,d5] (p0++(p1++(p2++(p3++(p4++p5))))):=⟨p0,p1++(p2++(p3++(p4++p5))),h0,TB h1 h2 h3 h4 h5,rfl⟩
end
end Go.Reg
namespace Go.Proofs.YtjejpdfldmempaaGreatDoor
open Go.ChangeShapes Go.WideShapes Go.ChangeAt Go.RowKit Go.Reg Go.Gr Go.Sx Go.ChangeMaps
def eO:Sx.Enc Opp:=⟨λe=>[.int .i64 e.kind,.int .i64 e.n],dO,2,λ_=>rfl,λn u hu=>by simp at hu;rcases hu with rfl|rfl<;>rfl,λO w n=>by simp[dO,Sx.RepC,Sx.RepCs]⟩
set_option maxRecDepth 100000 in
theorem rU {H:Type} {e':TypeId×Value->H} {w:World} {base:Nat} {spare:Nat->Bool} {held:Bool}(n:Nat)(cs:List Value)(y:DataW H×List MemPlace)
  (h:DataW.trod e' Tryz.prog w base spare held n 76 cs=some y):∃x:Opp,cs=eO.enc x/\True:=by
 obtain⟨xs,k,_,_,hcl,hxl,hf⟩:=DataW.trod_struct Tryz.underlying76 h
 have cl:cs.length=2:=hcl.trans (by kernel_rfl)
 match cs,cl with
 |
  [c0,c1],_=>
  have hx4:xs.length=2:=hxl
  match xs,hx4 with
  |
   [y0,y1],_=>
   have k3:Tryz.prog.cellsOf 3=1:=by kernel_rfl
   have g0:=hf 0 _ rfl
   have g1:=hf 1 _ rfl
   simp[k3]at g0 g1
   obtain⟨n0,h0,_⟩:=DataW.trod_int Tryz.underlying3 g0
   obtain⟨n1,h1,_⟩:=DataW.trod_int Tryz.underlying3 g1
   simp at h0 h1
   subst h0;subst h1
   exact⟨⟨n0,n1⟩,rfl,trivial⟩
end Go.Proofs.YtjejpdfldmempaaGreatDoor
end
section
namespace Go.Proofs.YtjejpdfldmempaaGreatDoor
open Go.ChangeShapes Go.WideShapes Go.ChangeAt Go.RowKit Go.Reg Go.Gr Go.ChangeMaps
set_option maxRecDepth 100000 in
theorem Kd(H:Type)(enc:TypeId×Value->H)(W:World)(base:Nat)(args:Array Value)(ds gs:List (DataW H))(before:List MemPlace)
  (hval:∀(j:Nat) t v,Tryz.f8.params[j]? =some t->args[j]? =some v->Value.okWide Tryz.prog W .any base t v)
  (hW:DataW.Whole enc Tryz.prog Tryz.f8.params.toList Rows.levelTablesSpec.vars false W args.toList ds gs before) (hsz0:(DataW.weightsEach Tryz.prog (Tryz.f8.params.toList++(OpenSpec.ofChange Rows.levelTablesSpec).bare.plain.varTypes Tryz.prog) (ds++gs)).all (· <=reachBytes)=true) (hL:laidMetH Tryz.prog Rows.levelTablesRow.laid W) (_hsh:W.ShapedOpen Tryz.prog):
  Calls Tryz.prog 8 args W λe W'=>∃v,e=.returned v/\Rows.levelTablesSpec.post enc Tryz.prog Tryz.f8 false true false false W args v W':=by
 have hsz:=hsz0
 clear hsz0
 have hW':=hW
 obtain⟨p,q,hA0,hV,rfl,hfz,hnd⟩:=hW
 have hA:DataW.TrodAll enc Tryz.prog W 0 (λ_=>true) true Tryz.f8.params.toList args.toList ds p:=hA0
 rw[Tryz.params8]at hA hval hsz
 obtain⟨v0,v1,v2,v3,v4,v5,d0,d1,d2,d3,d4,d5,p0,p1,p2,p3,p4,p5,rfl,rfl,rfl,h0,h1,h2,h3,h4,h5⟩:=T9 hA
 obtain⟨rfl,rfl⟩:=trodVars_none hV
 have c0:=Sx.cap_of Tryz.underlying28 (hval 0 _ _ rfl rfl) h0
 obtain⟨x0,a0,_⟩:=QA (enc:=eI.enc) (λ_=>True) Tryz.underlying28 (k:=1) (by kernel_rfl) (by decide) (λ_=>rfl) qI (hval 0 _ _ rfl rfl) h0
 have c1:=Sx.cap_of Tryz.underlying33 (hval 1 _ _ rfl rfl) h1
 obtain⟨x1,a1,_⟩:=QA (enc:=eE.enc) (λ_=>True) Tryz.underlying33 (k:=2) (by kernel_rfl) (by decide) (λ_=>rfl) mO (hval 1 _ _ rfl rfl) h1
 obtain⟨x2,rfl,rfl,rfl⟩:=open_bool Tryz.underlying4 (hval 2 _ _ rfl rfl) h2
 obtain⟨x3,rfl,rfl,rfl,w3⟩:=open_int Tryz.underlying3 (hval 3 _ _ rfl rfl) h3
 have c4:=Sx.cap_of Tryz.underlying53 (hval 4 _ _ rfl rfl) h4
 obtain⟨x4,a4,_⟩:=QA (enc:=eO.enc) (λ_=>True) Tryz.underlying53 (k:=2) (by kernel_rfl) (by decide) (λ_=>rfl) rU (hval 4 _ _ rfl rfl) h4
 obtain⟨x5,rfl,rfl,rfl,w5⟩:=open_int Tryz.underlying5 (hval 5 _ _ rfl rfl) h5
 have b5:0<=x5/\x5<=255:=by
  have e1:IntKind.u8.min=0:=by decide
  have e2:IntKind.u8.max=255:=by decide
  have:=w5
  simp[Lit.wf,e1,e2]at this;omega
 have hg:=hU (show laidMetH Tryz.prog JU W from hL)
 have l0:∀x∈p0,x.block<W.heap.size:=λx hx=>by have:=hW'.lt x (by simp[hx]);simpa using this
 have l1:∀x∈p1,x.block<W.heap.size:=λx hx=>by have:=hW'.lt x (by simp[hx]);simpa using this
 have l4:∀x∈p4,x.block<W.heap.size:=λx hx=>by have:=hW'.lt x (by simp[hx]);simpa using this
 refine((UG x0 x1 x2 x3 x4 x5 b5).calls hg (Sx.reps_cons (eI.rep_arg (by decide) a0 c0) (Sx.reps_cons (eE.rep_arg (by decide) a1 c1) (Sx.reps_cons (Sx.rep_of_bool x2) (Sx.reps_cons (Sx.rep_of_int .i64 x3) (Sx.reps_cons (eO.rep_arg (by decide) a4 c4) (Sx.reps_cons (Sx.rep_of_int .u8 x5) Sx.reps_nil))))))).mono λe W' ⟨u,y,he,hy,hr,ht⟩=>?_
 subst hy
 obtain rfl:=eQ hr
 subst he
 refine⟨_,rfl,_,_,_,[],p0++(p1++([]++([]++(p4++[])))),[],hW',?_,?_,?_,?_,λh=>by cases h⟩
 ·exact trodAll_mk1 (shut_bool Tryz.underlying4 true)
 ·exact TA (Below.trod SR (by kernel_rfl) (of_decide_eq_true (by kernel_rfl)) h0 ht.below l0) (Below.trod SR (by kernel_rfl) (of_decide_eq_true (by kernel_rfl)) h1 ht.below l1) (shut_bool Tryz.underlying4 x2) (shut_int Tryz.underlying3 w3) (Below.trod SR (by kernel_rfl) (of_decide_eq_true (by kernel_rfl)) h4 ht.below l4) (shut_int Tryz.underlying5 w5)
 ·rfl
 ·refine⟨ht.os,ht.output,λi hi=>?_⟩
  rw[ht.blk i hi (by simp)]
  have hsome:∃o,W.heap[i]? =some o:=⟨_,B3 hi⟩
  obtain⟨o,ho⟩:=hsome
  rw[ho]
  cases o<;>simp
theorem Nd(os:Os) {H:Type}(enc:TypeId×Value->H):∃places,DataW.whole enc Tryz.prog ((Nv os).forCall (λ_ _=>0) ⟨#[],#[.slice none 0 0,.slice none 0 0,.bool false,.int .i64 0,.slice none 0 0,.int .u8 0],[]⟩).memory Tryz.f8.params.toList Rows.levelTablesSpec.vars false #[.slice none 0 0,.slice none 0 0,.bool false,.int .i64 0,.slice none 0 0,.int .u8 0].toList 8=some ([.nil,.nil,.lit (.bool false),.lit (.int .i64 0),.nil,.lit (.int .u8 0)],[],places):=
 ⟨[],by kernel_rfl⟩
set_option maxRecDepth 100000 in
theorem Mm(os:Os)(started:os.Started)(H:Type)(enc:TypeId×Value->H)(F:Stop.Interp):
  ReturnsInHanded {} Tryz.checked os 8 .any ((OpenSpec.ofChange Rows.levelTablesSpec).preRow enc Tryz.prog Tryz.f8 Rows.levelTablesRow.domain false Rows.levelTablesRow.laid) (((OpenSpec.ofChange Rows.levelTablesSpec).at F).post enc Tryz.prog Tryz.f8 false true false false):=by
 obtain⟨places,hx⟩:=Nd os enc
 refine returnsInHanded_of_row (C:=Tryz.checked) (s:=OpenSpec.ofChange Rows.levelTablesSpec) own started (by kernel_rfl) Tryz.func8
  (witness_row_at (enc:=enc) (C:=Tryz.checked) false (Nv os) #[.slice none 0 0,.slice none 0 0,.bool false,.int .i64 0,.slice none 0 0,.int .u8 0] rfl (by kernel_rfl) (by kernel_rfl) (by kernel_rfl)
   (OpenSpec.preRow_of_cond 8 hx (by kernel_rfl) (λk hk=>by cases hk) (by kernel_rfl) (QO os _))) ?_
 intro W base args ds gs before hval hW _ _ hsz hL hsh _
 exact Kd H enc W base args ds gs before hval hW hsz hL hsh
end Go.Proofs.YtjejpdfldmempaaGreatDoor
end
section
namespace Go.Proofs.YtjejpdfldmempaaGreatDoor
open Go.ChangeShapes Go.WideShapes Go.ChangeAt
theorem Lt:(Rows.levelTablesRow.wf (OpenSpec.ofChange (OpenSpec.ofChange Rows.levelTablesSpec).bare))=true:=by kernel_rfl
theorem Ls:(laidOutB Tryz.pinned.checked.prog)=true:=by kernel_rfl
theorem Lr:(mapsRowed Tryz.pinned.checked.prog)=true:=by kernel_rfl
theorem Lq:(Tryz.f8.params.all (Tryz.pinned.checked.prog.readableRec ·))=true:=by kernel_rfl
theorem Lp:(namedTie Tryz.pinned.checked.prog Rows.levelTablesRow.named (OpenSpec.ofChange Rows.levelTablesSpec).bare.vars)=true:=by kernel_rfl
theorem Ln:((Rows.levelTablesRow.stops==[]))=true:=by kernel_rfl
theorem Lm:((Tryz.pinned.checked.prog.stops==[]))=true:=by kernel_rfl
theorem Ll:((Rows.levelTablesRow.knobs==[]))=true:=by kernel_rfl
theorem Lk:((Tryz.pinned.checked.prog.stopKnobs==[]))=true:=by kernel_rfl
theorem Lj:((Rows.levelTablesRow.inPlace==Tryz.pinned.checked.prog.inPlace 8))=true:=by kernel_rfl
theorem Ky:((Rows.levelTablesRow.unfollowed==Tryz.pinned.checked.prog.unfollowed 8))=true:=by kernel_rfl
theorem Kx:((Rows.levelTablesRow.recurses==Tryz.pinned.checked.prog.recurses 8))=true:=by kernel_rfl
theorem Kw:((Rows.levelTablesRow.named==Tryz.pinned.checked.prog.varsNamed 8))=true:=by kernel_rfl
theorem Kv:((Rows.levelTablesRow.maps==(Tryz.f8.params.toList++(OpenSpec.ofChange Rows.levelTablesSpec).bare.plain.varTypes Tryz.pinned.checked.prog).any (Tryz.pinned.checked.prog.mapsRec ·)))=true:=by kernel_rfl
theorem Ku:((Rows.levelTablesRow.ifaces==(Tryz.f8.params.toList++(OpenSpec.ofChange Rows.levelTablesSpec).bare.plain.varTypes Tryz.pinned.checked.prog).any (Tryz.pinned.checked.prog.ifacesRec ·)))=true:=by kernel_rfl
theorem Kt:((Rows.levelTablesRow.mapsOut==Tryz.pinned.checked.prog.mapsAmong Tryz.f8.resultTypes.toList))=true:=by kernel_rfl
theorem Ks:((Rows.levelTablesRow.loops==(Tryz.f8.params.toList++(OpenSpec.ofChange Rows.levelTablesSpec).bare.plain.varTypes Tryz.pinned.checked.prog).any (Tryz.pinned.checked.prog.loopsFrom ·)))=true:=by kernel_rfl
theorem Kr:((Rows.levelTablesRow.wideKeys==(Tryz.f8.params.toList++(OpenSpec.ofChange Rows.levelTablesSpec).bare.plain.varTypes Tryz.pinned.checked.prog++Tryz.f8.resultTypes.toList).any (Tryz.pinned.checked.prog.wideKeysFrom ·)))=true:=by kernel_rfl
theorem Kq:((OpenSpec.ofChange Rows.levelTablesSpec).bare.vars.all (Tryz.pinned.checked.prog.varReadable ·))=true:=by kernel_rfl
theorem Kp:(Tryz.f8.resultTypes.all (λt=>Tryz.pinned.checked.prog.readableRec t&&decide (t<Tryz.pinned.checked.prog.types.size)))=true:=by kernel_rfl
theorem Ko:((Rows.levelTablesRow.ifacesOut==Tryz.f8.resultTypes.toList.any (Tryz.pinned.checked.prog.ifacesRec ·)))=true:=by kernel_rfl
theorem Kn:((Rows.levelTablesRow.loopsOut==Tryz.f8.resultTypes.toList.any (Tryz.pinned.checked.prog.loopsFrom ·)))=true:=by kernel_rfl
theorem Km:((Rows.levelTablesRow.plainKeys==Tryz.pinned.checked.prog.plainKeys))=true:=by kernel_rfl
theorem Kl:(Rows.levelTablesRow.shortTexts.isNone)=true:=by kernel_rfl
theorem Kk:(Tryz.pinned.checked.prog.stopsHeard)=true:=by kernel_rfl
theorem Kj:(Tryz.pinned.checked.prog.mayEnter)=true:=by kernel_rfl
theorem Ki:((Rows.levelTablesRow.lifted==Tryz.pinned.checked.prog.liftsFinal))=true:=by kernel_rfl
theorem Kh:((Tryz.pinned.checked.prog.make==some Rows.levelTablesRow.make))=true:=by kernel_rfl
theorem Kg:((Rows.levelTablesRow.pinned==Rows.levelTablesRow.pinnedBy))=true:=by kernel_rfl
theorem Kf:((Rows.levelTablesRow.veiled==(Tryz.f8.params.toList++(OpenSpec.ofChange Rows.levelTablesSpec).bare.plain.varTypes Tryz.pinned.checked.prog++Tryz.f8.resultTypes.toList).any (Tryz.pinned.checked.prog.veiledRec ·)))=true:=by kernel_rfl
theorem Ke:(Rows.levelTablesRow.veiledFits Tryz.pinned.checked.prog Tryz.f8.params.toList (Tryz.f8.params.toList++(OpenSpec.ofChange Rows.levelTablesSpec).bare.plain.varTypes Tryz.pinned.checked.prog++Tryz.f8.resultTypes.toList))=true:=by kernel_rfl
theorem MA:joinedFacts Tryz.pinned.checked.prog 8 Tryz.f8 (OpenSpec.ofChange Rows.levelTablesSpec).bare Rows.levelTablesRow=true:=by
 unfold joinedFacts
 rw[Lt,Ls,Lr,Lq,Lp,Ln,Lm,Ll,Lk,Lj,Ky,Kx,Kw,Kv,Ku,Kt,Ks,Kr,Kq,Kp,Ko,Kn,Km,Kl,Kk,Kj,Ki,Kh,Kg,Kf,Ke]
 simp only[Bool.true_and,Bool.and_true]
 kernel_rfl
end Go.Proofs.YtjejpdfldmempaaGreatDoor
end
