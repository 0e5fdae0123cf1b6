/- Merged: Rso Rcl Lgi Mnb Mnc Dom Mps Mpo Own Alk Lca Mrb Rdm Lct Qfw Lrl Rsl Rfr Rfq Gsm Afm Lfm. -/
import Derived.Test.YtjpmmkodoeipmaaGreatDoorrkay
import Derived.Test.YtjpmmkodoeipmaaGreatDoorrkat
import Derived.Shelf.SlSortCmp.Whole1
import Derived.Shelf.Spec.SlicesGrow
import Derived.Test.YtjpmmkodoeipmaaGreatDoorRows
import Derived.Test.YtjpmmkodoeipmaaGreatDoorrkax
import Derived.Test.YtjpmmkodoeipmaaGreatDoorrkau
import Derived.Test.YtjpmmkodoeipmaaGreatDoorrkav
import Derived.Test.YtjpmmkodoeipmaaGreatDoorrkar
import Derived.Test.YtjpmmkodoeipmaaGreatDoorrkas
import Derived.Test.YtjpmmkodoeipmaaGreatDoorrkaw
import Derived.Shelf.SlSortCmp.WholeK
import Derived.Test.YtjpmmkodoeipmaaGreatDoorrkan
import Derived.Shelf.Strconv.Itoa4
section
namespace Go.Reg
open Go Go.RowKit Go.Sort Go.Proofs
section
variable {α:Type} [Inhabited α] {enc:α->Value} {E:Nat} {w:World} {l:List α} {g cap:Nat}
theorem Xd(d:Array α)(t:Nat)(h:t<d.size):(flatK (λx=>[enc x]) 1 d)[t]! =enc d[t]! :=by
 rw[get_flatK _ _ _ _ (by omega)]
 simp[Nat.mod_one]
theorem put1(w:World)(g:Nat)(d:Array α):putRow enc w g 0 d=putRowK (λx=>[enc x]) 1 w g 0 d:=by
 unfold putRowK putRow
 congr 1
 funext c
 unfold putCells
 congr 1
 funext k x
 simp only[size_flatK,FA,DT,Nat.sub_zero,Am,true_and]
 split
 ·rename_i h;rw[Xd _ _ h];rfl
 ·rfl
theorem ACQ(n:Nat)(d:Array α)(os:Array Obj):sortWorld enc w g 0 n d os=sortWorldK (λx=>[enc x]) 1 w g 0 n d os:=by unfold sortWorld sortWorldK;rw[put1]
theorem Sl.holdsV(h:Sl E 1 (λx=>[enc x]) w (.slice (some ⟨g,0,none⟩) l.length cap) l):Go.Sort.Holds enc w g 0 l.toArray:=by
 intro j hj
 have:=Sl.holdsK (enc:=λx=>[enc x]) (k:=1) (λ_=>rfl) (by decide) h j (by simpa using hj)
 rwa [Xd _ _ hj]at this
end
end Go.Reg
namespace Go.Proofs.YtjpmmkodoeipmaaGreatDoor
open Go.Sx Go.RowKit Go.Reg Go.Gr Go.Sort
set_option maxRecDepth 100000
theorem ADM(s:Nat)(a b:Int)(W:World)(c0:W.cell? ⟨s,0,none⟩=some (.int .i64 a))(c1:W.cell? ⟨s,1,none⟩=some (.int .i64 b)):
  Calls Tryz.prog 30 #[.slice (some ⟨s,0,none⟩) 2 2] W λe w'=>e=.returned (.int .i64 (O9 [a,b]))/\W=w':=by
 have hz:((0:Int) !=0)=false:=by simp
 by_cases ha:a=0
 ·subst ha
  by_cases hb:b=0
  ·subst hb
   go_enter Tryz.func30,Tryz.ntmps30
   go_wp2_with fail
   refine wp_loop_rounds 3 ?_
   rw[rounds_succ]
   go_wp2_with fail
   rw[rounds_succ]
   go_wp2_with fail
   rw[rounds_succ]
   go_wp2_with fail
   go_ret
   exact⟨rfl,rfl⟩
  ·have hb':(b !=0)=true:=by simpa using hb
   have e1:O9 [0,b]=b:=by simp[O9,hb]
   rw[e1]
   clear e1 hb
   go_enter Tryz.func30,Tryz.ntmps30
   go_wp2_with fail
   refine wp_loop_rounds 2 ?_
   rw[rounds_succ]
   go_wp2_with fail
   rw[rounds_succ]
   go_wp2_with fail
   go_ret
   exact⟨rfl,rfl⟩
 ·have ha':(a !=0)=true:=by simpa using ha
  have e1:O9 [a,b]=a:=by simp[O9,ha]
  rw[e1]
  clear e1 ha
  go_enter Tryz.func30,Tryz.ntmps30
  go_wp2_with fail
  refine wp_loop_rounds 1 ?_
  rw[rounds_succ]
  go_wp2_with fail
  go_ret
  exact⟨rfl,rfl⟩
theorem AAq(s1 s2:Value)(l r:List Int)(W:World)(h1:EB 1 JI W s1 l)(h2:EB 1 JI W s2 r):
  Calls Tryz.prog 73 #[s1,s2] W λe w'=>e=.returned (.int .i64 (OU l r))/\∃n os,w'=grow (W.drewN n) os:=by
 obtain⟨a1,c1,rfl⟩:=D5 h1
 obtain⟨a2,c2,rfl⟩:=D5 h2
 have H1:=Ga h1
 have H2:=Ga h2
 clear h1 h2
 rw[ACx]
 go_enter Tryz.func73,Tryz.ntmps73
 go_wp2_with (first|(go_at_call 31;refine(F5 _ _ _).mono ?_;rintro e w' ⟨rfl,rfl⟩)|(go_at_call 32;refine(P3 _ _ l r _ H1.out H2.out).mono ?_;rintro e w' ⟨rfl,rfl⟩)|(go_at_call 30;refine(ADM _ _ _ _ (Nz _ _ _ rfl rfl) (Nz _ _ _ rfl rfl)).mono ?_;rintro e w' ⟨rfl,rfl⟩))
 go_ret
 exact⟨rfl,zL (q:=0) (os:=#[]) (by rw[grow_empty];rfl)⟩
abbrev YH(O:List Nat)(w:World):={c:Value×List Int//RepC O w (Bn c.2) [c.1]}
def cQ {O:List Nat} {w:World}(x:YH O w):Value:=x.1.1
instance {O:List Nat} {w:World}:Inhabited (YH O w):=⟨⟨(.slice none 0 0,[]),iX O w 1⟩⟩
theorem WN {O:List Nat} {w:World}:∀{L:List (List Int)} {css:List (List Value)},Aq O w (L.map Bn) css->∃xs:List (YH O w),xs.map (λx=>[cQ x])=css/\xs.map (λx=>x.1.2)=L
 |[],css,h=>by simp only[Bu,Aq]at h;subst h;exact⟨[],rfl,rfl⟩
 |
  r::L,css,h=>by
  simp only[Ar,Aq]at h
  obtain⟨c1,c2,rfl,h1,h2⟩:=h
  obtain⟨xs,e1,e2⟩:=WN h2
  obtain⟨v,rfl⟩:=Cz.1 (show c1.length=1 from FF _ _ h1)
  exact⟨⟨(v,r),h1⟩::xs,by rw[Ar,e1];rfl,by rw[Ar,e2]⟩
theorem Wa {O:List Nat} {w:World}:∀xs:List (YH O w),Aq O w ((xs.map λx=>x.1.2).map Bn) (xs.map λx=>[cQ x])
 |[]=>by simp[Aq]
 |
  x::xs=>by
  simp only[Ar,Aq]
  exact⟨_,_,rfl,x.2,Wa xs⟩
theorem cP {O:List Nat} {w:World}(x:YH O w):(cQ x).oneCell'=true:=by
 obtain⟨_,_,e⟩:=D5 (AC7 x.2)
 show x.1.1.oneCell'=true
 rw[e];rfl
theorem AFB {α:Type} {f:α->List Int}:SWO (ltOf λx y=>OU (f x) (f y))where
 irrefl x:=by have:=VF.self (f x);simp[ltOf];omega
 trans x y z h1 h2:=by
  simp only[ltOf,decide_eq_true_eq]at*
  exact VF.trans _ _ _ h1 h2
 ntrans x y z h1 h2:=by
  simp only[ltOf,decide_eq_false_iff_not]at*
  intro h3
  by_cases h0:OU (f x) (f y)=0
  ·rw[(VF.eq0 _ _).1 h0]at h3;exact h2 h3
  ·exact h2 (VF.trans _ _ _ ((VF.anti (f x) (f y)).2 (by omega)) h3)
theorem pN(L:List (List Int))(hl:L.length<=4294967296):RP C3 72 22 1 (L.map Bn) [.func (.func 73) [] []] (λ_ ds=>ds=(sortC L).map Bn):=by
 intro O w v css us hs hb hO hr hk hg hus
 obtain⟨u,us',rfl,h1,h2⟩:=Cn hus
 obtain rfl:=Ds h2
 obtain⟨cs,r,rfl⟩:=h1
 simp only[RepC,Aq]at r
 obtain⟨_,_,rfl,rfl,rfl⟩:=r
 obtain⟨xs,rfl,rfl⟩:=WN hr
 have hun:∀w':World,Rep O w' (.tuple []) (.tuple #[]):=λw'=>⟨[.tuple #[]],by simp only[RepC,Aq];exact⟨[],rfl,rfl⟩,rfl⟩
 have hs2:Sl 22 1 (λx:YH O w=>[cQ x]) w v xs:=by
  unfold Sl at hs⊢
  rw[Ac,G0]at hs
  exact hs
 refine⟨by kernel_rfl,?_⟩
 rcases hs2.shape with⟨rfl,rfl⟩|⟨g,cap,rfl,hc⟩
 ·refine(AnyF.slices_SortFunc_none {Tryz.sortC with} none 0 _ w).mono ?_
  rintro e w' ⟨rfl,rfl⟩
  exact⟨.tuple #[],.tuple [],[],[],rfl,by simp[sortC],hs,by simp[Aq],by simp,hun _,Tch.refl _ _⟩
 ·have hgO:∀b∈[g],b∈O:=λb hb2=>hb b (by rw[As.1 hb2];simp[Value.ownBlock])
  rw[Ac]at hl
  refine(Any.slices_SortFunc Tryz.sortC cQ cP (λx y=>OU x.1.2 y.1.2) (AFB (f:=λx:YH O w=>x.1.2)) 73 #[] g 0 cap xs.toArray w
   (enters_of Tryz.func73 (by kernel_rfl) rfl) (λm os dk hdk x y=>?_) hs2.holdsV (hs2.lt rfl) (by simp;omega)).mono ?_
  ·obtain⟨_,hT⟩:=Sl.sorted (enc:=λx:YH O w=>[cQ x]) (k:=1) (λ_=>rfl) (by decide) hs2 dk (by simpa using hdk) m os
   rw[ACQ]
   exact AAq _ _ _ _ _ (AC7 (RepC.later (Hq hT hgO) _ _ x.2)) (AC7 (RepC.later (Hq hT hgO) _ _ y.2))
  ·rintro e w' ⟨rfl,d,n,os,hp,hso,rfl⟩
   obtain⟨hp1,hp2,hp3⟩:=hp
   have hd:d.size=xs.length:=by simpa using hp1
   rw[ACQ]
   obtain⟨hS,hT⟩:=Sl.sorted (enc:=λx:YH O w=>[cQ x]) (k:=1) (λ_=>rfl) (by decide) hs2 d hd n os
   have hperm:d.toList.Perm xs:=by
    have e1:d.extract 0 xs.toArray.size=d:=by rw[<-hp1];exact Ex
    have e2:xs.toArray.extract 0 xs.toArray.size=xs.toArray:=Ex
    rw[e1,e2]at hp3
    exact hp3
   have hsrt:(d.toList.map λx=>x.1.2)=sortC (xs.map λx=>x.1.2):=by
    refine Zl (hperm.map _) ?_
    rw[B7,AO]
    intro i j hi hj hij
    have hj':j<xs.length:=by rw[<-hd];simpa using hj
    have hi':i<xs.length:=by omega
    have:=hso i j (Am _) hij (by simpa using hj')
    rw[getElem!_pos d j (by omega),getElem!_pos d i (by omega)]at this
    simpa[ltOf]using this
   refine⟨.tuple #[],.tuple [],(d.toList.map λx=>x.1.2).map Bn,d.toList.map λx=>[cQ x],rfl,by rw[hsrt],?_,Aq.later (Hq hT hgO) _ _ (Wa _),?_,hun _,?_⟩
   ·unfold Sl at hS⊢
    rw[Ac,G0]
    exact hS
   ·intro x hx
    obtain⟨e,_,rfl⟩:=An.1 hx
    exact⟨rfl,λu hu=>by rw[As.1 hu];exact cP e⟩
   ·simpa[Value.ownBlock]using hT
end Go.Proofs.YtjpmmkodoeipmaaGreatDoor
end
section
namespace Go.Proofs.YtjpmmkodoeipmaaGreatDoor
open Go.Sx Go.RowKit Go.Reg Go.Gr
set_option maxRecDepth 100000
section
variable {G:Gr} {e:Bool} {d:Int} {l:List Opp}
set_option maxHeartbeats 4000000 in
theorem VK(L:List (List (List Int)))(q:List Int->Pt)(V:List Int->List Int)(hLl:L.length<=1000)(hL:L.flatten.length<=40000)(hX:∀R∈L,∀X∈R,X.length<=1000)(hq:∀R∈L,∀X∈R,PatAt G e d l q V X):
  Pure C3 28 [dJ G e d l,OS L] (λy=>y=.tuple [.list 1 ((sortC (L.flatten.map Kk)).map Bn),.nili]):=by
 have hdL:(L.map QG).length=L.length:=Ac _
 have hfl:∀n,((L.take n).flatten).length<=L.flatten.length:=λn=>by
  conv=>rhs;rw[<-Cf n L,Df,Ah]
  omega
 refine Oe Tryz.func28 Tryz.ntmps28 [] [] ?_
 (conv=>whnf)
 refine AR (ι:=Nat) (λn=>n<=L.length) (λn=>[(16,.d (.int .i64 n)),(15,.d (.int .i64 (L.map QG).length)),(14,.d (OS L)),(6,.own 300),(2,.own 2)]) (λn=>[(300,.slice 22 1 (((L.take n).flatten.map Kk).map Bn)),(2,.cells 43 [.d (dG G),.d (.bool e),.d (.int .i64 d),.d (Ka l)])]) (λn=>L.length-n) 0 (λ_=>rfl) (Am _) (.own 6 300 22 1 rfl rfl (.refl _ _)) ⟨rfl,rfl,rfl,rfl,rfl,trivial⟩ ⟨rfl,rfl,trivial⟩ ?_
 intro n hn
 refine Hf [] [] ?_
 by_cases hnl:n<L.length
 ·have hx:L[n]? =some L[n]:=Ab hnl
  have hxm:=A8 hx
  have htk:(L.take (n+1)).flatten=(L.take n).flatten++L[n]:=by rw[Ay,hx,AU,Df];simp
  have hln:=hfl (n+1)
  generalize L[n]=R at hx hxm htk
  have hxd:(L.map QG)[n]? =some (.list 1 (R.map Bn)):=by rw[Ad,hx];rfl
  have hdR:(R.map Bn).length=R.length:=Ac _
  have hrl:=congrArg List.length htk
  rw[Ah]at hrl
  (conv=>whnf)
  (repeat' ((first|refine Aj ?_ ?_|refine AP hxd rfl ?_|refine nx ?_|refine AD (λ_=>?_) (λ_=>?_)|exact AG)<;>conv=>whnf))
  refine AR (ι:=Nat) (λi=>i<=R.length) (λi=>[(22,.d (.int .i64 i)),(21,.d (.int .i64 (R.map Bn).length)),(20,.d (.list 1 (R.map Bn))),(16,.d (.int .i64 n)),(15,.d (.int .i64 (L.map QG).length)),(14,.d (OS L)),(6,.own 300),(2,.own 2)]) (λi=>[(300,.slice 22 1 ((((L.take n).flatten++R.take i).map Kk).map Bn)),(2,.cells 43 [.d (dG G),.d (.bool e),.d (.int .i64 d),.d (Ka l)])]) (λi=>R.length-i) 0 (λ_=>rfl) (Am _) (.refl _ _) ⟨rfl,rfl,rfl,rfl,rfl,rfl,rfl,rfl,trivial⟩ ⟨Bk (by simp),rfl,trivial⟩ ?_
  intro i hi
  refine Hf [] [] ?_
  by_cases hil:i<R.length
  ·have hy:R[i]? =some R[i]:=Ab hil
   have hym:=A8 hy
   have hsn:((L.take n).flatten++R.take (i+1)).map Kk=((L.take n).flatten++R.take i).map Kk++[Kk R[i]]:=by rw[Ay,hy,AU,<-Bj,A7];rfl
   have hzl:((L.take n).flatten++R.take i).length<=40000:=by rw[Ah,AA];omega
   generalize R[i]=X at hy hym hsn
   have hyd:(R.map Bn)[i]? =some (Bn X):=by rw[Ad,hy];rfl
   have hpt:=Pure.up3 (hq R hxm X hym).pat
   have hso:=Pure.up3 (Ma X (by have:=hX R hxm X hym;omega))
   have hdz:(((L.take n).flatten++R.take i).map Kk).length<=40000:=by rw[Ac];exact hzl
   generalize ((L.take n).flatten++R.take i).map Kk=Z at hsn hdz⊢
   have hdz2:(Z.map Bn).length=Z.length:=Ac _
   (conv=>whnf)
   (repeat' ((first|refine Aj ?_ ?_|refine AP hyd rfl ?_|refine Af rfl hpt ?_|refine Af rfl (Pure.up3 (Ig X)) ?_|refine Af rfl hso ?_|refine nx ?_|refine AD (λ_=>?_) (λ_=>?_)|exact AG)<;>conv=>whnf))
   exact⟨i+1,_,_,hil,.refl _ _,⟨rfl,rfl,rfl,rfl,rfl,rfl,rfl,rfl,trivial⟩,⟨Bk (by rw[hsn,A7];rfl),rfl,trivial⟩,by omega⟩
  ·rw[Al (show R.length<=i by omega),<-htk]
   ((conv=>whnf);repeat' ((first|refine odw ?_|refine nx ?_|refine AD (λ_=>?_) (λ_=>?_))<;>conv=>whnf))
   exact⟨n+1,_,_,hnl,.refl _ _,⟨rfl,rfl,rfl,rfl,rfl,trivial⟩,⟨rfl,rfl,trivial⟩,by omega⟩
 ·rw[Al (show L.length<=n by omega)]
  ((conv=>whnf);repeat' ((first|refine odw ?_|refine nx ?_|refine AD (λ_=>?_) (λ_=>?_))<;>conv=>whnf))
  refine MR (i:=300) rfl rfl (pN (L.flatten.map Kk) (by rw[Ac];omega)) ?_
  rintro y ds rfl
  ((conv=>whnf);repeat' ((first|refine odw ?_|refine nx ?_|refine AD (λ_=>?_) (λ_=>?_))<;>conv=>whnf))
  exact rfl
end
end Go.Proofs.YtjpmmkodoeipmaaGreatDoor
end
section
namespace Go.Proofs
open Go.Shelf
def Tryz.growI_ren:Go.Shelf.Ren:=⟨λ|4=>281|n=>n,λ|22=>22|25=>3|3=>3|4=>4|9=>9|20=>20|0=>0|n=>n,λ|n=>n⟩
theorem Tryz.growI:Go.Proofs.Lays8.n4 Tryz.prog Tryz.growI_ren:={
 mixed:=by kernel_rfl
 f4:=⟨Tryz.f281.name,by decide,Tryz.func281.trans (congrArg some (by kernel_rfl))⟩
 t0:=Tryz.underlying0
 a0:=Tryz.isAgg0
 z0:=Tryz.sizeOf0
 v0:=Tryz.zeroValue0
 t3:=Tryz.underlying3
 a3:=Tryz.isAgg3
 z3:=Tryz.sizeOf3
 v3:=Tryz.zeroValue3
 t4:=Tryz.underlying4
 a4:=Tryz.isAgg4
 z4:=Tryz.sizeOf4
 v4:=Tryz.zeroValue4
 t9:=Tryz.underlying9
 a9:=Tryz.isAgg9
 z9:=Tryz.sizeOf9
 v9:=Tryz.zeroValue9
 t20:=Tryz.underlying20
 a20:=Tryz.isAgg20
 z20:=Tryz.sizeOf20
 v20:=Tryz.zeroValue20
 t22:=Tryz.underlying22
 a22:=Tryz.isAgg22
 z22:=Tryz.sizeOf22
 v22:=Tryz.zeroValue22}
end Go.Proofs
end
section
namespace Go.Proofs.YtjpmmkodoeipmaaGreatDoor
open Go.Sx Go.RowKit Go.Reg Go.Gr
set_option maxRecDepth 100000
theorem ABN:(Tryz.prog.info? 3).map (λi=>(i.zero,i.size,i.bytes))=some (some (.int .i64 0),1,8):=by kernel_rfl
theorem kG(m:Nat)(hm:m<=2000000000):E5 C1 281 [.nils,.int .i64 m] 3 1 (λds=>ds=[]):=by
 intro O w us hO hg hr
 obtain⟨v,vs,rfl,h1,h2⟩:=Cn hr
 obtain⟨v2,vs2,rfl,h3,h4⟩:=Cn h2
 obtain rfl:=Ds h4
 have e1:v=.slice none 0 0:=by
  obtain⟨cs,r,e⟩:=h1
  simp only[RepC]at r
  subst r;exact e
 have e2:v2=.int .i64 m:=by
  obtain⟨cs,r,e⟩:=h3
  simp only[RepC]at r
  subst r;exact e
 subst e1 e2
 refine⟨by kernel_rfl,?_⟩
 obtain⟨i0,hi0,ez,es,eb⟩:∃i0,Tryz.prog.info? 3=some i0/\i0.zero=some (.int .i64 0)/\i0.size=1/\i0.bytes=8:=by
  have:=ABN
  cases hq:Tryz.prog.info? 3 with
  |none=>rw[hq]at this;cases this
  |some i=>rw[hq]at this;simp only[CA,AB,Prod.mk.injEq]at this;exact⟨i,rfl,this⟩
 by_cases h0:m=0
 ·subst h0
  refine(Any8.slices_Grow_room Tryz.growI none 0 0 0 w (by omega) (by omega) (by omega) (by omega)).mono ?_
  rintro e w' ⟨rfl,rfl⟩
  exact⟨_,[],[],rfl,rfl,fI _ 0 _ _,(λb hb=>by cases hb),rfl,(λx hx=>by cases hx),Tch.refl _ _⟩
 ·refine(Any8.slices_Grow_grow Tryz.growI i0 (.int .i64 0) hi0 ez (by omega) none 0 0 m [] w (by omega) (by omega) (by rw[eb];omega) (by omega) (by simp) (λ_=>rfl) (λa ha=>by cases ha)).mono ?_
  rintro e w' ⟨rfl,rfl⟩
  have hGn:0+m<=grownCap w (0+m) 0 3:=grownCap_ge w _ _ _
  have hGm:grownCap w (0+m) 0 3<=maxLen:=grownCap_le_maxLen w (0+m) 0 _ (by unfold maxLen;omega)
  have hren:Tryz.growI_ren.t 25=3:=rfl
  rw[hren]
  generalize grownCap w (0+m) 0 3=G at hGn hGm⊢
  obtain⟨ROW,hROW⟩:∃R,R=(([]:List Value).toArray++Builtin.zeroCells (Value.int .i64 0).cells (0+m-0)++Builtin.zeroCells (Value.int .i64 0).cells (G- (0+m))):=⟨_,rfl⟩
  have hs:ROW.size=G*1:=by
   rw[hROW]
   simp only[Pr,BC,Bt,size_zeroCells,Value.cells]
   simp;omega
  rw[<-hROW]
  refine⟨_,[],[],rfl,rfl,?_,?_,rfl,(λx hx=>by cases hx),(Tch.drew w []).trans0 (Tch.alloc _ _ _)⟩
  ·exact⟨rfl,.inr ⟨w.heap.size,G,ROW,rfl,Am _,(by show(w.heap.push (Obj.cells ROW 3))[w.heap.size]? =_;simp),Am _,hGm,hs,by simp⟩⟩
  ·intro b hb
   simp only[Value.ownBlock,AB]at hb
   omega
theorem Vc {L:List (List Int)} {i:Nat} {l:List Int}(h:L[i]? =some l):(L.take (i+1)).flatten=(L.take i).flatten++l:=by
 rw[Ay,h,AU,Df];simp
theorem zT(L:List (List Int))(i:Nat):(L.take i).flatten.length<=L.flatten.length:=by
 conv=>rhs;rw[<-Cf i L,Df,Ah]
 omega
set_option maxHeartbeats 4000000 in
theorem Y8(L:List (List Int))(hL:L.length<=1000)(hf:L.flatten.length<=2000000000):Pure C1 253 [.list 1 (L.map Bn)] (λy=>y=Bn L.flatten):=by
 have hdL:(L.map Bn).length=L.length:=Ac _
 have hfl:=zT L
 refine AW Tryz.func253 Tryz.ntmps253 [] [] ?_
 ((conv=>whnf);repeat' ((first|refine odw ?_|refine nx ?_|refine AD (λ_=>?_) (λ_=>?_))<;>conv=>whnf))
 refine AR (ι:=Nat) (λi=>i<=L.length) (λi=>[(11,.d (.int .i64 i)),(10,.d (.int .i64 (L.map Bn).length)),(9,.d (.list 1 (L.map Bn))),(3,.d (.int .i64 ((L.take i).flatten.length:Nat))),(0,.d (.list 1 (L.map Bn)))]) (λ_=>[]) (λi=>L.length-i) 0 (λ_=>rfl) (Am _) (.refl _ _) ⟨rfl,rfl,rfl,rfl,rfl,trivial⟩ trivial ?_
 intro i hi
 refine Cd [] [] ?_
 by_cases hil:i<L.length
 ·have hx:=Ab hil
  generalize L[i]=x at hx
  have hxd:(L.map Bn)[i]? =some (Bn x):=by rw[Ad,hx];rfl
  have hdx:(x.map dI).length=x.length:=Ac _
  have hst:=congrArg List.length (Vc hx)
  rw[Ah]at hst
  have h1:=hfl (i+1)
  (conv=>whnf)
  (repeat' ((first|refine Aj ?_ ?_|refine AP hxd rfl ?_|refine nx ?_|refine AD (λ_=>?_) (λ_=>?_)|exact AG)<;>conv=>whnf))
  exact⟨i+1,_,_,hil,.refl _ _,⟨rfl,rfl,rfl,OK (by omega),rfl,trivial⟩,trivial,by omega⟩
 ·have e:L.take i=L:=Al (by omega)
  rw[e]
  ((conv=>whnf);repeat' ((first|refine odw ?_|refine nx ?_|refine AD (λ_=>?_) (λ_=>?_))<;>conv=>whnf))
  refine EH 24 rfl rfl (kG _ hf) ?_;rintro ds rfl
  ((conv=>whnf);repeat' ((first|refine odw ?_|refine nx ?_|refine AD (λ_=>?_) (λ_=>?_))<;>conv=>whnf))
  refine AR (ι:=Nat) (λi=>i<=L.length) (λi=>[(27,.d (.int .i64 i)),(26,.d (.int .i64 (L.map Bn).length)),(25,.d (.list 1 (L.map Bn))),(6,.own 24)]) (λi=>[(24,.slice 3 1 ((L.take i).flatten.map dI))]) (λi=>L.length-i) 0 (λ_=>rfl) (Am _) (.refl _ _) ⟨rfl,rfl,rfl,rfl,trivial⟩ ⟨rfl,trivial⟩ ?_
  intro i hi
  refine Cd [] [] ?_
  by_cases hil:i<L.length
  ·have hx:=Ab hil
   generalize L[i]=x at hx
   have hxd:(L.map Bn)[i]? =some (Bn x):=by rw[Ad,hx];rfl
   have hdx:(x.map dI).length=x.length:=Ac _
   have hst:=Vc hx
   have hsl:=congrArg List.length hst
   rw[Ah]at hsl
   have h1:=hfl (i+1)
   generalize (L.take i).flatten=Z at hst hsl⊢
   have hdz:(Z.map dI).length=Z.length:=Ac _
   (conv=>whnf)
   (repeat' ((first|refine Aj ?_ ?_|refine AP hxd rfl ?_|refine nx ?_|refine AD (λ_=>?_) (λ_=>?_)|exact AG)<;>conv=>whnf))
   exact⟨i+1,_,_,hil,.refl _ _,⟨rfl,rfl,rfl,rfl,trivial⟩,⟨Bk (by rw[hst,A7]),trivial⟩,by omega⟩
  ·have e:L.take i=L:=Al (by omega)
   rw[e]
   ((conv=>whnf);repeat' ((first|refine odw ?_|refine nx ?_|refine AD (λ_=>?_) (λ_=>?_))<;>conv=>whnf))
   exact rfl
theorem AAu(l:List Int)(hr:l.Pairwise (· < ·))(hl:l.length<=4294967296)(e:Int):Pure C1 252 [Bn l,.int .i64 e] (λy=>∃m:Nat,(m<=l.length/\(∀z∈l.take m,z<e)/\∀z∈l.drop m,¬z<e)/\y=.tuple [.int .i64 m,.bool (decide (e∈l))]):=by
 have hlm:(l.map dI).length=l.length:=Ac _
 refine AW Tryz.func252 Tryz.ntmps252 [] [] ?_
 ((conv=>whnf);repeat' ((first|refine odw ?_|refine nx ?_|refine AD (λ_=>?_) (λ_=>?_))<;>conv=>whnf))
 refine AR (ι:=Nat×Nat) (λx=>x.1<=x.2/\x.2<=l.length/\(∀z∈l.take x.1,z<e)/\∀z∈l.drop x.2,¬z<e)
  (λx=>[(8,.d (.int .i64 x.2)),(7,.d (.int .i64 x.1)),(6,.d (.int .i64 (l.map dI).length)),(1,.d (.int .i64 e)),(0,.d (Bn l))])
  (λ_=>[]) (λx=>x.2-x.1) (0,(l.map dI).length) (λ_=>rfl) ⟨Am _,by rw[hlm];exact Ax _,by simp,by rw[hlm];simp⟩ (.refl _ _) ⟨rfl,rfl,rfl,rfl,rfl,trivial⟩ trivial ?_
 rintro⟨lo,hi⟩ ⟨h1,h2,h3,h4⟩
 dsimp only at h1 h2 h3 h4
 refine Cd [] [] ?_
 by_cases hlt:lo<hi
 ·have hx:=Ab (l:=l) (i:=(lo+hi)/2) (by omega)
  generalize l[(lo+hi)/2]'(by omega)=z at hx
  have hxd:(l.map dI)[(lo+hi)/2]? =some (.int .i64 z):=by rw[Ad,hx];rfl
  have hle:=WS z e
  by_cases hz:z<e
  ·rw[decide_eq_true hz]at hle
   (conv=>whnf)
   (repeat' ((first|refine Aj ?_ ?_|refine QM (by omega) ?_|refine nx ?_|refine AD (λ_=>?_) (λ_=>?_)|exact AG)<;>conv=>whnf))
   refine OA 1 rfl rfl rfl (by decide) rfl rfl ?_
   (conv=>whnf)
   (repeat' ((first|refine Aj ?_ ?_|refine R5 ((lo+hi)/2) (K8 lo hi) (by omega) ?_|refine AP hxd rfl ?_|refine Af rfl hle ?_|refine nx ?_|refine AD (λ_=>?_) (λ_=>?_)|exact AG)<;>conv=>whnf))
   exact⟨((lo+hi)/2+1,hi),_,_,⟨by dsimp only;omega,h2,Wk hr hx hz,h4⟩,.refl _ _,⟨rfl,rfl,rfl,rfl,rfl,trivial⟩,trivial,by dsimp only;omega⟩
  ·rw[decide_eq_false hz]at hle
   (conv=>whnf)
   (repeat' ((first|refine Aj ?_ ?_|refine QM (by omega) ?_|refine nx ?_|refine AD (λ_=>?_) (λ_=>?_)|exact AG)<;>conv=>whnf))
   refine OA 1 rfl rfl rfl (by decide) rfl rfl ?_
   (conv=>whnf)
   (repeat' ((first|refine Aj ?_ ?_|refine R5 ((lo+hi)/2) (K8 lo hi) (by omega) ?_|refine AP hxd rfl ?_|refine Af rfl hle ?_|refine nx ?_|refine AD (λ_=>?_) (λ_=>?_)|exact AG)<;>conv=>whnf))
   exact⟨(lo,(lo+hi)/2),_,_,⟨by dsimp only;omega,by dsimp only;omega,h3,Wl hr hx hz⟩,.refl _ _,⟨rfl,rfl,rfl,rfl,rfl,trivial⟩,trivial,by dsimp only;omega⟩
 ·have h4':∀z∈l.drop lo,¬z<e:=by rw[show lo=hi by omega];exact h4
  have hm:=ZA hr h3 h4'
  by_cases hln:lo<l.length
  ·have hx:=Ab hln
   generalize l[lo]=z at hx
   have hxd:(l.map dI)[lo]? =some (.int .i64 z):=by rw[Ad,hx];rfl
   have hnz:=Wc z
   by_cases hz:z=e
   ·rw[decide_eq_true (hm.2 (by rw[hx,hz]))]
    (conv=>whnf)
    (repeat' ((first|refine Aj ?_ ?_|refine AP hxd rfl ?_|refine Af rfl hnz ?_|refine nx ?_|refine AD (λ_=>?_) (λ_=>?_)|exact AG)<;>conv=>whnf))
    exact⟨lo,⟨by omega,h3,h4'⟩,rfl⟩
   ·rw[decide_eq_false (λh=>hz (by have:=hm.1 h;rw[hx]at this;exact Ce this))]
    (conv=>whnf)
    (repeat' ((first|refine Aj ?_ ?_|refine AP hxd rfl ?_|refine Af rfl hnz ?_|refine nx ?_|refine AD (λ_=>?_) (λ_=>?_)|exact AG)<;>conv=>whnf))
    exact⟨lo,⟨by omega,h3,h4'⟩,rfl⟩
  ·rw[decide_eq_false (λh=>by have:=hm.1 h;rw[AI (by omega)]at this;cases this)]
   ((conv=>whnf);repeat' ((first|refine odw ?_|refine nx ?_|refine AD (λ_=>?_) (λ_=>?_))<;>conv=>whnf))
   exact⟨lo,⟨by omega,h3,h4'⟩,rfl⟩
theorem SA(x:Int)(l:List Int)(hl:(x::l).length<=2000000000):Pure C1 88 [Bn (x::l)] (λy=>y=Bn (x::l)):=by
 have hlm:((x::l).map dI).length=(x::l).length:=Ac _
 refine AW Tryz.func88 Tryz.ntmps88 QF Mo ?_
 have hlm2:(([]:List Da).length+((x::l).map dI).length)<=4294967296:=by rw[hlm];simp at hl⊢;omega
 ((conv=>whnf);repeat' ((first|refine odw ?_|refine nx ?_|refine AD (λ_=>?_) (λ_=>?_))<;>conv=>whnf))
 all_goals first|exact rfl|(refine JE hlm2 ?_;((conv=>whnf);repeat' ((first|refine odw ?_|refine nx ?_|refine AD (λ_=>?_) (λ_=>?_))<;>conv=>whnf));exact rfl)
theorem AA3 {s:List Int} {n:Int}(hs:s.Pairwise (· < ·))(h:n∈s):V4 s n=s:=IC (BK _).1 hs λx=>by
 rw[Qb]
 exact⟨λh'=>h'.elim (λe=>e▸h) id,.inr⟩
theorem AA4 {s:List Int} {n:Int} {m:Nat}(hs:s.Pairwise (· < ·))(hn:n∉s)(h1:∀z∈s.take m,z<n)(h2:∀z∈s.drop m,¬z<n):V4 s n=s.take m++([n]++s.drop m):=by
 refine IC (BK _).1 ?_ λx=>?_
 ·rw[Dr,Dr]
  refine⟨hs.sublist (fK _ _),⟨by simp,hs.sublist (List.drop_sublist _ _),λa ha b hb=>?_⟩,λa ha b hb=>?_⟩
  ·rw[As]at ha;subst ha
   have:=h2 b hb
   have hne:b≠a:=λe=>hn (e▸SL hb)
   omega
  ·have h3:=h1 a ha
   rcases Ag.1 hb with hb|hb
   ·rw[As]at hb;subst hb;exact h3
   ·have:=h2 b hb;omega
 ·rw[Qb]
  have:x∈s↔x∈s.take m\/x∈s.drop m:=by rw[<-Ag,Cf]
  rw[this]
  simp only[Ag,As]
  constructor
  ·rintro(h|h|h)
   ·exact .inr (.inl h)
   ·exact .inl h
   ·exact .inr (.inr h)
  ·rintro(h|h|h)
   ·exact .inr (.inl h)
   ·exact .inl h
   ·exact .inr (.inr h)
def AB4:List (Nat×Plan):=[(4,.leaf [0,0,0,0,6,0,0,0,6,2,0] [0,1,2,3,5,6,7,4,8,9,10] [0,0,3,0,8,0,0,96,255,511,1023])]
def AEo:List FuncId:=[252,88,253]
set_option maxHeartbeats 4000000 in
theorem pU(s:List Int)(hs:s.Pairwise (· < ·))(hl:s.length<=1000000000)(n:Int):Pure C1 186 [Bn s,.int .i64 n] (λy=>y=Bn (V4 s n)):=by
 have hsl:(s.map dI).length=s.length:=Ac _
 have hb:=AAu s hs (by omega) n
 refine AW Tryz.func186 Tryz.ntmps186 AEo AB4 ?_
 by_cases hn:n∈s
 ·rw[decide_eq_true hn]at hb
  rw[AA3 hs hn]
  have hcl:Pure C1 88 [Bn s] (λy=>y=Bn s):=by
   cases s with
   |nil=>cases hn
   |cons x l=>exact SA x l (by omega)
  (conv=>whnf)
  refine AS rfl hb ?_;rintro y ⟨m,_,rfl⟩
  (conv=>whnf)
  (repeat' ((first|refine Aj ?_ ?_|refine Af rfl hcl ?_|refine nx ?_|refine AD (λ_=>?_) (λ_=>?_)|exact AG)<;>conv=>whnf))
  exact rfl
 ·rw[decide_eq_false hn]at hb
  (conv=>whnf)
  refine AS rfl hb ?_;rintro y ⟨m,⟨hm,h1,h2⟩,rfl⟩
  rw[AA4 hs hn h1 h2]
  have hcc:Pure C1 253 [.list 1 [.list 1 ((s.map dI).take m),.list 1 [.int .i64 n],.list 1 ((s.map dI).drop m)]] (λy=>y=Bn (s.take m++([n]++s.drop m))):=by
   have:=Y8 [s.take m,[n],s.drop m] (by simp) (by simp;omega)
   simp only[Ar,Bu,CI,List.flatten_nil,Cg]at this
   rw[<-Gn,<-List.map_drop]
   exact this
  (conv=>whnf)
  (repeat' ((first|refine Aj ?_ ?_|refine upto_is rfl (show m<=(s.map dI).length by omega) ?_|refine Zm m rfl (by omega) ?_|refine nx ?_|refine AD (λ_=>?_) (λ_=>?_)|exact AG)<;>conv=>whnf))
  refine PS EO (G:=[]) (.frz 20 rfl (.refl _ _)) (.inl rfl) ?_
  (conv=>whnf)
  (repeat' ((first|refine Aj ?_ ?_|refine Dx 24 rfl ?_|refine Af rfl hcc ?_|refine nx ?_|refine AD (λ_=>?_) (λ_=>?_)|exact AG)<;>conv=>whnf))
  exact rfl
end Go.Proofs.YtjpmmkodoeipmaaGreatDoor
end
section
namespace Go.Proofs.YtjpmmkodoeipmaaGreatDoor
open Go.Sx Go.RowKit Go.Reg Go.Gr
set_option maxRecDepth 100000
def dN(s:List Int):Da:=if s=[]then .nils else Bn s
theorem ACo(x:Int)(s:List Int):dN (x::s)=Bn (x::s):=rfl
theorem ADV(s:List Int):LaxA (dN s) (Bn s):=by
 cases s with
 |nil=>exact .nils 1
 |cons x s=>exact .refl _
theorem AEN {s:List Int}(h:s≠[]):dN s=Bn s:=by unfold dN;rw[if_neg h]
theorem AC9(s:List Int)(n:Int):V4 s n≠[]:=λe=>by
 have:n∈V4 s n:=Qb.2 (.inl rfl)
 rw[e]at this;cases this
theorem Vp(s:List Int):dN s=.nils\/dN s=Bn s:=by unfold dN;split<;>simp
theorem bC(a b:List Int)(ha:a.length<=1000000000)(hb:b.length<=1000000000):Pure C1 188 [dN a,dN b] (λy=>y=.int .i64 ((a.length:Int)-b.length)):=by
 have hda:(a.map dI).length=a.length:=Ac _
 have hdb:(b.map dI).length=b.length:=Ac _
 refine Sx.Pure.lax (.cons (ADV a) (.cons (ADV b) .nil)) ?_
 refine AW Tryz.func188 Tryz.ntmps188 [] [] ?_
 ((conv=>whnf);repeat' ((first|refine odw ?_|refine nx ?_|refine AD (λ_=>?_) (λ_=>?_))<;>conv=>whnf))
 exact congrArg (Da.int .i64) (by omega)
set_option maxHeartbeats 4000000 in
theorem rN(l:List (List Int))(h0:l≠[])(hm:l.length<=1000)(hs:∀s∈l,s.length<=1000000000):Pure C1 187 [.list 1 (l.map dN),.func (.func 188) [] []] (λy=>∃s∈l,y=dN s/\∀t∈l,s.length<=t.length):=by
 have hdl:(l.map dN).length=l.length:=Ac _
 have hpos:0<l.length:=FZ.2 h0
 have hx:=Ab hpos
 have hxm:=Bc hpos
 generalize l[0]=s0 at hx hxm
 have hxd:(l.map dN)[0]? =some (dN s0):=by rw[Ad,hx];rfl
 refine AW Tryz.func187 Tryz.ntmps187 [] [] ?_
 have hstart:∃z,z=dN s0/\(z=.nils\/z=Bn s0):=⟨_,rfl,Vp s0⟩
 obtain⟨z,hz,hzo⟩:=hstart
 rw[<-hz]at hxd
 rcases hzo with rfl|rfl<;>(conv=>whnf)<;>(repeat' ((first|refine Aj ?_ ?_|refine AP hxd rfl ?_|refine nx ?_|refine AD (λ_=>?_) (λ_=>?_)|exact AG)<;>conv=>whnf))
 all_goals
  refine AR (ι:=Nat×List Int×Da) (λx=>(1<=x.1/\x.1<=l.length)/\x.2.2=dN x.2.1/\x.2.1∈l/\∀k t,k<x.1->l[k]? =some t->x.2.1.length<=t.length) (λx=>[(6,.d (.int .i64 x.1)),(5,.d x.2.2),(1,.d (.func (.func 188) [] [])),(0,.d (.list 1 (l.map dN)))]) (λ_=>[]) (λx=>l.length-x.1) (1,s0,_) (λ_=>rfl) ⟨⟨Ax _,hpos⟩,hz,hxm,λk t hk ht=>by rw[show k=0 by omega,hx]at ht;cases ht;exact Ax _⟩ (.refl _ _) ⟨rfl,rfl,rfl,rfl,trivial⟩ trivial ?_
  rintro⟨i,s,d⟩ ⟨⟨h1,h2⟩,hd,hsm,hle⟩
  dsimp only at h1 h2 hd hsm hle
  refine Cd [] [] ?_
  by_cases hlt:i<l.length
  ·have hy:=Ab hlt
   have hym:=Bc hlt
   generalize l[i]=x at hy hym
   have hyd:(l.map dN)[i]? =some (dN x):=by rw[Ad,hy];rfl
   have hc:=bC x s (hs x hym) (hs s hsm)
   have hst:∀z,(∀k t,k<i->l[k]? =some t->z<=t.length)->z<=x.length->∀k t,k<i+1->l[k]? =some t->z<=t.length:=by
    intro z hz hzx k t hk ht
    rcases BL k i with h|h
    ·exact hz k t h ht
    ·rw[show k=i by omega,hy]at ht;cases ht;exact hzx
   have hsx:=Vp s
   have hxx:=Vp x
   rw[<-hd]at hc hsx
   generalize hX:dN x=xd at hyd hc hxx
   by_cases hxs:x.length<s.length
   ·have hneg:(x.length:Int)-s.length<0:=by omega
    rcases hsx with rfl|rfl<;>rcases hxx with rfl|rfl<;>(conv=>whnf)<;>(repeat' ((first|refine Aj ?_ ?_|refine AP hyd rfl ?_|refine Af rfl hc ?_|refine nx ?_|refine AD (λ_=>?_) (λ_=>?_)|exact AG)<;>conv=>whnf))
    all_goals exact⟨(i+1,x,_),_,_,⟨⟨by dsimp only;omega,hlt⟩,hX.symm,hym,hst _ (λk t hk ht=>BH (Nat.le_of_lt hxs) (hle k t hk ht)) (Ax _)⟩,.refl _ _,⟨rfl,rfl,rfl,rfl,trivial⟩,trivial,by dsimp only;omega⟩
   ·rcases hsx with rfl|rfl<;>rcases hxx with rfl|rfl<;>(conv=>whnf)<;>(repeat' ((first|refine Aj ?_ ?_|refine AP hyd rfl ?_|refine Af rfl hc ?_|refine nx ?_|refine AD (λ_=>?_) (λ_=>?_)|exact AG)<;>conv=>whnf))
    all_goals exact⟨(i+1,s,_),_,_,⟨⟨by dsimp only;omega,hlt⟩,hd,hsm,hst s.length hle (by omega)⟩,.refl _ _,⟨rfl,rfl,rfl,rfl,trivial⟩,trivial,by dsimp only;omega⟩
  ·have hsx:=Vp s
   rw[<-hd]at hsx
   rcases hsx with rfl|rfl<;>((conv=>whnf);repeat' ((first|refine odw ?_|refine nx ?_|refine AD (λ_=>?_) (λ_=>?_))<;>conv=>whnf))
   all_goals
    refine⟨s,hsm,hd,λt ht=>?_⟩
    obtain⟨k,hk⟩:=EY.1 ht
    have:=(Ae.1 hk).1
    exact hle k t (by omega) hk
def AFq:List FuncId:=[187]
theorem jL(l:List (List Int))(h0:l≠[])(hm:l.length<=1000)(hs:∀s∈l,s.length<=1000000000):Pure C1 128 [.list 1 (l.map dN)] (λy=>y=.int .i64 (OJ l:Nat)):=by
 have hdl:(l.map dN).length=l.length:=Ac _
 have hpos:0<l.length:=FZ.2 h0
 refine AW Tryz.func128 Tryz.ntmps128 AFq [] ?_
 ((conv=>whnf);repeat' ((first|refine odw ?_|refine nx ?_|refine AD (λ_=>?_) (λ_=>?_))<;>conv=>whnf))
 refine AS rfl (rN l h0 hm hs) ?_;rintro y ⟨s,hsm,rfl,hle⟩
 rw[rX hsm hle]
 cases s with
 |
  nil=>
  rw[show dN []=Da.nils from rfl]
  ((conv=>whnf);repeat' ((first|refine odw ?_|refine nx ?_|refine AD (λ_=>?_) (λ_=>?_))<;>conv=>whnf))
  exact rfl
 |
  cons x s=>
  have hds:((x::s).map dI).length=(x::s).length:=Ac _
  rw[ACo]
  ((conv=>whnf);repeat' ((first|refine odw ?_|refine nx ?_|refine AD (λ_=>?_) (λ_=>?_))<;>conv=>whnf))
  exact congrArg (Da.int .i64) (by omega)
def AFp:List FuncId:=[113,20]
theorem aJ {p:Pt}(hp:Dp p=none)(h0:p.labels≠[])(hm:p.labels.length<=1000)(hme:p.edges.length<=1000):Pure C1 183 [FE p] (λy=>y=.nili):=by
 have hdl:(p.labels.map dI).length=p.labels.length:=Ac _
 have hpos:0<p.labels.length:=FZ.2 h0
 have hr:=EM p (by omega) (by omega)
 rw[Fq hp]at hr
 refine AW Tryz.func183 Tryz.ntmps183 AFp [] ?_
 (conv=>whnf)
 (repeat' ((first|refine Aj ?_ ?_|refine Af rfl hr ?_|refine nx ?_|refine AD (λ_=>?_) (λ_=>?_)|exact AG)<;>conv=>whnf))
 exact rfl
theorem vR(s:List Int)(hs:s.Pairwise (· < ·))(hl:s.length<=1000000000)(n:Int):Pure C1 186 [dN s,.int .i64 n] (λy=>y=Bn (V4 s n)):=
 Sx.Pure.lax (.cons (ADV s) (.cons (.refl _) .nil)) (pU s hs hl n)
end Go.Proofs.YtjpmmkodoeipmaaGreatDoor
end
section
namespace Go.Proofs.YtjpmmkodoeipmaaGreatDoor
open Go.Sx Go.RowKit Go.Reg Go.Gr
set_option maxRecDepth 100000
theorem dZ(s:List Int)(hl:s.length<=1000000000):Pure C1 88 [dN s] (λy=>y=dN s):=by
 cases s with
 |cons x s=>exact SA x s (by omega)
 |
  nil=>
  show Pure C1 _ [.nils] (λy=>y=.nils)
  refine AW Tryz.func88 Tryz.ntmps88 QF Mo ?_
  ((conv=>whnf);repeat' ((first|refine odw ?_|refine nx ?_|refine AD (λ_=>?_) (λ_=>?_))<;>conv=>whnf))
  all_goals exact rfl
def dD(p:Pt)(O S:List (List Int)):Da:=.ref (.agg [FE p,dLL O,.list 1 (S.map dN)])
def ADt:List FuncId:=[88]
theorem kW(p:Pt)(O S:List (List Int))(h0:S≠[])(hm:S.length<=1000)(hs:∀s∈S,s.length<=1000000000):Pure C1 129 [dD p O S] (λy=>y=.list 1 (S.map dN)):=by
 have hdS:(S.map dN).length=S.length:=Ac _
 have hpos:0<S.length:=FZ.2 h0
 refine AW Tryz.func129 Tryz.ntmps129 ADt [] ?_
 ((conv=>whnf);repeat' ((first|refine odw ?_|refine nx ?_|refine AD (λ_=>?_) (λ_=>?_))<;>conv=>whnf))
 refine AR (ι:=Nat) (λi=>i<=S.length) (λi=>[(13,.d (.int .i64 i)),(12,.d (.int .i64 S.length)),(11,.d (.list 1 (S.map dN))),(3,.own 300)]) (λi=>[(300,.slice 22 1 ((S.take i).map dN))]) (λi=>S.length-i) 0 (λ_=>rfl) (Am _) (.own 3 300 22 1 rfl rfl (.refl _ _)) ⟨rfl,by rw[<-hdS];rfl,rfl,rfl,trivial⟩ ⟨rfl,trivial⟩ ?_
 intro i hi
 refine Cd ADt [] ?_
 by_cases hil:i<S.length
 ·have hx:=Ab hil
  have hxm:=Bc hil
  generalize S[i]=x at hx hxm
  have hcl:=dZ x (hs x hxm)
  have hxd:(S.map dN)[i]? =some (dN x):=by rw[Ad,hx];rfl
  have hfin:(S.take i).map dN++[dN x]=(S.take (i+1)).map dN:=by rw[Ay,hx,A7];rfl
  have htl:((S.take i).map dN).length=i:=by rw[Ac,AA];omega
  generalize (S.take i).map dN=Z at htl hfin⊢
  have hxx:=Vp x
  generalize dN x=xd at hcl hxd hfin hxx
  rcases hxx with rfl|rfl<;>(conv=>whnf)<;>(repeat' ((first|refine Aj ?_ ?_|refine AP hxd rfl ?_|refine Af rfl hcl ?_|refine nx ?_|refine AD (λ_=>?_) (λ_=>?_)|exact AG)<;>conv=>whnf))
  all_goals exact⟨i+1,_,_,hil,.refl _ _,⟨rfl,rfl,rfl,rfl,trivial⟩,⟨Bk hfin,trivial⟩,by omega⟩
 ·rw[Al (show S.length<=i by omega)]
  ((conv=>whnf);repeat' ((first|refine odw ?_|refine nx ?_|refine AD (λ_=>?_) (λ_=>?_))<;>conv=>whnf))
  exact rfl
def AF0:List FuncId:=[129,128]
theorem VN(p:Pt)(O S:List (List Int))(h0:S≠[])(hm:S.length<=1000)(hs:∀s∈S,s.length<=1000000000):Pure C1 75 [dD p O S] (λy=>y=.int .i64 (OJ S:Nat)):=by
 have h1:=kW p O S h0 hm hs
 have h2:=jL S h0 hm hs
 refine AW Tryz.func75 Tryz.ntmps75 AF0 [] ?_
 (conv=>whnf)
 (repeat' ((first|refine Aj ?_ ?_|refine Af rfl h1 ?_|refine Af rfl h2 ?_|refine nx ?_|refine AD (λ_=>?_) (λ_=>?_)|exact AG)<;>conv=>whnf))
 exact rfl
end Go.Proofs.YtjpmmkodoeipmaaGreatDoor
end
section
namespace Go.Proofs.YtjpmmkodoeipmaaGreatDoor
open Go.Sx Go.RowKit Go.Reg Go.Gr
set_option maxRecDepth 100000
attribute [local go_sem] Oper.semAt_some
def nI(p q:Pt):Da:=.func (.func 279) [] [.ref (FE p),.ref (FE q)]
theorem rR(p q:Pt):Pure C1 251 [FE p,FE q] (λy=>y=nI p q):=by
 refine AW Tryz.func251 Tryz.ntmps251 [] [] ?_
 ((conv=>whnf);repeat' ((first|refine odw ?_|refine nx ?_|refine AD (λ_=>?_) (λ_=>?_))<;>conv=>whnf))
 exact rfl
theorem ZB {p:Pt}(hp:Dp p=none)(hE:p.edges.length<=1000)(n:Nat) {O:List Nat} {W:World} {v:Value}(hO:∀b∈O,b<W.heap.size)(hg:Glob C1 O W)(hv:Rep O W (FE p) v):
  CallsIn Fence.wide n Tryz.prog 113 #[v] W λe B=>e=.returned .nilIface/\Tch [] W B:=by
 have hri:=EM p (by have:=(CS (BJ hp).1).1;omega) (by omega)
 rw[Fq hp]at hri
 refine(Pure.at' hri n hO hg (reps_cons hv reps_nil)).mono ?_
 rintro e B ⟨u,y,rfl,rfl,⟨cs,hcs,rfl⟩,t⟩
 simp only[RepC]at hcs
 subst hcs
 exact⟨rfl,t⟩
theorem ABe {p:Pt}(hp:Dp p=none)(hE:p.edges.length<=1000) {x:List Int}(hx:C2 p.labels.length x)(n:Nat) {O:List Nat} {W:World} {v u:Value}(hO:∀b∈O,b<W.heap.size)(hg:Glob C1 O W)(hv:Rep O W (FE p) v)(hu:Rep O W (DU x) u):
  CallsIn Fence.wide n Tryz.prog 226 #[v,u] W λe B=>∃d1 m1 d2 m2,e=.returned (.tuple #[.agg #[.slice d1 (Bl p x).labels.length m1,.slice d2 (Bl p x).edges.length m2],.nilIface])/\Rep O B (FE (Bl p x)) (.agg #[.slice d1 (Bl p x).labels.length m1,.slice d2 (Bl p x).edges.length m2])/\Tch [] W B:=by
 have h8:=(CS (BJ hp).1).1
 refine(Pure.at' (Um p hp hE x ((Yc (by rw[hx.1];omega)).2 (by rw[hx.1];exact hx)) hx.1) n hO hg (reps_cons hv (reps_cons hu reps_nil))).mono ?_
 rintro e B ⟨u,y,rfl,rfl,hu,t⟩
 obtain⟨d1,m1,d2,m2,rfl,h⟩:=Uk hu
 exact⟨d1,m1,d2,m2,rfl,h,t⟩
theorem AEi {p q:Pt}(h1:p.labels.length<=1000)(h2:q.labels.length<=1000)(h3:p.edges.length<=1000)(h4:q.edges.length<=1000)(n:Nat) {O:List Nat} {W:World} {v u:Value}(hO:∀b∈O,b<W.heap.size)(hg:Glob C1 O W)(hv:Rep O W (FE p) v)(hu:Rep O W (FE q) u):
  CallsIn Fence.wide n Tryz.prog 10 #[v,u] W λe B=>e=.returned (.int .i64 (Dw p q))/\Tch [] W B:=by
 refine(Pure.at' (Hp p q (by omega) (by omega) (by omega) (by omega)) n hO hg (reps_cons hv (reps_cons hu reps_nil))).mono ?_
 rintro e B ⟨u,y,rfl,rfl,⟨cs,hcs,rfl⟩,t⟩
 simp only[RepC]at hcs
 subst hcs
 exact⟨rfl,t⟩
theorem wG {O:List Nat} {W:World} {p:Pt} {c:List Value}(h:∃b o c',c=[Value.pointer (some ⟨b,o,none⟩)]/\b∉O/\b<W.heap.size/\RepC O W (FE p) c'/\Fv W b o c'):
  ∃b o a1 c1 a2 c2,c=[Value.pointer (some ⟨b,o,none⟩)]/\b∉O/\b<W.heap.size/\W.cell? ⟨b,o,none⟩=some (.slice a1 p.labels.length c1)/\W.cell? ⟨b,o+1,none⟩=some (.slice a2 p.edges.length c2)/\
   Rep O W (FE p) (.agg #[.slice a1 p.labels.length c1,.slice a2 p.edges.length c2])/\Rep O W (Bn p.labels) (.slice a1 p.labels.length c1):=by
 obtain⟨b,o,c',rfl,hb,hbl,hr,hc⟩:=h
 have hr':=hr
 simp only[FE,RepC,RepCs]at hr
 obtain⟨k1,k2,rfl,r1,k3,k4,rfl,r2,rfl⟩:=hr
 obtain⟨a1,c1,rfl,g1,_⟩:=Hn r1
 obtain⟨a2,c2,rfl,g2,_⟩:=Hn r2
 rw[Ac]at g1 g2
 have e1:=hc 0 _ rfl
 have e2:=hc 1 _ rfl
 rw[Ac]at e1 e2
 refine⟨b,o,a1,c1,a2,c2,rfl,hb,hbl,e1,e2,⟨_,hr',?_⟩,g1⟩
 rw[Ac,Ac];rfl
theorem gS {n m l l':Nat} {P:Program} {f:FuncId} {tmps:Array Value} {assign body:Code} {w:World} {R:Ending->World->Prop}(h:RoundIn Fence.wide n P l f tmps assign body w R):RoundIn (Fence.wide.inRound l') m P l f tmps assign body w R:=
 ⟨trivial,λc cs _=>h.2 c cs (room_wide _)⟩
theorem aU {p q:Pt}(h:p.labels.length≠q.labels.length):Es p q=[]:=by
 unfold Es
 rw[Pn]
 intro o _ hd
 have:=(Hl.eq0 _ _).1 (of_decide_eq_true hd)
 exact h (by rw[<-this,Fb])
set_option maxHeartbeats 1000000 in
theorem yS {p q:Pt}(hp:Dp p=none)(hq:Dp q=none)(hE:p.edges.length<=1000)(hE':q.edges.length<=1000) {O:List Nat} {l:Nat} {W:World} {fv:Value}(hO:∀b∈O,b<W.heap.size)(hg:Glob C1 O W)(hr:Rep O W (nI p q) fv):
  oL C1 fv (Es p q) O l W:=by
 obtain⟨cs,r,rfl⟩:=hr
 rw[nI,RepC]at r
 simp only[Aq]at r
 obtain⟨fs,cs',rfl,⟨k1,k2,rfl,r1,k3,k4,rfl,r2,rfl⟩,rfl⟩:=r
 rw[RepC]at r1 r2
 obtain⟨b1,o1,a1,c1,a2,c2,rfl,hb1,hs1,e1,e1',rp,rp1⟩:=wG r1
 obtain⟨b2,o2,a3,c3,a4,c4,rfl,hb2,hs2,e2,e2',rq,rq1⟩:=wG r2
 refine⟨279,#[.pointer (some ⟨b1,o1,none⟩),.pointer (some ⟨b2,o2,none⟩)],rfl,λ_ _=>rfl,?_⟩
 intro J Jx hJ hJx hY hj
 show CallsIn Fence.wide 3 Tryz.prog 279 _ W _
 refine callsIn_of_wp_marks (n:=3) Tryz.func279 rfl trivial ?_ rfl
 simp only[Tryz.ntmps279,BC,Aw,Bt,Nat.reduceAdd,Nat.reduceSub,CX,CW,D8,Dg,BB,AT]
 have T0:Tch [] W (W.alloc (Obj.cells #[Value.func (.yield l) #[] #[]] 170)):=Tch.alloc _ _ _
 gi_wp2
 refine⟨trivial,(ZB hp hE 2 (Gl (Tch.up T0) hO) (Hs (Tch.up T0) hg) (DM (Tch.up T0) rp)).mono ?_⟩
 rintro e W1 ⟨rfl,T1⟩
 have T01:=T0.then0 T1
 have f1:=T01.cell e1 (by simp)
 have f1':=T01.cell e1' (by simp)
 have f2:=T01.cell e2 (by simp)
 have f2':=T01.cell e2' (by simp)
 have B3:=BT T1 (World.alloc_heap_new W (Obj.cells #[Value.func (.yield l) #[] #[]] 170))
 clear T0 T1
 gi_wp2
 refine⟨trivial,(ZB hq hE' 2 (Gl (Tch.up T01) hO) (Hs (Tch.up T01) hg) (DM (Tch.up T01) rq)).mono ?_⟩
 rintro e W2 ⟨rfl,T2⟩
 have T02:=T01.then0 T2
 have B3:=BT T2 B3
 clear f1 f1' f2 f2' T2 T01
 have f1:=T02.cell e1 (by simp)
 have f1':=T02.cell e1' (by simp)
 have f2:=T02.cell e2 (by simp)
 have f2':=T02.cell e2' (by simp)
 by_cases hl:p.labels.length=q.labels.length
 ·have hl2:((p.labels.length:Int) !=(q.labels.length:Int))=false:=by simp[hl]
  have HL:=Ga hl
  clear hl
  gi_wp2
  have hOr:=Pure.at' (Sp p q.labels) 2 (Gl (Tch.up T02) hO) (Hs (Tch.up T02) hg) (reps_cons (DM (Tch.up T02) rp) (reps_cons (DM (Tch.up T02) rq1) reps_nil))
  refine⟨trivial,hOr.mono ?_⟩
  rintro e W3 ⟨u7,y,rfl,rfl,hu7,T3⟩
  have T03:=T02.then0 T3
  have B3:=BT T3 B3
  clear f1 f1' f2 f2' T3 T02 hOr
  obtain⟨b3,hb3⟩:∃b,W.heap.size=b:=⟨_,rfl⟩
  rw[hb3]at B3
  simp only[hb3]
  have hb3lt:=(Ak.1 B3).1
  have hO3:=Gl (Tch.up T03) hO
  have hg3:=Hs (Tch.up (O:=O) T03) hg
  have rp3:=DM (Tch.up (O:=O) T03) rp
  have rq3:=DM (Tch.up (O:=O) T03) rq
  have h8:=(CS (BJ hp).1).1
  have h8':=(CS (BJ hq).1).1
  gi_wp2
  refine Tn (C:=C1) (GU p.labels q.labels p.labels.length []) O hO3 rfl (λV t hs=>?_) (λR S pre A=>((∀b∈S,b∈O\/W3.heap.size<=b)/\Tch (O++R) W3 A)/\J R S (pre.filter λo=>decide (Dw (Bl p o) q=0)) A) (λR S pre A=>((∀b∈S,b∈O\/W3.heap.size<=b)/\Tch (O++R) W3 A)/\∃pre',pre'<+:Es p q/\Jx R S pre' A)
   (λR S pre A B hR h t=>⟨⟨h.1.1,h.1.2.trans0 (t.mono (by simp+contextual))⟩,hJ _ _ _ _ _ (λr hr=>by have:=hR r hr;have:=T03.size;omega) h.2 t⟩)
   (λR S pre A B hR h t=>⟨⟨h.1.1,h.1.2.trans0 (t.mono (by simp+contextual))⟩,h.2.imp λpre' h'=>⟨h'.1,hJx _ _ _ _ _ (λr hr=>by have:=hR r hr;have:=T03.size;omega) h'.2 t⟩⟩)
   (λR V hR t=>⟨⟨λb hb=>.inl hb,t.mono (by simp)⟩,hJ _ _ _ _ _ (λr hr=>by have:=hR r hr;have:=T03.size;omega) (hj R (λr hr=>by have:=hR r hr;have:=T03.size;omega)) ((T03.then0 t).mono (by simp))⟩) ?_ ?_ ?_
  ·have LW:Later O W3 (W3.heap.size::(W3.heap.size+1)::O) V:=Np t (λx hx=>by
    rcases Ai.1 hx with rfl|hx
    ·left;omega
    rcases Ai.1 hx with rfl|hx
    ·left;omega
    ·exact .inr hx)
   exact Uu h8 h8' (λb hb=>by
    rcases Ai.1 hb with rfl|hb
    ·omega
    rcases Ai.1 hb with rfl|hb
    ·omega
    ·have:=hO3 b hb;omega) (Gh LW hg3) (hu7.later LW)
  ·intro l' R S pre x v A hl hlR hR hSA hSR hI hpx hrep hsz hRA
   rw[show C1.P=Tryz.prog from rfl]
   obtain⟨av,cv,rfl,_,_⟩:=Dv hrep
   gi_wp2
   refine⟨Tch.refl _ _,λA2 TA2=>?_⟩
   have hR':∀r∈R,W.heap.size<=r:=λr hr=>by have:=hR r hr;have:=T03.size;omega
   have hSn:=hI.1.1
   have hSA2:∀b∈S,b<A2.heap.size:=λb hb=>Bq (hSA b hb) TA2.size
   have TA:Tch (O++R) W3 A2:=hI.1.2.trans0 (TA2.mono (by simp[hlR]))
   have hJ2:=hJ _ _ _ _ _ hR' hI.2 (TA2.mono (T:=R) (by simpa using hlR))
   have hrep2:=DM (TA2.mono (T:=S++R) (by simp[hlR])) hrep
   have hRA2:∀r∈R,r<A2.heap.size:=λr hr=>Bq (hRA r hr) TA2.size
   clear hI hrep hRA TA2 hsz hSA
   have nOR:∀b,b∉O->b<W3.heap.size->b∉O++R:=λb h1 h2 hm=>by
    rcases Ag.1 hm with hm|hm
    ·exact h1 hm
    ·have:=hR b hm;omega
   have hs03:=T03.size
   have n1:=nOR b1 hb1 (by omega)
   have n2:=nOR b2 hb2 (by omega)
   have n3:=nOR b3 (λhm=>by have:=hO b3 hm;omega) hb3lt
   have LA:Later O W3 (S++R) A2:=⟨TA.size,λb hb hn=>TA.blk b hb (nOR b hn hb),λb hn hb hm=>by
    rcases Ag.1 hm with hm|hm
    ·rcases hSn b hm with h|h
     ·exact hn h
     ·omega
    ·have:=hR b hm;omega⟩
   have hOA:∀b∈S++R,b<A2.heap.size:=λb hb=>by
    rcases Ag.1 hb with hb|hb
    ·exact hSA2 b hb
    ·exact hRA2 b hb
   have f1:=TA.cell (T03.cell e1 (by simp)) n1
   have f1':=TA.cell (T03.cell e1' (by simp)) n1
   have f2:=TA.cell (T03.cell e2 (by simp)) n2
   have f2':=TA.cell (T03.cell e2' (by simp)) n2
   have C3:=Hr TA B3 n3
   have hxm:x∈GU p.labels q.labels p.labels.length []:=hpx.subset (by simp)
   have hord:=((M1 (n:=p.labels.length) HL.out.symm).1 hxm).1
   have hpo:PtOk p.labels.length p:=⟨rfl,(BJ hp).2.1,(BJ hp).2.2⟩
   gi_wp2
   refine⟨trivial,(CallsIn.inRound l' (ABe hp hE hord 1 hOA (Gh LA hg3) (rp3.later LA) hrep2)).mono ?_⟩
   rintro e A3 ⟨d1,m1,d2,m2,rfl,huT,TT⟩
   have TT4:Tch [] A2 (A3.alloc (Obj.cells #[Value.slice d1 (Bl p x).labels.length m1,Value.slice d2 (Bl p x).edges.length m2] 54)):=TT.andAlloc _
   have G10:=World.alloc_heap_new A3 (Obj.cells #[Value.slice d1 (Bl p x).labels.length m1,Value.slice d2 (Bl p x).edges.length m2] 54)
   have E10:(A3.alloc (Obj.cells #[Value.slice d1 (Bl p x).labels.length m1,Value.slice d2 (Bl p x).edges.length m2] 54)).cell? ⟨A3.heap.size,0,none⟩=some (Value.slice d1 (Bl p x).labels.length m1):=by simp only[World.cell?,G10];rfl
   have E10':(A3.alloc (Obj.cells #[Value.slice d1 (Bl p x).labels.length m1,Value.slice d2 (Bl p x).edges.length m2] 54)).cell? ⟨A3.heap.size,1,none⟩=some (Value.slice d2 (Bl p x).edges.length m2):=by simp only[World.cell?,G10];rfl
   have f2:=TT4.cell f2 (by simp)
   have f2':=TT4.cell f2' (by simp)
   have C3:=BT TT4 C3
   gi_wp2
   refine⟨trivial,(CallsIn.inRound l' (AEi (p:=Bl p x) (q:=q) (by rw[Fb];omega) (by omega) (by rw[Hk hord hpo];exact hE) hE' 1 (Gl (Tch.up TT4) hOA) (Hs (Tch.up TT4) (Gh LA hg3)) (DM (Tch.up (Tch.alloc _ _ _)) huT) (DM (Tch.up TT4) (rq3.later LA)))).mono ?_⟩
   rintro e A5 ⟨rfl,T5⟩
   have T25:=TT4.then0 T5
   have C3:=BT T5 C3
   have c3:A5.cell? ⟨b3,0,none⟩=some (Value.func (.yield l) #[] #[]):=by simp only[World.cell?,C3];rfl
   clear G10 E10 E10' f1 f1' f2 f2' T5 TT
   by_cases heq:Dw (Bl p x) q=0
   ·have heq2:(Dw (Bl p x) q==0)=true:=by simpa using heq
    have hfl:(pre++[x]).filter (λo=>decide (Dw (Bl p o) q=0))=pre.filter (λo=>decide (Dw (Bl p o) q=0))++[x]:=by rw[Ca];simp[heq]
    have hpm:pre.filter (λo=>decide (Dw (Bl p o) q=0))++[x]<+:Es p q:=by rw[<-hfl];exact hpx.filter _
    have hYA:YieldAt Fence.wide 2 Tryz.prog l #[Value.slice av x.length cv] A5 _:=hY R S _ x _ A5 hR' (λb hb=>Bq (hSA2 b hb) T25.size) (hJ _ _ _ _ _ hR' hJ2 (T25.mono (by simp))) hpm (DM (Tch.up T25) hrep2) ⟨by have:=TA.size;have:=T25.size;omega,λr hr=>Bq (hRA2 r hr) T25.size⟩
    obtain⟨fn,tmps,assign,body,hy,hRd⟩:=hYA
    gi_wp2
    refine(gS hRd).mono ?_
    rintro e B ⟨S',hg2,hor⟩
    have TB:Tch (O++R) W3 B:=(TA.then0 T25).trans hg2.tch (λ_ h=>h) (λb hb=>(hSn b hb).imp (λh=>Au _ h) id)
    have hSn':∀b∈S',b∈O\/W3.heap.size<=b:=λb hb=>(hg2.new b hb).elim (λh=>hSn b h) (λh=>.inr (by have:=TA.size;have:=T25.size;omega))
    have hgr:Grow S A2 S' B:=(Grow.same (Tch.up T25) hSA2).trans hg2
    rcases hor with⟨rfl,hj2⟩|⟨rfl,hx2⟩
    ·gi_wp2
     have hres:((∀b∈S',b∈O\/W3.heap.size<=b)/\Tch (O++R) W3 B)/\J R S' ((pre++[x]).filter λo=>decide (Dw (Bl p o) q=0)) B:=⟨⟨hSn',TB⟩,by rw[hfl];exact hj2⟩
     exact⟨S',hgr,hres⟩
    ·gi_wp2
     have hres:((∀b∈S',b∈O\/W3.heap.size<=b)/\Tch (O++R) W3 B)/\∃pre',pre'<+:Es p q/\Jx R S' pre' B:=⟨⟨hSn',TB⟩,_,hpm,hx2⟩
     exact⟨S',hgr,hres⟩
   ·have heq2:(Dw (Bl p x) q==0)=false:=by simpa using heq
    have hfl:(pre++[x]).filter (λo=>decide (Dw (Bl p o) q=0))=pre.filter (λo=>decide (Dw (Bl p o) q=0)):=by rw[Ca];simp[heq]
    gi_wp2
    refine⟨(λf hf=>by cases hf),?_⟩
    gi_wp2
    have hres:((∀b∈S,b∈O\/W3.heap.size<=b)/\Tch (O++R) W3 A5)/\J R S ((pre++[x]).filter λo=>decide (Dw (Bl p o) q=0)) A5:=⟨⟨hSn,TA.then0 T25⟩,by rw[hfl];exact hJ _ _ _ _ _ hR' hJ2 (T25.mono (by simp))⟩
    exact⟨S,Grow.same (Tch.up T25) hSA2,hres⟩
  ·intro D R S V hD hDR hR hSR hI ht hDef
   have hR':∀r∈R,W.heap.size<=r:=λr hr=>by have:=hR r hr;have:=T03.size;omega
   have TP:Tch (O++R) V (V.putObj D (.deferred none)):=(DD _ _ _).mono (by simp[hDR])
   gi_wp2
   refine⟨by simp,.inl ⟨D,_,rfl,run_takeDeferred hDef,?_⟩⟩
   exact⟨_,results_none rfl _ _ _,⟨_,rfl⟩,R,S,hR',(T03.ahead0 hI.1.2).trans0 TP,λb hb=>(hI.1.1 b hb).imp id (λh=>by have:=T03.size;omega),.inl (hJ _ _ _ _ _ hR' hI.2 ((DD _ _ _).mono (by simp[hDR])))⟩
  ·intro D R S pre V hD hDR hR hSR hpre hI ht hDef
   have hR':∀r∈R,W.heap.size<=r:=λr hr=>by have:=hR r hr;have:=T03.size;omega
   have TP:Tch (O++R) V (V.putObj D (.deferred none)):=(DD _ _ _).mono (by simp[hDR])
   gi_wp2
   refine⟨by simp,.inl ⟨D,_,rfl,run_takeDeferred hDef,?_⟩⟩
   obtain⟨pre',h1,h2⟩:=hI.2
   exact⟨_,results_none rfl _ _ _,⟨_,rfl⟩,R,S,hR',(T03.ahead0 hI.1.2).trans0 TP,λb hb=>(hI.1.1 b hb).imp id (λh=>by have:=T03.size;omega),.inr ⟨pre',h1,hJx _ _ _ _ _ hR' h2 ((DD _ _ _).mono (by simp[hDR]))⟩⟩
 ·have hl2:((p.labels.length:Int) !=(q.labels.length:Int))=true:=by simp;omega
  gi_wp2
  exact⟨_,results_none rfl _ _ _,⟨_,rfl⟩,[],O,by simp,Tch.up T02,λb hb=>.inl hb,.inl (by rw[aU hl];exact hJ [] O [] W W2 (by simp) (hj [] (by simp)) T02)⟩
end Go.Proofs.YtjpmmkodoeipmaaGreatDoor
end
section
namespace Go.Proofs.YtjpmmkodoeipmaaGreatDoor
open Go.Sx Go.RowKit Go.Reg Go.Gr
set_option maxRecDepth 100000
attribute [local go_sem] Oper.semAt_some
theorem N4 {F:Fence} {n:Nat} {P:Program} {w w':World} {ops:Array Oper} {rest:List Oper} {o:Oper} {a:Act} {Q:Exit->Act->World->Prop}(hg:o.guard=none)(s x:Operand)(t:TypeId)
  (hop:o.op=Op.call {callee:=Callee.builtin Builtin.append,args:=#[s,x],argTypes:=#[t,t]}) {v y v':Value} (hs:a.eval s=v) (hx:a.eval x=y) (hrun:(Builtin.append_ #[t,t] o.type #[v,y]).run P w=.ok v' w')
  (hK:wpListIn F n P ops Q rest (a.put o.dst v') w'):wpListIn F n P ops Q (o::rest) a w:=by
 refine wpListIn_plain hg λK hK'=>?_
 unfold Oper.wpIn
 refine⟨?_,?_⟩
 ·simp[Oper.about,hop,resolve,Target.leads]
 ·rw[Oper.semAt_plain F _ _ (by rw[hop];intro c hc';cases hc')]
  simp[execOp,hop,resolve,invoke,builtin,hs,hx,hrun,Result.andThen]
  exact hK' _ _ hK
theorem wD {O:List Nat} {w:World} {l:List Int} {v:Value}(h:Rep O w (DU l) v):RepC O w (DU l) [v]:=by
 obtain⟨cs,h1,rfl⟩:=h
 obtain⟨a,c,rfl,_⟩:=Hn h1
 exact h1
def AEv(b2:Nat)(O:List Nat)(W1:World)(R S:List Nat)(pre:List (List Int))(A:World):Prop:=
 (∀b∈b2::O,b∈S)/\Tch (b2::R) W1 A/\∃v css,A.heap[b2]? =some (Obj.cells #[v] 46)/\Sl 22 1 id A v css/\(∀b,v.ownBlock=some b->b∈S/\b∉R/\W1.heap.size<=b)/\Aq (S++R) A (pre.map DU) css/\∀x∈css,ER 1 x
theorem S8 {b2:Nat} {O:List Nat} {W1:World} {R S:List Nat} {pre:List (List Int)} {A B:World}(hb2:b2<W1.heap.size)(hR:∀r∈R,W1.heap.size<=r)(h:AEv b2 O W1 R S pre A)(t:Tch R A B):AEv b2 O W1 R S pre B:=by
 obtain⟨h1,h2,v,css,h3,h4,h5,h6,h7⟩:=h
 exact⟨h1,h2.trans0 (t.mono (by simp+contextual)),v,css,Hr t h3 (λhm=>by have:=hR _ hm;omega),h4.keep t (λb hb=>(h5 b hb).2.1),h5,Aq.later (Tch.later (t.mono (T:=S++R) (by simp+contextual))) _ _ h6,h7⟩
set_option maxHeartbeats 1000000 in
theorem lM(xs:List (List Int))(hxs:xs.length<=1000000) {O:List Nat} {w:World} {fv:Value}(hO:∀b∈O,b<w.heap.size)
  (hseq:∀(O':List Nat) (l:Nat) (W:World),Later O w O' W->(∀b∈O',b<W.heap.size)->oL C1 fv xs O' l W):
  CallsIn Fence.wide 4 Tryz.prog 278 #[.slice none 0 0,fv] w λe B=>∃v,e=.returned v/\Rep O B (.list 1 (xs.map DU)) v/\Tch [] w B:=by
 refine callsIn_of_wp_marks (n:=4) Tryz.func278 rfl trivial ?_ rfl
 simp only[Tryz.ntmps278,BC,Aw,Bt,Nat.reduceAdd,Nat.reduceSub,CX,CW,D8,Dg,BB,AT]
 gi_wp2
 obtain⟨W1,hW1⟩:∃W1,w.alloc (Obj.cells #[Value.slice none 0 0] 46)=W1:=⟨_,rfl⟩
 have T1:Tch [] w W1:=by rw[<-hW1];exact Tch.alloc _ _ _
 have H2:W1.heap[w.heap.size]? =some (Obj.cells #[Value.slice none 0 0] 46):=by rw[<-hW1];exact World.alloc_heap_new _ _
 rw[hW1]
 clear hW1
 obtain⟨b2,hb2⟩:∃b,w.heap.size=b:=⟨_,rfl⟩
 rw[hb2]at H2
 simp only[hb2]
 have hb2lt:=(Ak.1 H2).1
 have hs1:=T1.size
 have hO1:∀b∈b2::O,b<W1.heap.size:=λb hb=>by
  rcases Ai.1 hb with rfl|hb
  ·exact hb2lt
  ·have:=hO b hb;omega
 refine Tn (C:=C1) xs (b2::O) hO1 rfl (λV t hs=>?_) (AEv b2 O W1) (λ_ _ _ _=>False) (λR S pre A B hR h t=>S8 hb2lt hR h t) (λ_ _ _ _ _ _ h _=>h)
  (λR V hR t=>⟨λb hb=>hb,t.mono (by simp),_,[],BT t H2,Sl.nil _ _ _ _,(λb hb=>by cases hb),by simp[Aq],by simp⟩) ?_ ?_ (λ_ _ _ _ _ _ _ _ _ _ h=>h.elim)
 ·exact hseq _ _ _ (Np (T1.then0 t) (λx hx=>by
   rcases Ai.1 hx with rfl|hx
   ·left;omega
   rcases Ai.1 hx with rfl|hx
   ·left;omega
   rcases Ai.1 hx with rfl|hx
   ·left;omega
   ·exact .inr hx)) (λb hb=>by
   rcases Ai.1 hb with rfl|hb
   ·omega
   rcases Ai.1 hb with rfl|hb
   ·omega
   ·have:=hO1 b hb;omega)
 ·intro l R S pre x v A hl hlR hR hSA hSR hI hpx hrep hsz hRA
  rw[show C1.P=Tryz.prog from rfl]
  obtain⟨av,cv,rfl,_,_⟩:=Dv hrep
  gi_wp2
  refine⟨Tch.refl _ _,λA2 TA2=>?_⟩
  have hI:=S8 hb2lt hR hI (TA2.mono (T:=R) (by simpa using hlR))
  have hrep2:=DM (TA2.mono (T:=S++R) (by simp[hlR])) hrep
  have hSA2:∀b∈S,b<A2.heap.size:=λb hb=>Bq (hSA b hb) TA2.size
  have hRA2:∀r∈R,r<A2.heap.size:=λr hr=>Bq (hRA r hr) TA2.size
  clear hrep TA2 hsz
  obtain⟨h1,tA,u,css,g2,hsl,hown,hcss,hrow⟩:=hI
  have c2:A2.cell? ⟨b2,0,none⟩=some u:=by simp only[World.cell?,g2];rfl
  have hb2S:b2∈S:=h1 b2 (by simp)
  have hpl:pre.length<=1000000:=by
   have:=hpx.length_le
   simp only[Ah,BE]at this
   omega
  have hcl:css.length=pre.length:=by rw[Q0 hcss,Ac]
  have hcx:=wD hrep2
  have TA1:Tch [] A2 (A2.alloc (Obj.cells #[Value.slice av x.length cv] 22)):=Tch.alloc _ _ _
  have hslA:=hsl.keep TA1 (λb _=>by simp)
  have hcellA:(A2.alloc (Obj.cells #[Value.slice av x.length cv] 22)).cell? ⟨A2.heap.size,0,none⟩=some (Value.slice av x.length cv):=by
   simp only[World.cell?]
   rw[World.alloc_heap_new];rfl
  obtain⟨v',A4,css2,ha1,ha2,ha3,ha4,ha5,ha6⟩:=L7 (P:=Tryz.prog) (w:=A2.alloc (Obj.cells #[Value.slice av x.length cv] 22)) (v:=u) (vy:=.slice (some ⟨A2.heap.size,0,none⟩) 1 1) (EO.ty (t:=46) rfl) rfl (EO.ty (t:=22) rfl) (by decide) (by decide) hslA
   (O:=S++R) (es:=[DU x]) ⟨⟨_,_,[[Value.slice av x.length cv]],rfl,by
    simp only[Aq]
    refine⟨[Value.slice av x.length cv],[],rfl,?_,rfl⟩
    have h9:=RepC.later (Tch.later (Tch.up (O:=S++R) TA1)) _ _ hcx
    exact h9,by intro y hy;simp at hy;subst hy;exact⟨rfl,by intro z hz;simp at hz;subst hz;rfl⟩,.inr ⟨A2.heap.size,0,rfl,λj z hj=>by
     cases j with
     |zero=>simp at hj;subst hj;exact hcellA
     |succ j=>simp at hj⟩⟩⟩ (by rw[hcl];exact BH (m:=1000001) (by simp;omega) (by decide)) 46
  have hne:css++css2≠[]:=λe=>by
   have:=Q0 ha3
   rw[(List.append_eq_nil_iff.1 e).2]at this
   simp at this
  rcases ha2.shape with⟨_,e⟩|⟨gv,cap,rfl,_⟩
  ·exact absurd e hne
  have e9:(css++css2).length=pre.length+css2.length:=by rw[Ah,hcl]
  rw[e9]at ha1 ha2 ha6
  have g2A:A4.heap[b2]? =some (Obj.cells #[u] 46):=Hr ha5 (BT TA1 g2) (λhm=>by
   have h9:u.ownBlock=some b2:=by simpa using hm
   have:=(hown b2 h9).2.2;omega)
  have c2A:A4.cell? ⟨b2,0,none⟩=some u:=by simp only[World.cell?,g2A];rfl
  have f2A:A4.frozen? ⟨b2,0,none⟩=false:=by simp[World.frozen?,g2A]
  have hgv:gv∈S\/A2.heap.size<=gv:=by
   rcases ha6 with h|h
   ·exact .inl (hown gv h.symm).1
   ·right
    have:gv=(A2.alloc (Obj.cells #[Value.slice av x.length cv] 22)).heap.size:=by simpa[Value.ownBlock]using h
    rw[this];simp
  have hgvR:gv∉R:=λhm=>by
   rcases hgv with h|h
   ·exact hSR gv h hm
   ·have:=hRA2 gv hm;omega
  have hgvW:W1.heap.size<=gv:=by
   rcases ha6 with h|h
   ·exact(hown gv h.symm).2.2
   ·rcases hgv with h2|h2
    ·have:gv=(A2.alloc (Obj.cells #[Value.slice av x.length cv] 22)).heap.size:=by simpa[Value.ownBlock]using h
     rw[this];have:=tA.size;simp;omega
    ·have:=tA.size;omega
  have hgv2:¬b2=gv:=by omega
  have TA4:Tch S A2 A4:=(Tch.up TA1).trans0 (ha5.mono (λb hb=>by
   have:u.ownBlock=some b:=by simpa using hb
   exact(hown b this).1))
  have hgvlt:gv<A4.heap.size:=ha2.lt rfl
  gi_wp2_with (gi_at_builtin;refine N4 rfl _ _ _ rfl rfl rfl ha1 ?_)
  obtain⟨vN,hvN⟩:∃vN,Value.slice (some ⟨gv,0,none⟩) (pre.length+css2.length) cap=vN:=⟨_,rfl⟩
  have hvo:vN.ownBlock=some gv:=by rw[<-hvN];rfl
  rw[hvN]at ha2
  simp only[hvN]
  have TS:Tch [b2] A4 (A4.setCell ⟨b2,0,none⟩ vN):=(Tch.refl [b2] A4).andSet (.inl (by simp)) _
  have T24:Tch S A2 (A4.setCell ⟨b2,0,none⟩ vN):=TA4.trans0 (TS.mono (by simpa using hb2S))
  have hgr:Grow S A2 (gv::S) (A4.setCell ⟨b2,0,none⟩ vN):=⟨T24,λb hb=>by simp[hb],λb hb=>by
   rcases Ai.1 hb with rfl|hb
   ·exact hgv
   ·exact .inl hb,λb hb=>by
   rcases Ai.1 hb with rfl|hb
   ·exact Bq hgvlt TS.size
   ·exact Bq (hSA2 b hb) T24.size⟩
  have LS:Later (S++R) A2 (gv::S++R) (A4.setCell ⟨b2,0,none⟩ vN):=⟨T24.size,λb hb hn=>T24.blk b hb (λhm=>hn (Au _ hm)),λb hn hb hm=>by
   simp only[AT,Ai,Ag]at hm
   rcases hm with rfl|hm|hm
   ·rcases hgv with h|h
    ·exact hn (Au _ h)
    ·omega
   ·exact hn (Au _ hm)
   ·exact hn (Av _ hm)⟩
  have hgvA:gv∈S\/(A2.alloc (Obj.cells #[Value.slice av x.length cv] 22)).heap.size<=gv:=by
   rcases ha6 with h|h
   ·exact .inl (hown gv h.symm).1
   ·right
    have:gv=(A2.alloc (Obj.cells #[Value.slice av x.length cv] 22)).heap.size:=by simpa[Value.ownBlock]using h
    omega
  have L2:Later (S++R) (A2.alloc (Obj.cells #[Value.slice av x.length cv] 22)) (gv::S++R) (A4.setCell ⟨b2,0,none⟩ vN):=⟨BH ha5.size TS.size,λb hb hn=>by
   rw[TS.blk b (Bq hb ha5.size) (λhm=>hn (Au _ (by rw[As.1 hm];exact hb2S)))]
   exact ha5.blk b hb (λhm=>hn (Au _ (hown b (by simpa using hm)).1)),λb hn hb hm=>by
   simp only[AT,Ai,Ag]at hm
   rcases hm with rfl|hm|hm
   ·rcases hgvA with h|h
    ·exact hn (Au _ h)
    ·omega
   ·exact hn (Au _ hm)
   ·exact hn (Av _ hm)⟩
  have TX:Tch (b2::u.ownBlock.toList) A2 (A4.setCell ⟨b2,0,none⟩ vN):=((Tch.up TA1).trans0 (ha5.mono (by simp+contextual))).trans0 (TS.mono (by simp))
  refine⟨gv::S,hgr,λb hb=>A9 _ (h1 b hb),?_,vN,css++css2,Boxed.set vN g2A,ha2.keep TS (λb hb=>by
   rw[hvo]at hb;cases hb;simp;omega),λb hb=>by
   rw[hvo]at hb;cases hb;exact⟨by simp,hgvR,hgvW⟩,?_,λy hy=>by
   rcases Ag.1 hy with hy|hy
   ·exact hrow y hy
   ·exact ha4 y hy⟩
  ·exact tA.trans TX (λ_ h=>h) (λb hb=>by
    rcases Ai.1 hb with rfl|hb
    ·left;simp
    ·right;exact(hown b (by simpa using hb)).2.2)
  ·rw[A7]
   exact FJ (Aq.later LS _ _ hcss) (Aq.later L2 _ _ ha3)
 ·intro D R S V hD hDR hR hSR hI ht hDef
  obtain⟨h1,tV,u,css,g2,hsl,hown,hcss,hrow⟩:=hI
  have c2:V.cell? ⟨b2,0,none⟩=some u:=by simp only[World.cell?,g2];rfl
  gi_wp2
  have TE:Tch (b2::R) W1 (V.putObj D (.deferred none)):=tV.trans0 ((DD _ _ _).mono (by simp[hDR]))
  have TP:Tch R V (V.putObj D (.deferred none)):=(DD _ _ _).mono (by simp[hDR])
  refine⟨by simp,.inl ⟨D,_,rfl,run_takeDeferred hDef,?_⟩⟩
  refine⟨_,results_tmp rfl _ _ _,u,rfl,?_,T1.trans TE (λ_ h=>h) (λb hb=>by
   rcases Ai.1 hb with rfl|hb
   ·right;omega
   ·right;have:=hR b hb;omega)⟩
  have LX:Later (S++R) V O (V.putObj D (.deferred none)):=⟨TP.size,λb hb hn=>TP.blk b hb (λhm=>hn (Av _ hm)),λb hn _ hm=>hn (Au _ (h1 b (by simp[hm])))⟩
  exact Rc (hsl.keep TP (λb hb=>(hown b hb).2.1)) (λb hb hm=>by have:=(hown b hb).2.2;have:=hO b hm;omega) (Aq.later LX _ _ hcss) hrow
theorem ABG(p q:Pt)(h8:p.labels.length<=8):(Es p q).length<=40320:=by
 by_cases hl:p.labels.length=q.labels.length
 ·have h1:(Es p q).length<=(lP p.labels.length).length:=Ff (Lq p q) (λo ho=>by
   unfold Es at ho
   exact Qa.2 ((M1 hl.symm).1 (Az.1 ho).1).1)
  rw[eY]at h1
  refine BH h1 ?_
  have:∀n,n<=8->Y0 n<=40320:=by decide
  exact this _ h8
 ·rw[aU hl];simp
theorem Y9 {p q:Pt}(hp:Dp p=none)(hq:Dp q=none)(hE:p.edges.length<=1000)(hE':q.edges.length<=1000):Pure C1 250 [nI p q] (λy=>y=.list 1 ((Es p q).map DU)):=by
 intro O w vs hO hg hr
 obtain⟨fv,vs',rfl,hv,hr'⟩:=Cn hr
 obtain rfl:=Ds hr'
 have h8:=(CS (BJ hp).1).1
 have ha:=lM (Es p q) (BH (ABG p q h8) (by decide)) (fv:=fv) hO (λO' l W hL hO'=>yS hp hq hE hE' hO' (Gh hL hg) (hv.later hL))
 refine⟨by kernel_rfl,?_⟩
 show Calls Tryz.prog _ _ _ _
 refine callsIn_wide.1 (callsIn_of_wp (n:=5) Tryz.func250 rfl trivial ?_ rfl)
 simp only[Tryz.ntmps250,BC,Aw,Bt,Nat.reduceAdd,Nat.reduceSub,CX,CW,D8,Dg,BB,AT]
 gi_wp2
 refine⟨trivial,ha.mono ?_⟩
 rintro e B ⟨v,rfl,hr,t⟩
 gi_wp2
 go_ret
 exact⟨v,_,rfl,rfl,hr,t⟩
def AF3:List FuncId:=[113,251,250]
theorem xQ {p:Pt}(hp:Dp p=none)(hE:p.edges.length<=1000):Pure C1 185 [FE p] (λy=>y=.tuple [.list 1 ((Es p p).map DU),.nili]):=by
 have hri:=EM p (by have:=(CS (BJ hp).1).1;omega) (by omega)
 rw[Fq hp]at hri
 have hm:=rR p p
 have hc:=Y9 hp hp hE hE
 refine AW Tryz.func185 Tryz.ntmps185 AF3 [] ?_
 (conv=>whnf)
 (repeat' ((first|refine Aj ?_ ?_|refine Af rfl hri ?_|refine Af rfl hm ?_|refine Af rfl hc ?_|refine nx ?_|refine AD (λ_=>?_) (λ_=>?_)|exact AG)<;>conv=>whnf))
 exact rfl
end Go.Proofs.YtjpmmkodoeipmaaGreatDoor
end
section
namespace Go.Proofs.YtjpmmkodoeipmaaGreatDoor
open Go.Sx Go.RowKit Go.Reg Go.Gr
set_option maxRecDepth 100000
theorem Si {p:Pt}(hp:Dp p=none):PtOk p.labels.length p:=⟨rfl,(BJ hp).2.1,(BJ hp).2.2⟩
theorem UX {p:Pt}(hp:Dp p=none):(Cc p).labels.length=p.labels.length/\(Cc p).edges.length=p.edges.length:=by
 obtain⟨_,h1,h2,_⟩:=Hb (Si hp)
 rw[h2]
 exact⟨Fb _ _,Hk h1 (Si hp)⟩
def AF5:List FuncId:=[168,10]
theorem ABM {p:Pt}(hp:Dp p=none)(hE:p.edges.length<=1000):Pure C1 184 [FE p] (λy=>y=.bool (decide (Cc p=p))):=by
 have h1:=R7 p hp hE
 have l1:=(CS (BJ hp).1).1
 obtain⟨f1,f2⟩:=UX hp
 have hc:=Hp (Cc p) p (by omega) (by omega) (by omega) (by omega)
 refine AW Tryz.func184 Tryz.ntmps184 AF5 [] ?_
 by_cases h:Cc p=p
 ·rw[show Dw (Cc p) p=0 from(Hl.eq0 _ _).2 h]at hc
  rw[decide_eq_true h]
  (conv=>whnf)
  (repeat' ((first|refine Aj ?_ ?_|refine Af rfl h1 ?_|refine Af rfl hc ?_|refine nx ?_|refine AD (λ_=>?_) (λ_=>?_)|exact AG)<;>conv=>whnf))
  exact rfl
 ·have h0:Dw (Cc p) p≠0:=λe=>h ((Hl.eq0 _ _).1 e)
  generalize Dw (Cc p) p=z at hc h0
  rw[decide_eq_false h]
  (conv=>whnf)
  (repeat' ((first|refine Aj ?_ ?_|refine Af rfl h1 ?_|refine Af rfl hc ?_|refine nx ?_|refine AD (λ_=>?_) (λ_=>?_)|exact AG)<;>conv=>whnf))
  exact congrArg Da.bool (decide_eq_false h0)
end Go.Proofs.YtjpmmkodoeipmaaGreatDoor
end
section
namespace Go.Proofs.YtjpmmkodoeipmaaGreatDoor
open Go.Sx Go.RowKit Go.Reg Go.Gr
set_option maxRecDepth 100000
theorem zY {n:Nat} {p:Pt}(hp:PtOk n p)(h8:n<=8):p.edges.length<=64:=by
 have hd:DecidableEq Edg:=λx y=>decidable_of_iff (Cy x y=0) (YA x y)
 have h:=Ff hp.strict.nodup (m:=(List.range 8).flatMap λa:Nat=>(List.range 8).map λb:Nat=>(⟨(a:Int),(b:Int)⟩:Edg)) (λe he=>by
  obtain⟨i,j,hij,hj,rfl⟩:=Qw (hp.edge e he)
  exact AL.2 ⟨i,AM.2 (by omega),An.2 ⟨j,AM.2 (by omega),rfl⟩⟩)
 refine BH h ?_
 rw[MI (k:=8) (λx _=>by simp)]
 simp
theorem Kr {p:Pt}(hp:Dp p=none):p.edges.length<=64:=zY (Si hp) (CS (BJ hp).1).1
end Go.Proofs.YtjpmmkodoeipmaaGreatDoor
end
section
namespace Go.Gr
open Go.Proofs.YtjpmmkodoeipmaaGreatDoor
theorem TK {l:List Int}(h:l.Nodup):(DF l).length=l.length:=by
 have h1:=U0 (Oz (BK l).1) λx hx=>((BK l).2 x).1 hx
 have h2:=U0 h λx hx=>((BK l).2 x).2 hx
 omega
theorem xR {n:Nat} {p:Pt}(hp:PtOk n p)(h8:n<=8):(Es p p).length<=40320:=by
 obtain⟨c,hc⟩:=AB7 hp
 have:=ACb n h8
 have hpos:=cN n
 cases c with
 |zero=>omega
 |succ c=>rw[CV,Nat.one_mul]at hc;omega
theorem ZV(p:Pt)(X:List (List Int)):(JR p X).length=X.length*(Es p p).length:=MI λx _=>by rw[Ac]
def JK(o:List Int)(i v:Nat):Bool:=(List.range i).any λj=>decide (pl o j=v)
theorem Nv {o:List Int} {i v:Nat}:JK o i v=true↔∃j,j<i/\pl o j=v:=by
 unfold JK;rw[Cp];simp
theorem kY(o:List Int)(i v:Nat):JK o (i+1) v=(JK o i v||decide (v=pl o i)):=by
 rw[CJ,Dj,Nv,Nv,decide_eq_true_eq]
 constructor
 ·rintro⟨j,hj,e⟩
  rcases BL j i with h|h
  ·exact .inl ⟨j,h,e⟩
  ·rw[show j=i by omega]at e;exact .inr e.symm
 ·rintro(⟨j,hj,e⟩|e)
  ·exact⟨j,by omega,e⟩
  ·exact⟨i,by omega,e.symm⟩
theorem AAf {n:Nat} {o:List Int}(ho:C2 n o) {i:Nat}(hi:i<n):JK o i (pl o i)=false:=by
 cases h:JK o i (pl o i)with
 |false=>rfl
 |
  true=>
  obtain⟨j,hj,e⟩:=Nv.1 h
  have:=O2 ho (show j<n by omega) hi e
  omega
theorem sZ {n:Nat} {o:List Int}(ho:C2 n o)(v:Nat)(hv:v<n):JK o n v=true:=by
 obtain⟨j,hj,e⟩:=Lk ho hv
 exact Nv.2 ⟨j,hj,e⟩
theorem kX(o:List Int)(v:Nat):JK o 0 v=false:=rfl
end Go.Gr
end
section
namespace Go.Proofs.YtjpmmkodoeipmaaGreatDoor
open Go.Sx Go.RowKit Go.Reg Go.Gr
set_option maxRecDepth 100000
theorem ocN(s:List Int):Oc (dN s):=by
 rcases Vp s with h|h<;>rw[h]
 ·exact ABC
 ·exact Gt _ _
def tC(F:Pt)(O S:List (List Int)):AbsD:=cY 210 22 (Bn F.labels) (Fa F.edges) (dLL O) (S.map dN)
theorem ocS(S:List (List Int)):∀s∈S.map dN,Oc s:=λs hs=>by
 obtain⟨x,_,rfl⟩:=An.1 hs
 exact ocN x
def xG:List (Nat×Plan):=[(9,.leaf [1,0,0,1,0,2,0,6,0,0] [1,2,0,3,4,5,6,7,8,9] [0,0,0,4,12,28,63,127,255,511])]
def ADp:List FuncId:=[183,184,185]
theorem ACr:CH Tryz.prog ADp xG (Tryz.f126.body.getD .skip)=true:=by kernel_rfl
theorem ABp(vs:Array Value)(w:World):(callFunc 126 vs).run C1.P w=.ok (.enter 126 vs) w:=by kernel_rfl
theorem ACi {F:Pt}(hF:Dp F=none)(hFF:Cc F=F)(h0:F.labels≠[]):DZ C3 126 [.d (FE F)] [] [] (λd σ=>d=.tuple [.own 900,.d .nili]/\σ=[(900,(tC F (Es F F) (E9 F.labels.length (JR F []))).own)]):=by
 have hE:=Kr hF
 have h8:=(CS (BJ hF).1).1
 have hri2:=Pure.up3 (aJ hF h0 (by omega) (by omega))
 have his:=Pure.up3 (ABM hF (by omega))
 rw[decide_eq_true hFF]at his
 have hown:=Pure.up3 (xQ hF (by omega))
 have hdF0:(F.labels.map dI).length=F.labels.length:=Ac _
 have hst:List.replicate F.labels.length Da.nils=(E9 F.labels.length (JR F [])).map dN:=by
  refine Cb λv=>?_
  rw[Ad]
  by_cases hv:v<F.labels.length
  ·rw[AAm hv,show JR F []=[]from rfl,AAn,List.getElem?_replicate,if_pos hv];rfl
  ·rw[AI (by rw[B8];omega),AI (by rw[Nw];omega)];rfl
 refine Mj I7 (pl:=xG) (G:=ADp) Tryz.func126 rfl Tryz.ntmps126 ABp ACr (by simp) 999 rfl ?_
 intro vs
 (conv=>whnf)
 (repeat' ((first|refine Aj ?_ ?_|refine Af rfl hri2 ?_|refine Af rfl his ?_|refine Af rfl hown ?_|refine Mz F.labels.length (by omega) (by omega) (by omega) ?_|refine nx ?_|refine AD (λ_=>?_) (λ_=>?_)|exact AG)<;>conv=>whnf))
 exact⟨_,_,[(31,900)],[(31,(tC F (Es F F) (E9 F.labels.length (JR F []))).own)],QD.domClose (ss:=(E9 F.labels.length (JR F [])).map dN) 31 29 (Gt _ _) (Gt _ _) (Gt _ _) (ocS _) (by decide) rfl (by rw[<-hst];rfl),rfl,⟨rfl,trivial⟩,rfl,rfl,rfl⟩
def XU:List (Nat×Plan):=[(11,.leaf [0,0,0,1,0,0,0,1,0,0,0,1,0,0,0,1,0,1,0,2,0,3] [0,1,2,4,5,6,8,9,10,12,13,14,18,3,7,11,15,16,17,19,20,21] [0,1,3,7,0,0,48,112,0,256,768,1792,0,0,12288,28672,65280,130816,0,524032,1048575,2097151])]
def oP:List FuncId:=[144,186]
theorem ACq:CH Tryz.prog oP XU (Tryz.f127.body.getD .skip)=true:=by kernel_rfl
theorem ABo(vs:Array Value)(w:World):(callFunc 127 vs).run C1.P w=.ok (.enter 127 vs) w:=by kernel_rfl
set_option maxHeartbeats 4000000 in
theorem AAe(F:Pt) {n:Nat} {O Y:List (List Int)} {L:List Int}(hn:n<=8)(hLn:L.length=n)(hLd:L.Nodup)(hOl:O.length<=40320)(hOo:∀o∈O,C2 n o)(hYl:Y.length<=800000000):
  DZ C3 127 [.own 900,.d (Bn L)] [(900,(tC F O (E9 n Y)).own)] [900] (λd σ=>d=.d .nili/\σ=[(900,(tC F O (E9 n (Y++O.map λo=>JS o L))).own)]):=by
 have hdL:(L.map dI).length=L.length:=Ac _
 have hso:=Pure.up3 (PT L (by omega))
 have hsl:((DF L).map dI).length=L.length:=by rw[Ac,TK hLd]
 have hcn:((E9 n Y).map dN).length=n:=by rw[Ac,Nw]
 have hdO:(O.map DU).length=O.length:=Ac _
 refine mP I7 (pl:=XU) (G:=oP) Tryz.func127 rfl Tryz.ntmps127 ABo ACq (by simp) 999 rfl ?_
 intro vs
 refine⟨_,_,QD.domOpen 900 901 (Gt _ _) (Gt _ _) (Gt _ _) (ocS _) rfl rfl,?_⟩
 (conv=>whnf)
 (repeat' ((first|refine Aj ?_ ?_|refine Af rfl hso ?_|refine nx ?_|refine AD (λ_=>?_) (λ_=>?_)|exact AG)<;>conv=>whnf))
 refine aV (ι:=Nat) (λa=>a<=O.length) (λa=>[(36,.d (.int .i64 a)),(35,.d (.int .i64 O.length)),(34,.d (.list 1 (O.map DU))),(1,.d (Bn L)),(0,.own 900)]) (λa=>[(900,.cells 210 [.d (FE F),.d (.list 1 (O.map DU)),.own 901]),(999,.ghost vs [.own 900]),(901,.slice 22 1 ((E9 n (Y++(O.take a).map λo=>JS o L)).map dN))]) (λa=>O.length-a) 0 (λ_=>rfl) (Am _) .refl ⟨rfl,by rw[<-hdO];rfl,rfl,rfl,rfl,trivial⟩ ⟨rfl,rfl,Bk (by rw[List.take_zero,Bu,Cg]),trivial⟩ ?_
 intro a ha
 refine Hf oP XU ?_
 by_cases hal:a<O.length
 ·have ho:=Ab hal
  have hom:=hOo _ (Bc hal)
  generalize O[a]=o at ho hom
  have hod:(O.map DU)[a]? =some (Bn o):=by rw[Ad,ho];rfl
  have hta:(O.take (a+1)).map (λo=>JS o L)=(O.take a).map (λo=>JS o L)++[JS o L]:=by rw[Ay,ho,A7];rfl
  have hol:o.length=n:=hom.1
  have hdo:(o.map dI).length=o.length:=Ac _
  have hYa:(Y++(O.take a).map λo=>JS o L).length<=900000000:=by
   rw[Ah,Ac,AA];omega
  have hYn:(Y++(O.take (a+1)).map λo=>JS o L)=(Y++(O.take a).map λo=>JS o L)++[JS o L]:=by rw[hta,Bj]
  generalize (Y++(O.take a).map λo=>JS o L)=Z at hYa hYn⊢
  (conv=>whnf)
  (repeat' ((first|refine Aj ?_ ?_|refine AP hod rfl ?_|refine nx ?_|refine AD (λ_=>?_) (λ_=>?_)|exact AG)<;>conv=>whnf))
  refine AR (ι:=Nat) (λi=>i<=n) (λi=>[(42,.d (.int .i64 i)),(41,.d (.int .i64 L.length)),(40,.d (Bn L)),(6,.d (Bn o)),(36,.d (.int .i64 a)),(35,.d (.int .i64 O.length)),(34,.d (.list 1 (O.map DU))),(1,.d (Bn L)),(0,.own 900)]) (λi=>[(900,.cells 210 [.d (FE F),.d (.list 1 (O.map DU)),.own 901]),(999,.ghost vs [.own 900]),(901,.slice 22 1 ((PZ n Z (JS o L) (JK o i)).map dN))]) (λi=>n-i) 0 (λ_=>rfl) (Am _) (.refl _ _) ⟨rfl,by rw[<-hdL];rfl,rfl,rfl,rfl,rfl,rfl,rfl,rfl,trivial⟩ ⟨rfl,rfl,Bk (by rw[iZ _ _ _ (λv _=>kX o v)]),trivial⟩ ?_
  intro i hi
  refine Hf oP XU ?_
  by_cases hil:i<n
  ·have hy:=Ab (l:=L) (i:=i) (by omega)
   generalize L[i]'(by omega)=v at hy
   have hyd:(L.map dI)[i]? =some (.int .i64 v):=by rw[Ad,hy];rfl
   have hpi:=JB hom hil
   have hpl:=GZ hom hil
   have hpd:(o.map dI)[i]? =some (.int .i64 (pl o i:Nat)):=by rw[Ad,hpi];rfl
   have hmv:=yL hom hLn hil
   rw[hy]at hmv
   have hno:=AAf hom hil
   have hstp:=congrArg (List.map dN) (rO (k:=n) (Y:=Z) (done:=JK o i) (done':=JK o (i+1)) hmv (λu _=>kY o i u))
   rw[Dz,AEN (AC9 _ _)]at hstp
   have hud:((PZ n Z (JS o L) (JK o i)).map dN)[pl o i]? =some (dN (JY Z (pl o i))):=by
    rw[Ad,Yj hpl,hno];rfl
   have hul:((PZ n Z (JS o L) (JK o i)).map dN).length=n:=by rw[Ac,PY]
   have had:=Pure.up3 (vR (JY Z (pl o i)) (Xm _ _) (by have:=dP Z (pl o i);omega) v)
   generalize (PZ n Z (JS o L) (JK o i)).map dN=U at hstp hud hul⊢
   generalize pl o i=w at hstp hud had hpd hpl
   generalize hX2:dN (JY Z w)=xd at hud had
   have hxx:=Vp (JY Z w)
   rw[hX2]at hxx
   rcases hxx with rfl|rfl<;>(conv=>whnf)<;>(repeat' ((first|refine Aj ?_ ?_|refine AP hyd rfl ?_|refine AP hpd rfl ?_|refine Hd (i:=w) rfl (by omega) ?_|refine Hc hud ?_|refine Af rfl had ?_|refine nx ?_|refine AD (λ_=>?_) (λ_=>?_)|exact AG)<;>conv=>whnf))
   all_goals exact⟨i+1,_,_,hil,.refl _ _,⟨rfl,rfl,rfl,rfl,rfl,rfl,rfl,rfl,rfl,trivial⟩,⟨rfl,rfl,Bk hstp,trivial⟩,by omega⟩
  ·have hie:i=n:=by omega
   subst hie
   rw[yP _ _ _ (λv hv=>sZ hom v hv)]
   ((conv=>whnf);repeat' ((first|refine odw ?_|refine nx ?_|refine AD (λ_=>?_) (λ_=>?_))<;>conv=>whnf))
   exact⟨a+1,_,_,hal,.refl,⟨rfl,rfl,rfl,rfl,rfl,trivial⟩,⟨rfl,rfl,Bk (by rw[hYn]),trivial⟩,by omega⟩
 ·have hOe:O.take a=O:=Al (by omega)
  rw[hOe]
  (conv=>whnf)
  ((conv=>whnf);repeat' ((first|refine odw ?_|refine nx ?_|refine AD (λ_=>?_) (λ_=>?_))<;>conv=>whnf))
  exact⟨_,_,[],[(900,(tC F O (E9 n (Y++O.map λo=>JS o L))).own)],QD.domClose 900 901 (Gt _ _) (Gt _ _) (Gt _ _) (ocS _) (by decide) rfl rfl,rfl,⟨rfl,trivial⟩,rfl,rfl,rfl⟩
def JX(y:Pt×List (List Int)):AbsD:=tC y.1 (Es y.1 y.1) (E9 y.1.labels.length (JR y.1 y.2))
theorem Xl {F:Pt}(hF:Dp F=none)(W:List (List Int))(hW:W.length<=10000) {L:List Int}(hLn:L.length=F.labels.length)(hLd:L.Nodup):
  DZ C3 127 [.own 900,.d (Bn L)] [(900,(JX (F,W)).own)] [900] (λd σ=>d=.d .nili/\σ=[(900,(JX (F,W++[L])).own)]):=by
 have hp:=Si hF
 have h8:=(CS (BJ hF).1).1
 have hO:=xR hp h8
 have:=AAe F (n:=F.labels.length) (O:=Es F F) (Y:=JR F W) h8 hLn hLd hO (λo ho=>AB6 hp ho) (by
  rw[ZV]
  exact BH (DO hW hO) (by decide))
 rw[show JR F W++(Es F F).map (λo=>JS o L)=JR F (W++[L])by unfold JR;rw[CO];simp]at this
 exact this
def ADJ:List (Nat×Plan):=[(3,.leaf [0,0,0,0,1,2,0,0,0,0,1,2,0,3] [0,1,2,3,6,7,8,9,4,10,5,11,12,13] [0,1,3,7,15,31,0,64,192,448,960,2047,4095,8191])]
def AF1:List FuncId:=[88,114]
theorem sY(F:Pt)(O S:List (List Int))(hl:F.labels.length<=1000)(he:F.edges.length<=1000):Pure C1 76 [dD F O S] (λy=>y=FE F):=by
 have h1:(F.labels.map dI).length=F.labels.length:=Ac _
 have hc1:=It F.labels (by omega)
 have hc2:=RC F.edges (by omega)
 refine AW Tryz.func76 Tryz.ntmps76 AF1 ADJ ?_
 (conv=>whnf)
 (repeat' ((first|refine Aj ?_ ?_|refine Ju 11 rfl rfl hc1 ?_|refine Ju 17 rfl rfl hc2 ?_|refine nx ?_|refine AD (λ_=>?_) (λ_=>?_)|exact AG)<;>conv=>whnf))
 exact rfl
end Go.Proofs.YtjpmmkodoeipmaaGreatDoor
end
section
namespace Go.Proofs.YtjpmmkodoeipmaaGreatDoor
open Go.Sx Go.RowKit Go.Reg Go.Gr
set_option maxRecDepth 100000
theorem AEh {p q:Pt}(hp:Dp p=none)(hq:Dp q=none):Pure C1 10 [FE p,FE q] (λy=>y=.int .i64 (Dw p q)):=by
 have h1:=(CS (BJ hp).1).1
 have h2:=(CS (BJ hq).1).1
 have h3:=Kr hp
 have h4:=Kr hq
 exact Hp p q (by omega) (by omega) (by omega) (by omega)
end Go.Proofs.YtjpmmkodoeipmaaGreatDoor
end
section
namespace Go.Proofs.YtjpmmkodoeipmaaGreatDoor
open Go.Sx Go.RowKit Go.Reg Go.Gr
set_option maxRecDepth 100000
theorem AEP:Dp ⟨[-1],[]⟩=some (3,0):=by decide
def AFe:List FuncId:=[168,182,20]
theorem gY {p:Pt}(hp:Dp p=none)(l:List Int)(hl:l.length=p.labels.length):Pure C1 125 [FE p,Bn l] (λy=>y=.tuple [FE (Cc p),Bn (JS (LM p) l),.nili]):=by
 have hE:=Kr hp
 have hf:=R7 p hp (by omega)
 obtain⟨_,hB,_⟩:=Hb (Si hp)
 have h8:=(CS (BJ hp).1).1
 have hpu:=PO (LM p) l (by have:=hB.1;omega)
 rw[show qK (LM p) l=.tuple [Bn (JS (LM p) l),.nili]by
  unfold qK
  rw[if_neg (by rw[(Yc (by rw[hB.1];exact h8)).2 (by rw[hB.1];exact hB)];decide),if_pos (hB.1.trans hl.symm)];rfl]at hpu
 refine AW Tryz.func125 Tryz.ntmps125 AFe [] ?_
 (conv=>whnf)
 (repeat' ((first|refine Aj ?_ ?_|refine Af rfl hf ?_|refine Af rfl hpu ?_|refine nx ?_|refine AD (λ_=>?_) (λ_=>?_)|exact AG)<;>conv=>whnf))
 exact rfl
end Go.Proofs.YtjpmmkodoeipmaaGreatDoor
end
section
namespace Go.Proofs
open Go.Shelf
def Tryz.sortN_ren:Go.Shelf.Ren:=⟨λ|6=>77|15=>124|14=>130|28=>180|29=>181|20=>189|21=>190|22=>191|23=>192|24=>193|25=>194|26=>195|27=>196|46=>254|47=>245|48=>246|49=>255|50=>256|57=>282|n=>n,λ|22=>45|24=>56|25=>153|3=>3|39=>202|0=>0|53=>250|55=>215|4=>4|46=>243|45=>242|50=>247|5=>5|9=>9|66=>293|70=>297|76=>318|77=>112|n=>n,λ|n=>n⟩
theorem Tryz.sortN:Go.Proofs.SlLaysF0.n6 Tryz.prog Tryz.sortN_ren:={
 mixed:=by kernel_rfl
 f6:=⟨Tryz.f77.name,by decide,Tryz.func77.trans (congrArg some (by kernel_rfl))⟩
 f14:=⟨Tryz.f130.name,by decide,Tryz.func130.trans (congrArg some (by kernel_rfl))⟩
 f15:=Tryz.func124.trans (congrArg some (by kernel_rfl))
 f20:=⟨Tryz.f189.name,by decide,Tryz.func189.trans (congrArg some (by kernel_rfl))⟩
 f21:=⟨Tryz.f190.name,by decide,Tryz.func190.trans (congrArg some (by kernel_rfl))⟩
 f22:=⟨Tryz.f191.name,by decide,Tryz.func191.trans (congrArg some (by kernel_rfl))⟩
 f23:=⟨Tryz.f192.name,by decide,Tryz.func192.trans (congrArg some (by kernel_rfl))⟩
 f24:=⟨Tryz.f193.name,by decide,Tryz.func193.trans (congrArg some (by kernel_rfl))⟩
 f25:=⟨Tryz.f194.name,by decide,Tryz.func194.trans (congrArg some (by kernel_rfl))⟩
 f26:=⟨Tryz.f195.name,by decide,Tryz.func195.trans (congrArg some (by kernel_rfl))⟩
 f27:=⟨Tryz.f196.name,by decide,Tryz.func196.trans (congrArg some (by kernel_rfl))⟩
 f28:=Tryz.func180.trans (congrArg some (by kernel_rfl))
 f29:=Tryz.func181.trans (congrArg some (by kernel_rfl))
 f46:=⟨Tryz.f254.name,by decide,Tryz.func254.trans (congrArg some (by kernel_rfl))⟩
 f47:=Tryz.func245.trans (congrArg some (by kernel_rfl))
 f48:=Tryz.func246.trans (congrArg some (by kernel_rfl))
 f49:=⟨Tryz.f255.name,by decide,Tryz.func255.trans (congrArg some (by kernel_rfl))⟩
 f50:=⟨Tryz.f256.name,by decide,Tryz.func256.trans (congrArg some (by kernel_rfl))⟩
 f57:=⟨Tryz.f282.name,by decide,Tryz.func282.trans (congrArg some (by kernel_rfl))⟩
 t0:=Tryz.underlying0
 a0:=Tryz.isAgg0
 z0:=Tryz.sizeOf0
 v0:=Tryz.zeroValue0
 t3:=Tryz.underlying3
 a3:=Tryz.isAgg3
 z3:=Tryz.sizeOf3
 v3:=Tryz.zeroValue3
 t4:=Tryz.underlying4
 a4:=Tryz.isAgg4
 z4:=Tryz.sizeOf4
 v4:=Tryz.zeroValue4
 t5:=Tryz.underlying5
 a5:=Tryz.isAgg5
 z5:=Tryz.sizeOf5
 v5:=Tryz.zeroValue5
 t9:=Tryz.underlying9
 a9:=Tryz.isAgg9
 z9:=Tryz.sizeOf9
 v9:=Tryz.zeroValue9
 t22:=Tryz.underlying45
 a22:=Tryz.isAgg45
 z22:=Tryz.sizeOf45
 v22:=Tryz.zeroValue45
 t25:=Tryz.underlying153
 a25:=Tryz.isAgg153
 z25:=Tryz.sizeOf153
 v25:=Tryz.zeroValue153
 t39:=Tryz.underlying202
 a39:=Tryz.isAgg202
 z39:=Tryz.sizeOf202
 v39:=Tryz.zeroValue202
 t45:=Tryz.underlying242
 a45:=Tryz.isAgg242
 z45:=Tryz.sizeOf242
 v45:=Tryz.zeroValue242
 t46:=Tryz.underlying243
 a46:=Tryz.isAgg243
 z46:=Tryz.sizeOf243
 v46:=Tryz.zeroValue243
 t50:=Tryz.underlying247
 a50:=Tryz.isAgg247
 z50:=Tryz.sizeOf247
 v50:=Tryz.zeroValue247
 t53:=Tryz.underlying250
 a53:=Tryz.isAgg250
 z53:=Tryz.sizeOf250
 v53:=Tryz.zeroValue250
 t55:=Tryz.underlying215
 a55:=Tryz.isAgg215
 z55:=Tryz.sizeOf215
 v55:=Tryz.zeroValue215
 t66:=Tryz.underlying293
 a66:=Tryz.isAgg293
 z66:=Tryz.sizeOf293
 v66:=Tryz.zeroValue293
 t70:=Tryz.underlying297
 a70:=Tryz.isAgg297
 z70:=Tryz.sizeOf297
 v70:=Tryz.zeroValue297
 t76:=Tryz.underlying318
 a76:=Tryz.isAgg318
 z76:=Tryz.sizeOf318
 v76:=Tryz.zeroValue318
 t77:=Tryz.underlying112
 a77:=Tryz.isAgg112
 z77:=Tryz.sizeOf112
 v77:=Tryz.zeroValue112}
end Go.Proofs
end
section
namespace Go.Proofs.YtjpmmkodoeipmaaGreatDoor
open Go.Sx Go.RowKit Go.Reg Go.Gr Go.Sort
set_option maxRecDepth 100000 in
theorem jJ(s1 s2 r1 r2:Value)(n m:Int)(p q:Pt)(W:World)(h1:EB 1 JI W s1 p.labels)(h2:EB 2 Ir W s2 p.edges)(h3:EB 1 JI W r1 q.labels)(h4:EB 2 Ir W r2 q.edges):
  Calls Tryz.prog 78 #[.agg #[s1,s2,.int .i64 n],.agg #[r1,r2,.int .i64 m]] W λe w'=>e=.returned (.int .i64 (Dw p q))/\∃n os,w'=grow (W.drewN n) os:=by
 have ht:∀A B,Tch [] W ((W.alloc A).alloc B):=λA B=>((Tch.alloc W A []).trans0 (Tch.alloc _ B []))
 obtain⟨a1,c1,rfl⟩:=D5 h1
 obtain⟨a2,c2,rfl⟩:=D5 h2
 obtain⟨a3,c3,rfl⟩:=D5 h3
 obtain⟨a4,c4,rfl⟩:=D5 h4
 have H1:=Ga h1
 have H2:=Ga h2
 have H3:=Ga h3
 have H4:=Ga h4
 have HT:=Ga ht
 clear h1 h2 h3 h4 ht
 go_enter Tryz.func78,Tryz.ntmps78
 go_wp2_with (go_at_call 10;refine(Sj _ _ _ _ p q _ (H1.out.keep (HT.out _ _)) (H2.out.keep (HT.out _ _)) (H3.out.keep (HT.out _ _)) (H4.out.keep (HT.out _ _))).mono ?_;rintro e w' ⟨rfl,k,os,rfl⟩)
 go_ret
 exact⟨rfl,zJ _ _ _ _ _⟩
open Go.Sort in
theorem pM(R:List (Pt×Int))(hl:R.length<=4294967296):RP C3 77 56 3 (R.map D0) [.func (.func 78) [] []] (λ_ ds=>∃out:List (Pt×Int),ds=out.map D0/\out.Perm R/\out.Pairwise (λa b=>¬Dw b.1 a.1<0)):=by
 intro O w v css us hs hb hO hr hk hg hus
 obtain⟨u,us',rfl,h1,h2⟩:=Cn hus
 obtain rfl:=Ds h2
 obtain⟨cs,r,rfl⟩:=h1
 simp only[RepC,Aq]at r
 obtain⟨_,_,rfl,rfl,rfl⟩:=r
 obtain⟨xs,rfl,rfl⟩:=Ub hr
 have hun:∀w':World,Rep O w' (.tuple []) (.tuple #[]):=λw'=>⟨[.tuple #[]],by simp only[RepC,Aq];exact⟨[],rfl,rfl⟩,rfl⟩
 have hs2:Sl 56 3 OR w v xs:=by
  unfold Sl at hs⊢
  rw[Ac,G0]at hs
  exact hs
 refine⟨by kernel_rfl,?_⟩
 rcases hs2.shape with⟨rfl,rfl⟩|⟨g,cap,rfl,hc⟩
 ·refine(AnyF.slices_SortFunc_none Tryz.sortN none 0 _ w).mono ?_
  rintro e w' ⟨rfl,rfl⟩
  exact⟨.tuple #[],.tuple [],[],[],rfl,⟨[],rfl,.refl _,.nil⟩,hs,by simp[Aq],by simp,hun _,Tch.refl _ _⟩
 ·have hgO:∀b∈[g],b∈O:=λb hb2=>hb b (by rw[As.1 hb2];simp[Value.ownBlock])
  rw[Ac]at hl
  refine(AnyQ.slices_SortFunc Tryz.sortN 3 Tryz.isAgg56 Tryz.sizeOf56 OR GM Qs (λx y=>Dw x.1.2.1 y.1.2.1) (AE2 (f:=λx:fF O w=>x.1.2.1)) 78 #[] g 0 cap xs.toArray w
   (enters_of Tryz.func78 (by kernel_rfl) rfl) (λm os dk hdk x y=>?_) (hs2.holdsK GM (by decide)) (hs2.lt rfl) (by simp;omega)).mono ?_
  ·obtain⟨_,hT⟩:=hs2.sorted GM (by decide) dk (by simpa using hdk) m os
   obtain⟨a,b,e1,h1,h2⟩:=Kn (RepC.later (Hq hT hgO) _ _ x.2)
   obtain⟨a',b',e2,h3,h4⟩:=Kn (RepC.later (Hq hT hgO) _ _ y.2)
   have e1':OR x=_:=e1
   have e2':OR y=_:=e2
   rw[e1',e2']
   exact jJ a b a' b' _ _ _ _ _ h1 h2 h3 h4
  ·rintro e w' ⟨rfl,d,n,os,hp,hso,rfl⟩
   obtain⟨hp1,hp2,hp3⟩:=hp
   have hd:d.size=xs.length:=by simpa using hp1
   obtain⟨hS,hT⟩:=hs2.sorted GM (by decide) d hd n os
   have hperm:d.toList.Perm xs:=by
    have e1:d.extract 0 xs.toArray.size=d:=by rw[<-hp1];exact Ex
    have e2:xs.toArray.extract 0 xs.toArray.size=xs.toArray:=Ex
    rw[e1,e2]at hp3
    exact hp3
   refine⟨.tuple #[],.tuple [],(d.toList.map λx=>x.1.2).map D0,d.toList.map OR,rfl,⟨_,rfl,hperm.map _,?_⟩,?_,Aq.later (Hq hT hgO) _ _ (TG _),?_,hun _,?_⟩
   ·rw[B7,AO]
    intro i j hi hj hij
    have hj':j<xs.length:=by rw[<-hd];simpa using hj
    have hi':i<xs.length:=by omega
    have:=hso i j (Am _) hij (by simpa using hj')
    rw[getElem!_pos d j (by omega),getElem!_pos d i (by omega)]at this
    simpa[ltOf]using this
   ·unfold Sl at hS⊢
    rw[Ac,G0]
    exact hS
   ·intro x hx
    obtain⟨e,_,rfl⟩:=An.1 hx
    exact⟨GM e,Qs e⟩
   ·simpa[Value.ownBlock]using hT
end Go.Proofs.YtjpmmkodoeipmaaGreatDoor
end
section
namespace Go.Proofs.YtjpmmkodoeipmaaGreatDoor
open Go.Sx Go.RowKit Go.Reg Go.Gr
set_option maxRecDepth 100000
def N8:MapE Tryz.prog ByteArray Value where
 t:=146
 kt:=9
 et:=149
 encK:=.string
 encV v:=v
 dK s:=.str s
 dV v:=.raw v
 z:=.pointer none
 ht:=Tryz.underlying146
 hk:=KeyOk.of_string Tryz.underlying9 (λem k w=>by kernel_rfl)
 hz:=by intro w;kernel_rfl
 repK:=by rintro O w k v h;exact PE h
 repV:=by
  rintro O w r v ⟨cs,h,rfl⟩
  simp only[RepC]at h
  subst h;rfl
 ofV:=by
  rintro O w r
  exact⟨[r],by simp only[RepC],rfl⟩
theorem AAg(y:Pt×List (List Int))(w:World)(u:Value)(F:List Nat)(z:Value)(h:(JX y).R w u F z):∃b,u=.pointer (some ⟨b,0,none⟩):=by
 obtain⟨b,_,_,_,_,_,h,_⟩:=h
 exact⟨b,h.ptr⟩
theorem sO {p:Pt}(hp:Dp p=none):Cc (Cc p)=Cc p:=by
 have hpo:=Si hp
 obtain⟨_,hB,eF,_⟩:=Hb hpo
 have:=sN hpo hB
 rwa [<-eF]at this
theorem rL {n:Nat} {b L:List Int}(hb:C2 n b)(hL:L.length=n)(h:L.Nodup):(JS b L).Nodup:=aF λi j x hi hj=>by
 obtain⟨a,ha,rfl,h1⟩:=aI hb hL hi
 obtain⟨c,hc,rfl,h2⟩:=aI hb hL hj
 obtain⟨g1,e1⟩:=Ae.1 h1
 obtain⟨g2,e2⟩:=Ae.1 h2
 rw[(List.getElem_inj h).1 (e1.trans e2.symm)]
def MU(m:List (ByteArray×Value))(ys:List (Pt×List (List Int))):Prop:=m.map (·.1)=(ys.map λy=>bs (DW y.1))/\∀y∈ys,Dp y.1=none
theorem MU.len {m:List (ByteArray×Value)} {ys:List (Pt×List (List Int))}(h:MU m ys):m.length=ys.length:=by
 have:=congrArg List.length h.1
 rwa [Ac,Ac]at this
theorem MU.idx {m:List (ByteArray×Value)} {ys:List (Pt×List (List Int))}(h:MU m ys) {F:Pt}(hF:Dp F=none) {i:Nat}(hi:(m.map (·.1)).findIdx? (λx=>@BEq.beq ByteArray instBEqOfDecidableEq x (bs (DW F)))=some i):∃W,ys[i]? =some (F,W):=by
 rw[h.1,Ba]at hi
 obtain⟨hl,he,_⟩:=hi
 rw[Ac]at hl
 have hy:=Ab hl
 simp only[List.getElem_map,beq_iff_eq]at he
 have e:=Ut (Na (h.2 _ (Bc hl))).2 (Na hF).2 (lH (by simpa using he))
 exact⟨ys[i].2,by rw[hy,<-e]⟩
theorem MU.none {m:List (ByteArray×Value)} {ys:List (Pt×List (List Int))}(h:MU m ys) {F:Pt}(hF:Dp F=none)(hn:F∉ys.map (·.1)):(m.map (·.1)).findIdx? (λx=>@BEq.beq ByteArray instBEqOfDecidableEq x (bs (DW F)))=none:=by
 cases hf:(m.map (·.1)).findIdx? (λx=>@BEq.beq ByteArray instBEqOfDecidableEq x (bs (DW F)))with
 |none=>rfl
 |
  some i=>
  obtain⟨W,hW⟩:=h.idx hF hf
  exact absurd (An.2 ⟨_,A8 hW,rfl⟩) hn
theorem MU.some {m:List (ByteArray×Value)} {ys:List (Pt×List (List Int))}(h:MU m ys)(hn:(ys.map (·.1)).Nodup) {F:Pt}(hF:Dp F=Option.none) {W:List (List Int)} {k:Nat}(hk:ys[k]? =Option.some (F,W)):∃u,m[k]? =Option.some (bs (DW F),u)/\Reg.get m (bs (DW F))=Option.some u:=by
 cases hf:(m.map (·.1)).findIdx? (λx=>@BEq.beq ByteArray instBEqOfDecidableEq x (bs (DW F)))with
 |
  none=>
  rw[h.1,Be]at hf
  have:=hf _ (An.2 ⟨_,A8 hk,rfl⟩)
  simp at this
 |
  some i=>
  obtain⟨W',hW⟩:=h.idx hF hf
  obtain⟨⟨q,u⟩,hq,hqk,hg⟩:=Ft m _ i hf
  have e:i=k:=by
   have h1:(ys.map (·.1))[i]? =Option.some F:=by rw[Ad,hW];rfl
   have h2:(ys.map (·.1))[k]? =Option.some F:=by rw[Ad,hk];rfl
   obtain⟨a1,a2⟩:=Ae.1 h1
   obtain⟨b1,b2⟩:=Ae.1 h2
   exact(List.getElem_inj hn).1 (a2.trans b2.symm)
  subst e
  simp only at hqk hg
  subst hqk
  exact⟨u,hq,hg⟩
theorem oF {m:List (ByteArray×Value)} {b c:List (Bg (Pt×List (List Int)))}(h:b=c):Option.some (DS N8 JX .off m b)=Option.some (DS N8 JX .off m c):=by rw[h]
section
variable {G:Gr} {e:Bool} {d:Int} {l:List Opp}
def wX:List (Nat×Plan):=[]
def ADg:List FuncId:=[]
theorem ACp:CH Tryz.prog ADg wX (Tryz.f74.body.getD .skip)=true:=by kernel_rfl
theorem ABn(vs:Array Value)(w:World):(callFunc 74 vs).run C1.P w=.ok (.enter 74 vs) w:=by kernel_rfl
set_option maxHeartbeats 16000000 in
theorem ZH(L:List (List (List Int)))(q:List Int->Pt)(V:List Int->List Int)(hLl:L.length<=1000)(hL:L.flatten.length<=10000)(hq:∀R∈L,∀X∈R,PatAt G e d l q V X):
  DZ C3 74 [.d (dJ G e d l),.d (OS L)] [] [] (λdd σ=>∃z:List (ByteArray×Value)×List (Pt×List (List Int)),dd=.tuple [.own 900,.d .nili]/\σ=[(900,DS N8 JX .off z.1 (z.2.map .here))]/\GrpOk (λX=>Cc (q X)) (λX=>JS (LM (q X)) (V X)) L.flatten z.2/\MU z.1 z.2):=by
 have hdL:(L.map QG).length=L.length:=Ac _
 have hfl:∀n,((L.take n).flatten).length<=L.flatten.length:=λn=>by
  conv=>rhs;rw[<-Cf n L,Df,Ah]
  omega
 refine Mj I7 (pl:=wX) (G:=ADg) Tryz.func74 rfl Tryz.ntmps74 ABn ACp (by simp) 999 rfl ?_
 intro vs
 (conv=>whnf)
 (repeat' ((first|refine Aj ?_ ?_|refine iT N8 JX 900 rfl rfl (by decide) rfl ?_|refine nx ?_|refine AD (λ_=>?_) (λ_=>?_)|exact AG)<;>conv=>whnf))
 refine AR (ι:=Nat×List (ByteArray×Value)×List (Pt×List (List Int))) (λx=>x.1<=L.length/\GrpOk (λX=>Cc (q X)) (λX=>JS (LM (q X)) (V X)) (L.take x.1).flatten x.2.2/\MU x.2.1 x.2.2) (λx=>[(21,.d (.int .i64 x.1)),(20,.d (.int .i64 (L.map QG).length)),(19,.d (OS L)),(6,.own 900),(2,.own 2)])
  (λx=>[(2,.cells 43 [.d (dG G),.d (.bool e),.d (.int .i64 d),.d (Ka l)]),(900,DS N8 JX .off x.2.1 (x.2.2.map .here)),(999,.ghost vs [])]) (λx=>L.length-x.1) (0,[],[]) (λ_=>rfl) ⟨Am _,ABW,rfl,λy hy=>(by cases hy)⟩ (.refl _ _) ⟨rfl,rfl,rfl,rfl,rfl,trivial⟩ ⟨rfl,rfl,rfl,trivial⟩ ?_
 rintro⟨n,m,ys⟩ ⟨hn,hG,hM⟩
 simp only at hn hG hM
 refine Hf [] [] ?_
 by_cases hnl:n<L.length
 ·have hx:L[n]? =some L[n]:=Ab hnl
  have hxm:=A8 hx
  have htk:(L.take (n+1)).flatten=(L.take n).flatten++L[n]:=by rw[Ay,hx,AU,Df];simp
  have hln:=hfl (n+1)
  generalize L[n]=R at hx hxm htk
  have hxd:(L.map QG)[n]? =some (.list 1 (R.map Bn)):=by rw[Ad,hx];rfl
  have hdR:(R.map Bn).length=R.length:=Ac _
  have hrl:=congrArg List.length htk
  rw[Ah]at hrl
  (conv=>whnf)
  (repeat' ((first|refine Aj ?_ ?_|refine AP hxd rfl ?_|refine nx ?_|refine AD (λ_=>?_) (λ_=>?_)|exact AG)<;>conv=>whnf))
  refine aV (ι:=Nat×List (ByteArray×Value)×List (Pt×List (List Int))) (λx=>x.1<=R.length/\GrpOk (λX=>Cc (q X)) (λX=>JS (LM (q X)) (V X)) ((L.take n).flatten++R.take x.1) x.2.2/\MU x.2.1 x.2.2) (λx=>[(27,.d (.int .i64 x.1)),(26,.d (.int .i64 (R.map Bn).length)),(25,.d (.list 1 (R.map Bn))),(21,.d (.int .i64 n)),(20,.d (.int .i64 (L.map QG).length)),(19,.d (OS L)),(6,.own 900),(2,.own 2)])
   (λx=>[(2,.cells 43 [.d (dG G),.d (.bool e),.d (.int .i64 d),.d (Ka l)]),(900,DS N8 JX .off x.2.1 (x.2.2.map .here)),(999,.ghost vs [])]) (λx=>R.length-x.1) (0,m,ys) (λ_=>rfl) ⟨Am _,by simpa using hG,hM⟩ .refl ⟨rfl,rfl,rfl,rfl,rfl,rfl,rfl,rfl,trivial⟩ ⟨rfl,rfl,rfl,trivial⟩ ?_
  rintro⟨i,m,ys⟩ ⟨hi,hG,hM⟩
  simp only at hi hG hM
  refine Hf [] [] ?_
  by_cases hil:i<R.length
  ·have hy:R[i]? =some R[i]:=Ab hil
   have hym:=A8 hy
   have hsn:(L.take n).flatten++R.take (i+1)=((L.take n).flatten++R.take i)++[R[i]]:=by rw[Ay,hy,AU,<-Bj]
   have hzl:((L.take n).flatten++R.take i).length<=10000:=by rw[Ah,AA];omega
   generalize R[i]=X at hy hym hsn
   have hyd:(R.map Bn)[i]? =some (Bn X):=by rw[Ad,hy];rfl
   have hp:=hq R hxm X hym
   have hpt:=Pure.up3 hp.pat
   have hfo:=Pure.up3 (gY hp.err (V X) hp.len)
   have hF:=KN hp.err
   have hFF:=sO hp.err
   have hFl:=(UX hp.err).1
   obtain⟨_,hB,_⟩:=Hb (Si hp.err)
   have hWl:(JS (LM (q X)) (V X)).length=(Cc (q X)).labels.length:=by rw[nB,hFl];exact hp.len
   have hWn:=rL hB hp.len hp.nodup
   have hF0:(Cc (q X)).labels≠[]:=λe=>hp.ne (AJ (by rw[<-hFl,e];rfl))
   obtain⟨⟨_,x1,x2,x3,x4⟩,_⟩:=Na hF
   have htx:=Lh _ x1 x2 x3 x4
   have hnw:=ACi hF hFF hF0
   generalize ((L.take n).flatten++R.take i)=Z at hG hsn hzl
   obtain⟨F,hFe⟩:∃F,Cc (q X)=F:=⟨_,rfl⟩
   obtain⟨W,hWe⟩:∃W,JS (LM (q X)) (V X)=W:=⟨_,rfl⟩
   rw[hFe]at hF hFF hWl hF0 htx hnw
   rw[hFe,hWe]at hfo
   rw[hWe]at hWl hWn
   by_cases hk:F∈ys.map (·.1)
   ·obtain⟨⟨F',W0⟩,hm0,hf0⟩:=An.1 hk
    simp only at hf0
    subst hf0
    obtain⟨k,hyk⟩:=EY.1 hm0
    obtain⟨u,hmk,hgu⟩:=hM.some hG.nodup hF hyk
    have hb:(ys.map Bg.here)[k]? =some (Bg.here (F',W0)):=by rw[Ad,hyk];rfl
    have hbl:k<(ys.map Bg.here).length:=(Ae.1 hb).1
    have hW0:W0.length<=10000:=by
     have:=hG.img _ hm0
     simp only at this
     rw[this]
     unfold I6
     rw[Ac]
     exact BH (CM _ _) hzl
    have htake:=Xl hF W0 hW0 hWl hWn
    have hgn:=hG.old (X:=X) (k:=k) (W:=W0) (by simp only[hFe];exact hyk)
    simp only[hFe,hWe]at hgn
    rw[<-hsn]at hgn
    (conv=>whnf)
    (repeat' ((first|refine Aj ?_ ?_|refine AP hyd rfl ?_|refine Af rfl hpt ?_|refine Af rfl hfo ?_|refine Af rfl htx ?_|refine nx ?_|refine AD (λ_=>?_) (λ_=>?_)|exact AG)<;>conv=>whnf))
    refine rB (M:=N8) (A:=JX) (bs:=ys.map .here) 900 k (bs (DW F')) rfl (λ_=>rfl) rfl rfl rfl hmk hgu hb (λw F z h=>AAg (F',W0) w u F z h) ⟨by decide,by decide⟩ rfl ?_
    rintro b rfl
    (conv=>whnf)
    refine qZ I7 rfl rfl rfl rfl rfl rfl ?_
    ((conv=>whnf);repeat' ((first|refine odw ?_|refine nx ?_|refine AD (λ_=>?_) (λ_=>?_))<;>conv=>whnf))
    refine Uw (M:=N8) (A:=JX) (bs:=ys.map .here) (λ_=>rfl) 900 920 921 k (bs (DW F')) rfl rfl rfl rfl hmk hgu hb rfl rfl (by decide) rfl rfl ?_
    ((conv=>whnf);repeat' ((first|refine odw ?_|refine nx ?_|refine AD (λ_=>?_) (λ_=>?_))<;>conv=>whnf))
    refine Iu [(920,900)] [920] htake rfl rfl rfl rfl rfl rfl rfl ?_
    ((conv=>whnf);repeat' ((first|refine odw ?_|refine nx ?_|refine AD (λ_=>?_) (λ_=>?_))<;>conv=>whnf))
    refine⟨(i+1,m,ys.set k (F',W0++[W])),_,_,⟨hil,hgn,?_⟩,QD.badBack (A:=JX) (bs:=(ys.map .here).set k .pin) (y:=(F',W0++[W])) 900 920 921 k (by decide) rfl (by rw[I3 hbl]) hmk rfl rfl,⟨rfl,rfl,rfl,rfl,rfl,rfl,rfl,rfl,trivial⟩,⟨rfl,oF (by rw[List.set_set,Dz]),rfl,trivial⟩,by simp only;omega⟩
    refine⟨?_,λy hy=>?_⟩
    ·rw[hM.1]
     refine Cb λj=>?_
     rw[Ad,Ad,Bf]
     by_cases e:k=j
     ·subst e
      rw[if_pos rfl,if_pos (by simpa using hbl),hyk];rfl
     ·rw[if_neg e]
    ·rcases KP hy with h|h
     ·exact hM.2 y h
     ·rw[h];exact hF
   ·have hnone:=hM.none hF hk
    have hgN:Reg.get m (bs (DW F))=none:=(IH m _ hnone).1
    have hput:∀u,Reg.put m (bs (DW F)) u=m++[(bs (DW F),u)]:=λu=>by unfold Reg.put;rw[hnone]
    have htake:=Xl hF [] (Am _) hWl hWn
    have hgn:=hG.new (X:=X) (by simp only[hFe];exact hk)
    simp only[hFe,hWe]at hgn
    rw[<-hsn]at hgn
    have hml:=hM.len
    (conv=>whnf)
    (repeat' ((first|refine Aj ?_ ?_|refine AP hyd rfl ?_|refine Af rfl hpt ?_|refine Af rfl hfo ?_|refine Af rfl htx ?_|refine nx ?_|refine AD (λ_=>?_) (λ_=>?_)|exact AG)<;>conv=>whnf))
    refine iR (M:=N8) (A:=JX) (bs:=ys.map .here) 900 (bs (DW F)) rfl rfl rfl rfl rfl hgN ⟨by decide,by decide⟩ rfl ?_
    ((conv=>whnf);repeat' ((first|refine odw ?_|refine nx ?_|refine AD (λ_=>?_) (λ_=>?_))<;>conv=>whnf))
    refine Iu [(920,900)] [] hnw rfl rfl rfl rfl rfl rfl rfl ?_
    ((conv=>whnf);repeat' ((first|refine odw ?_|refine nx ?_|refine AD (λ_=>?_) (λ_=>?_))<;>conv=>whnf))
    refine rC (M:=N8) (A:=JX) (bs:=ys.map .here) 900 920 (bs (DW F)) (y:=(F,[])) rfl (λ_=>rfl) rfl rfl rfl rfl hput rfl (by decide) rfl rfl ?_
    intro u
    have hmk:(m++[(bs (DW F),u)])[ys.length]? =some (bs (DW F),u):=by rw[Bv (by omega),hml,Dy];rfl
    have hb:(ys.map Bg.here++[Bg.here (F,[])])[ys.length]? =some (Bg.here (F,([]:List (List Int)))):=by rw[Bv (by simp),Ac,Dy];rfl
    have hbl:=(Ae.1 hb).1
    ((conv=>whnf);repeat' ((first|refine odw ?_|refine nx ?_|refine AD (λ_=>?_) (λ_=>?_))<;>conv=>whnf))
    refine Uw (M:=N8) (A:=JX) (bs:=ys.map .here++[.here (F,[])]) (λ_=>rfl) 900 920 921 ys.length (bs (DW F)) rfl rfl rfl rfl hmk (SI hgN) hb rfl rfl (by decide) rfl rfl ?_
    ((conv=>whnf);repeat' ((first|refine odw ?_|refine nx ?_|refine AD (λ_=>?_) (λ_=>?_))<;>conv=>whnf))
    refine Iu [(920,900)] [920] htake rfl rfl rfl rfl rfl rfl rfl ?_
    ((conv=>whnf);repeat' ((first|refine odw ?_|refine nx ?_|refine AD (λ_=>?_) (λ_=>?_))<;>conv=>whnf))
    refine⟨(i+1,m++[(bs (DW F),u)],ys++[(F,[W])]),_,_,⟨hil,hgn,?_⟩,QD.badBack (A:=JX) (bs:=(ys.map Bg.here++[Bg.here (F,[])]).set ys.length .pin) (y:=(F,[]++[W])) 900 920 921 ys.length (by decide) rfl (by rw[I3 hbl]) hmk rfl rfl,⟨rfl,rfl,rfl,rfl,rfl,rfl,rfl,rfl,trivial⟩,⟨rfl,oF (by rw[List.set_set,Jy _ _ (by simp),Ac,Dy,A7];rfl),rfl,trivial⟩,by simp only;omega⟩
    refine⟨by rw[A7,A7,hM.1];rfl,λy hy=>?_⟩
    rcases Ag.1 hy with h|h
    ·exact hM.2 y h
    ·rw[As.1 h];exact hF
  ·rw[Al (show R.length<=i by omega),<-htk]at hG
   ((conv=>whnf);repeat' ((first|refine odw ?_|refine nx ?_|refine AD (λ_=>?_) (λ_=>?_))<;>conv=>whnf))
   exact⟨(n+1,m,ys),_,_,⟨hnl,hG,hM⟩,.refl _ _,⟨rfl,rfl,rfl,rfl,rfl,trivial⟩,⟨rfl,rfl,rfl,trivial⟩,by simp only;omega⟩
 ·rw[Al (show L.length<=n by omega)]at hG
  ((conv=>whnf);repeat' ((first|refine odw ?_|refine nx ?_|refine AD (λ_=>?_) (λ_=>?_))<;>conv=>whnf))
  exact⟨_,_,[],[(900,DS N8 JX .off m (ys.map .here))],.lo (.refl _ _),rfl,⟨rfl,trivial⟩,rfl,(m,ys),rfl,rfl,hG,hM⟩
end
end Go.Proofs.YtjpmmkodoeipmaaGreatDoor
end
section
namespace Go.Proofs.YtjpmmkodoeipmaaGreatDoor
open Go.Sx Go.RowKit Go.Reg Go.Gr
set_option maxRecDepth 100000
section
variable {G:Gr} {e:Bool} {d:Int} {l:List Opp}
set_option maxHeartbeats 16000000 in
theorem gU(L:List (List (List Int)))(s:Int)(q:List Int->Pt)(V:List Int->List Int)(hLl:L.length<=1000)(hL:L.flatten.length<=10000)(hq:∀R∈L,∀X∈R,PatAt G e d l q V X):
  Pure C3 29 [dJ G e d l,OS L,.int .i64 s] (λy=>y=.tuple [.list 3 ((R6 (λX=>Cc (q X)) (λX=>JS (LM (q X)) (V X)) L.flatten s).map D0),.nili]):=by
 have hdm:=ZH (G:=G) (e:=e) (d:=d) (l:=l) L q V hLl hL hq
 refine Oe Tryz.func29 Tryz.ntmps29 [] [] ?_
 (conv=>whnf)
 ((conv=>whnf);repeat' ((first|refine odw ?_|refine nx ?_|refine AD (λ_=>?_) (λ_=>?_))<;>conv=>whnf))
 refine IT [] [] hdm (λd σ h=>h) rfl rfl rfl rfl rfl rfl (λ_=>rfl) ?_
 rintro⟨m,ys⟩ ⟨hG,hM⟩
 simp only at hG hM
 have hml:=hM.len
 have hfrm:∀y∈ys,Dp y.1=none/\y.1.labels≠[]/\y.2.length<=10000:=λy hy=>by
  refine⟨hM.2 y hy,?_,?_⟩
  ·obtain⟨X,hX,e⟩:=(hG.mem y.1).1 (Co hy)
   obtain⟨R,hR,hXR⟩:=RT.1 hX
   have hp:=hq R hR X hXR
   rw[<-e]
   exactλe2=>hp.ne (AJ (by rw[<-(UX hp.err).1,e2];rfl))
  ·rw[hG.img y hy]
   unfold I6
   rw[Ac]
   exact BH (CM _ _) hL
 have hz1:(List.zip m ys).map (·.1)=m:=List.map_fst_zip (by omega)
 have hz2:(List.zip m ys).map (·.2)=ys:=List.map_snd_zip (by omega)
 have hrw:((List.zip m ys).map λz=>QZ z.2)=ys.map QZ:=by
  conv=>rhs;rw[<-hz2,EE]
  rfl
 obtain⟨Z,hZ⟩:∃Z,List.zip m ys=Z:=⟨_,rfl⟩
 rw[hZ]at hz1 hz2 hrw
 have hfin:((Z.map λz=>QZ z.2).filter λx=>decide (s<=x.2)).Perm (R6 (λX=>Cc (q X)) (λX=>JS (LM (q X)) (V X)) L.flatten s):=by
  rw[hrw]
  exact hG.rows.filter _
 have h0:TodoOk s Z (ys.map .here) Z []:=⟨.refl _,λz hz=>by
  obtain⟨k,hk⟩:=EY.1 hz
  refine⟨k,hk,?_⟩
  rw[Ad,<-hz2,Ad,hk];rfl,by
  have e:Z.map (·.2.1)=ys.map (·.1):=by
   conv=>rhs;rw[<-hz2,EE]
   rfl
  rw[e];exact hG.nodup⟩
 have hys:ys.length<=10000:=by
  have h1:=hG.nodup
  have:=Ff h1 (m:=L.flatten.map λX=>Cc (q X)) λF hF=>by
   obtain⟨X,hX,e⟩:=(hG.mem F).1 hF
   exact An.2 ⟨X,hX,e⟩
  rw[Ac,Ac]at this
  omega
 have hZl:Z.length<=10000:=by
  have:=congrArg List.length hz2
  rw[Ac]at this
  omega
 (conv=>whnf)
 ((conv=>whnf);repeat' ((first|refine odw ?_|refine nx ?_|refine AD (λ_=>?_) (λ_=>?_))<;>conv=>whnf))
 refine ZZ (M:=N8) (A:=JX) (bs:=ys.map .here) 900 rfl rfl rfl ⟨by decide,by decide,by decide⟩ rfl ?_
 intro r
 (conv=>whnf)
 refine AR (ι:=List ((ByteArray×Value)×(Pt×List (List Int)))×List (ByteArray×Value)×List (Bg (Pt×List (List Int)))×List (Pt×Int)) (λx=>x.2.1.Perm (x.1.map (·.1))/\TodoOk s Z x.2.2.1 x.1 x.2.2.2) (λ_=>[(24,.d (.raw (.pointer (some ⟨r,0,none⟩)))),(10,.own 300),(2,.d (.int .i64 s))])
  (λx=>[(900,DS N8 JX (.it r x.2.1) m x.2.2.1),(300,.slice 56 3 (x.2.2.2.map D0))]) (λx=>x.2.1.length) (Z,m,ys.map .here,[]) (λ_=>rfl) ⟨by rw[hz1],h0⟩ (.own 10 300 56 3 rfl rfl (.refl _ _)) ⟨rfl,rfl,rfl,trivial⟩ ⟨rfl,rfl,trivial⟩ ?_
 rintro⟨zt,todo,bs,done⟩ ⟨hpe,hT⟩
 simp only at hpe hT
 have hdl:done.length<=10000:=by
  have:=hT.perm.length_eq
  rw[Ah]at this
  have h2:=CM (λx:Pt×Int=>decide (s<=x.2)) (Z.map λz=>QZ z.2)
  rw[Ac]at h2
  omega
 have hdm2:(done.map D0).length=done.length:=Ac _
 refine Hf [] [] ?_
 (conv=>whnf)
 refine iS (M:=N8) (A:=JX) (bs:=bs) 900 r rfl rfl rfl rfl ⟨by decide,by decide,by decide⟩ rfl ?_ ?_
 ·rintro rfl
  have hzt:zt=[]:=List.map_eq_nil_iff.1 (List.Perm.nil_eq hpe).symm
  subst hzt
  have hpd:=hT.perm
  rw[Bu,List.filter_nil,Cg]at hpd
  ((conv=>whnf);repeat' ((first|refine odw ?_|refine nx ?_|refine AD (λ_=>?_) (λ_=>?_))<;>conv=>whnf))
  refine MR (i:=300) rfl rfl (pM done (by omega)) ?_
  rintro y ds ⟨out,rfl,ho1,ho2⟩
  have e:=Wg Hl (ho1.trans (hpd.trans hfin)) (WZ _ _ _ _) ho2
  subst e
  ((conv=>whnf);repeat' ((first|refine odw ?_|refine nx ?_|refine AD (λ_=>?_) (λ_=>?_))<;>conv=>whnf))
  exact rfl
 ·intro p todo' hp
  obtain⟨z,zt',hz,hzt,htd⟩:=qR hpe hp
  obtain⟨k,hk1,hk2,hnx⟩:=hT.next hzt
  have hmk:m[k]? =some p:=by rw[<-hz1,Ad,hk1,<-hz];rfl
  have hzy:z.2∈ys:=by rw[<-hz2];exact Co (A8 hk1)
  obtain⟨hF,hF0,hW⟩:=hfrm _ hzy
  obtain⟨z1,F,W⟩:=z
  simp only at hF hF0 hW hk2 hnx
  have hp8:=(CS (BJ hF).1).1
  have hpos:=FZ.2 hF0
  have hO:=xR (Si hF) hp8
  have hcl:∀t∈E9 F.labels.length (JR F W),t.length<=1000000000:=λt ht=>by
   obtain⟨i,_,rfl⟩:=rQ.1 ht
   have h1:=dP (JR F W) i
   rw[ZV]at h1
   have h2:=DO hW hO
   omega
  have hsup:=Pure.up3 (VN F (Es F F) (E9 F.labels.length (JR F W)) (AAl hpos _) (by rw[Nw];omega) hcl)
  have hpat:=Pure.up3 (sY F (Es F F) (E9 F.labels.length (JR F W)) (by omega) (by have:=Kr hF;omega))
  have hle:todo'.length<todo.length:=by have:=hp.length_eq;simp only[Aw]at this;omega
  (conv=>whnf)
  refine aA (M:=N8) (A:=JX) (bs:=bs) 900 920 921 k r rfl (λ_=>rfl) rfl rfl hmk hk2 rfl rfl (by decide) rfl rfl ?_
  ((conv=>whnf);repeat' ((first|refine odw ?_|refine nx ?_|refine AD (λ_=>?_) (λ_=>?_))<;>conv=>whnf))
  refine YC 920 922 (Gt _ _) (Gt _ _) (Gt _ _) (ocS _) rfl rfl ?_
  by_cases hs:s<=(TC F W:Int)
  ·rw[if_pos hs]at hnx
   have hsw:(s<=((OJ (E9 F.labels.length (JR F W)):Nat):Int)):=hs
   have hfin2:done.map D0++[D0 (QZ (F,W))]=(done++[QZ (F,W)]).map D0:=by rw[A7];rfl
   (conv=>whnf)
   (repeat' ((first|refine Aj ?_ ?_|refine Dx 922 rfl ?_|refine RJ 920 rfl rfl ?_|refine Af (xs:=[dD F (Es F F) (E9 F.labels.length (JR F W))]) rfl hsup ?_|refine Af (xs:=[dD F (Es F F) (E9 F.labels.length (JR F W))]) rfl hpat ?_|refine nx ?_|refine AD (λ_=>?_) (λ_=>?_)|exact AG)<;>conv=>whnf))
   exact⟨(zt',todo',bs.set k .pin,done++[QZ (F,W)]),_,_,⟨htd,hnx⟩,.refl _ _,⟨rfl,rfl,rfl,trivial⟩,⟨rfl,Bk hfin2,trivial⟩,hle⟩
  ·rw[if_neg hs]at hnx
   have hsw:¬(s<=((OJ (E9 F.labels.length (JR F W)):Nat):Int)):=hs
   (conv=>whnf)
   (repeat' ((first|refine Aj ?_ ?_|refine Dx 922 rfl ?_|refine RJ 920 rfl rfl ?_|refine Af (xs:=[dD F (Es F F) (E9 F.labels.length (JR F W))]) rfl hsup ?_|refine nx ?_|refine AD (λ_=>?_) (λ_=>?_)|exact AG)<;>conv=>whnf))
   exact⟨(zt',todo',bs.set k .pin,done),_,_,⟨htd,hnx⟩,.refl _ _,⟨rfl,rfl,rfl,trivial⟩,⟨rfl,rfl,trivial⟩,hle⟩
end
end Go.Proofs.YtjpmmkodoeipmaaGreatDoor
end
section
namespace Go.Proofs.YtjpmmkodoeipmaaGreatDoor
open Go.Sx Go.RowKit Go.Reg Go.Gr
set_option maxRecDepth 100000
theorem eZ:Pure C1 24 [.list 1 [.nili,.nili]] (λy=>y=.nili):=by
 refine AW Tryz.func24 Tryz.ntmps24 [] [] ?_
 (conv=>whnf)
 ((conv=>whnf);repeat' ((first|refine odw ?_|refine nx ?_|refine AD (λ_=>?_) (λ_=>?_))<;>conv=>whnf))
 refine AR (ι:=Nat) (λi=>i<=2) (λi=>[(7,.d (.int .i64 i)),(6,.d (.int .i64 2)),(5,.d (.list 1 [.nili,.nili]))]) (λ_=>[]) (λi=>2-i) 0 (λ_=>rfl) (Am _) (.refl _ _) ⟨rfl,rfl,rfl,trivial⟩ trivial ?_
 intro i hi
 refine Cd [] [] ?_
 by_cases hlt:i<2
 ·have hxd:([.nili,.nili]:List Da)[i]? =some .nili:=by
   match i,hlt with
   |0,_=>rfl
   |1,_=>rfl
  (conv=>whnf)
  (repeat' ((first|refine Aj ?_ ?_|refine oH hxd rfl ?_|refine nx ?_|refine AD (λ_=>?_) (λ_=>?_)|exact AG)<;>conv=>whnf))
  exact⟨i+1,_,_,hlt,.refl _ _,⟨rfl,rfl,rfl,trivial⟩,trivial,by omega⟩
 ·((conv=>whnf);repeat' ((first|refine odw ?_|refine nx ?_|refine AD (λ_=>?_) (λ_=>?_))<;>conv=>whnf))
  exact rfl
def s2(m:List (ByteArray×RowV))(X:List (Value×Da)):Sg:=[(920,.cells 185 [.own 921]),(921,(G5 N5 m X).own)]
end Go.Proofs.YtjpmmkodoeipmaaGreatDoor
end
section
namespace Go.Proofs
open Go.Shelf
def Tryz.fmtL_ren:Go.Shelf.Ren:=⟨λ|173=>41|246=>82|283=>132|284=>133|285=>134|286=>135|129=>181|317=>197|318=>198|319=>199|320=>200|337=>257|338=>258|n=>n,λ|2=>2|3=>3|9=>9|4=>4|171=>214|0=>0|53=>215|37=>97|5=>5|173=>218|212=>261|51=>250|20=>20|213=>262|46=>202|232=>323|233=>324|n=>n,λ|17=>0|18=>2|19=>3|n=>n⟩
theorem Tryz.fmtL:Go.Proofs.LaysM.n173 Tryz.prog Tryz.fmtL_ren:={
 mixed:=by kernel_rfl
 f129:=Tryz.func181.trans (congrArg some (by kernel_rfl))
 f173:=Tryz.func41.trans (congrArg some (by kernel_rfl))
 f246:=Tryz.func82.trans (congrArg some (by kernel_rfl))
 f283:=Tryz.func132.trans (congrArg some (by kernel_rfl))
 f284:=Tryz.func133.trans (congrArg some (by kernel_rfl))
 f285:=Tryz.func134.trans (congrArg some (by kernel_rfl))
 f286:=Tryz.func135.trans (congrArg some (by kernel_rfl))
 f317:=Tryz.func197.trans (congrArg some (by kernel_rfl))
 f318:=Tryz.func198.trans (congrArg some (by kernel_rfl))
 f319:=Tryz.func199.trans (congrArg some (by kernel_rfl))
 f320:=Tryz.func200.trans (congrArg some (by kernel_rfl))
 f337:=Tryz.func257.trans (congrArg some (by kernel_rfl))
 f338:=Tryz.func258.trans (congrArg some (by kernel_rfl))
 t0:=Tryz.underlying0
 a0:=Tryz.isAgg0
 z0:=Tryz.sizeOf0
 v0:=Tryz.zeroValue0
 t2:=Tryz.underlying2
 a2:=Tryz.isAgg2
 z2:=Tryz.sizeOf2
 v2:=Tryz.zeroValue2
 t3:=Tryz.underlying3
 a3:=Tryz.isAgg3
 z3:=Tryz.sizeOf3
 v3:=Tryz.zeroValue3
 t4:=Tryz.underlying4
 a4:=Tryz.isAgg4
 z4:=Tryz.sizeOf4
 v4:=Tryz.zeroValue4
 t5:=Tryz.underlying5
 a5:=Tryz.isAgg5
 z5:=Tryz.sizeOf5
 v5:=Tryz.zeroValue5
 t9:=Tryz.underlying9
 a9:=Tryz.isAgg9
 z9:=Tryz.sizeOf9
 v9:=Tryz.zeroValue9
 t20:=Tryz.underlying20
 a20:=Tryz.isAgg20
 z20:=Tryz.sizeOf20
 v20:=Tryz.zeroValue20
 t37:=Tryz.underlying97
 a37:=Tryz.isAgg97
 z37:=Tryz.sizeOf97
 v37:=Tryz.zeroValue97
 t46:=Tryz.underlying202
 a46:=Tryz.isAgg202
 z46:=Tryz.sizeOf202
 v46:=Tryz.zeroValue202
 t51:=Tryz.underlying250
 a51:=Tryz.isAgg250
 z51:=Tryz.sizeOf250
 v51:=Tryz.zeroValue250
 t53:=Tryz.underlying215
 a53:=Tryz.isAgg215
 z53:=Tryz.sizeOf215
 v53:=Tryz.zeroValue215
 t171:=Tryz.underlying214
 a171:=Tryz.isAgg214
 z171:=Tryz.sizeOf214
 v171:=Tryz.zeroValue214
 t173:=Tryz.underlying218
 a173:=Tryz.isAgg218
 z173:=Tryz.sizeOf218
 v173:=Tryz.zeroValue218
 t212:=Tryz.underlying261
 a212:=Tryz.isAgg261
 z212:=Tryz.sizeOf261
 v212:=Tryz.zeroValue261
 t213:=Tryz.underlying262
 a213:=Tryz.isAgg262
 z213:=Tryz.sizeOf262
 t232:=Tryz.underlying323
 a232:=Tryz.isAgg323
 z232:=Tryz.sizeOf323
 v232:=Tryz.zeroValue323
 t233:=Tryz.underlying324
 a233:=Tryz.isAgg324
 z233:=Tryz.sizeOf324
 v233:=Tryz.zeroValue324
 g17:=by kernel_rfl
 g18:=by kernel_rfl
 g19:=by kernel_rfl
 i0:=by kernel_rfl
 i2:=by kernel_rfl
 i3:=by kernel_rfl
 i4:=by kernel_rfl
 i5:=by kernel_rfl
 i9:=by kernel_rfl
 i20:=by kernel_rfl
 i37:=by kernel_rfl
 i46:=by kernel_rfl
 i51:=by kernel_rfl
 i53:=by kernel_rfl
 i171:=by kernel_rfl
 i173:=by kernel_rfl
 i212:=by kernel_rfl
 i232:=by kernel_rfl
 i233:=by kernel_rfl
 m17:=by kernel_rfl
 m18:=by kernel_rfl
 m19:=by kernel_rfl}
end Go.Proofs
end
