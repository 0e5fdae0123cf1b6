/- Merged: Dma Rpl Lgo Cnf Wrp Rcf Tbr Tbs Seb Sec Sed See Frm Pid Afo Rmo Lrc. -/
import Derived.Test.YtjpmmkodoeipmaaGreatDoorrkax
import Derived.Shelf.Spec.SlicesGrow
import Derived.Test.YtjpmmkodoeipmaaGreatDoorRows
import Derived.Test.YtjpmmkodoeipmaaGreatDoorrkaw
import Derived.Test.YtjpmmkodoeipmaaGreatDoorrkar
import Derived.Test.YtjpmmkodoeipmaaGreatDoorrkat
import Derived.Test.YtjpmmkodoeipmaaGreatDoorrkaq
import Derived.Test.YtjpmmkodoeipmaaGreatDoorrkas
import Derived.WalkKit
import Derived.OwnWalkIn
import Derived.TacticsInMore
import Derived.LoopNIn
import Derived.LoopIn
import Derived.Laws.Bits64b
import Derived.Test.YtjpmmkodoeipmaaGreatDoorrkav
import Derived.Test.YtjpmmkodoeipmaaGreatDoorrkau
import Derived.RangeFuncBox
import Derived.RangeFuncLeaves
import Derived.RangeFuncCalls
import Derived.Shelf.SlSortCmp.Whole1
section
namespace Go.Sx
open Go Go.RowKit Go.Reg
def mM(vs:List Value):List (List Value):=vs.map λv=>[v]
structure DomR(T E:Nat)(w:World)(u:Value)(G:List Nat)(z:Value)(b:Nat)(lv ev ov sv:Value)(vs:List Value):Prop where
 ptr:u=.pointer (some ⟨b,0,none⟩)
 z:z=.tuple #[.agg #[lv,ev],ov,.tuple vs.toArray]
 blk:IV w b T [lv,ev,ov,sv]
 sl:Sl E 1 id w sv (mM vs)
 one:∀v∈vs,v.oneCell'=true
 mem:G=b::sv.ownBlock.toList
 nb:b∉sv.ownBlock.toList
def cY(T E:Nat)(l e o:Da)(ss:List Da):AbsD where
 R w u G z:=∃b lv ev ov sv vs,DomR T E w u G z b lv ev ov sv vs/\vs.length=ss.length
 keep:=by
  rintro S w w' u G z ⟨b,lv,ev,ov,sv,vs,h,hl⟩ t hd
  refine⟨b,lv,ev,ov,sv,vs,⟨h.ptr,h.z,h.blk.keep t (hd b (by rw[h.mem];simp)),h.sl.keep t (λc hc=>hd c (by rw[h.mem];exact A9 _ (by simpa using hc))),h.one,h.mem,h.nb⟩,hl⟩
 lt:=by
  rintro w u G z ⟨b,lv,ev,ov,sv,vs,h,_⟩ x hx
  rw[h.mem]at hx
  rcases Ai.1 hx with rfl|hx
  ·exact h.blk.lt
  ·exact h.sl.lt (by simpa using hx)
 one:=by rintro w u G z ⟨b,lv,ev,ov,sv,vs,h,_⟩;rw[h.ptr];rfl
 d:=.tuple [.agg [l,e],o,.tuple ss]
def Oc(d:Da):Prop:=∀(O:List Nat) (w:World) (cs:List Value),RepC O w d cs->cs=[Ea d cs]
theorem Gt(k:Nat)(ds:List Da):Oc (.list k ds):=by
 intro O w cs h
 simp only[RepC]at h
 obtain⟨a,c,css,rfl,_⟩:=h
 rfl
theorem ABC:Oc .nils:=by
 intro O w cs h
 simp only[RepC]at h
 subst h;rfl
theorem Yg {O:List Nat} {w:World}:∀{ss:List Da} {css:List (List Value)},(∀s∈ss,Oc s)->Aq O w ss css->css=mM (List.zipWith Ea ss css)
 |[],css,_,h=>by simp only[Aq]at h;subst h;rfl
 |
  s::ss,css,hs,h=>by
  simp only[Aq]at h
  obtain⟨c1,c2,rfl,h1,h2⟩:=h
  have e1:=hs s (.head _) O w c1 h1
  have e2:=Yg (λx hx=>hs x (.tail _ hx)) h2
  show c1::c2=[Ea s c1]::mM (List.zipWith Ea ss c2)
  rw[<-e2,<-e1]
section
variable {C:Cx} {fr:Fr} {σ:Sg}
theorem cX {B S:List Nat} {w0 w:World} {n:Nat} {η:Nat->Value} {φ:Nat->List Nat} {a:Act}(hM:Models C B S w0 n fr σ η φ a w) {T E:Nat} {l e o:Da} {ss:List Da}(j j2:Nat)(hl:Oc l)(he:Oc e)(ho:Oc o)(hs:∀s∈ss,Oc s)(hg:BI j σ=some (cY T E l e o ss).own)(hj2:BI j2 σ=none):
  ∃η' φ',Models C B S w0 n fr ((j2,.slice E 1 ss)::AX id j (.cells T [.d (.agg [l,e]),.d o,.own j2]) σ) η' φ' a w/\Later (B++Ao φ σ) w (B++Ao φ' ((j2,.slice E 1 ss)::AX id j (.cells T [.d (.agg [l,e]),.d o,.own j2]) σ)) w/\∀c∈BA σ,c∈BA ((j2,.slice E 1 ss)::AX id j (.cells T [.d (.agg [l,e]),.d o,.own j2]) σ)/\η' c=η c:=by
 obtain⟨c,hc,b,lv,ev,ov,sv,vs,h,hlen⟩:=Ri hM.mem hg
 have hj:=AV (AQ hg)
 have hj2':=CQ hj2
 have hz:=h.z
 simp only[cY,RepC,Aq,RepCs]at hc hz
 obtain⟨css,⟨c1,c2,rfl,⟨d1,d2,rfl,hl1,d3,d4,rfl,he1,rfl⟩,c3,c4,rfl,ho1,c5,c6,rfl,⟨css3,hr3,rfl⟩,rfl⟩,rfl⟩:=hc
 obtain⟨L,rfl⟩:∃L,d1=[L]:=⟨_,hl _ _ _ hl1⟩
 obtain⟨E',rfl⟩:∃L,d3=[L]:=⟨_,he _ _ _ he1⟩
 obtain⟨O',rfl⟩:∃L,c3=[L]:=⟨_,ho _ _ _ ho1⟩
 have q3:O'=Ea o [O']:=by simpa using ho _ _ _ ho1
 have q4:=Yg hs hr3
 have hz2:Value.tuple #[Value.agg #[L,E'],Ea o [O'],Value.tuple (List.zipWith Ea ss css3).toArray]=Value.tuple #[Value.agg #[lv,ev],ov,Value.tuple vs.toArray]:=hz
 rw[<-q3]at hz2
 simp only[Value.tuple.injEq,Array.mk.injEq,D2,Value.agg.injEq,and_true]at hz2
 obtain⟨⟨rfl,rfl⟩,rfl,hvs⟩:=hz2
 rw[hvs]at q4
 subst q4
 have hb2:sv.ownBlock.toList=sv.ownBlock.toList:=rfl
 obtain⟨hm',hlt⟩:=hM.mem.splitD hj hj2' (F1:=[b]) (F2:=sv.ownBlock.toList) (v:=sv) (o1:=.cells T [.d (.agg [l,e]),.d o,.own j2]) (o2:=.slice E 1 ss) (λc=>by rw[h.mem,Ai,As]) (λc hc hc2=>h.nb (by rw[<-As.1 hc];exact hc2)) (λη' I' O1 hl' _ hJ=>⟨b,[L,E',O',sv],h.ptr,rfl,h.blk,by
   simp only[B6,AH,RepC,RepCs]
   exact⟨[L,E'],[O',sv],rfl,⟨[L],[E'],rfl,RepC.later hl' _ _ hl1,[E'],[],rfl,RepC.later hl' _ _ he1,rfl⟩,[O'],[sv],rfl,RepC.later hl' _ _ ho1,[sv],[],rfl,⟨hJ.1,by rw[hJ.2]⟩,rfl⟩⟩) (λη' I' O1 hl' _ _=>⟨mM vs,h.sl,rfl,Aq.later hl' _ _ hr3,λx hx=>by
   obtain⟨v,hv,rfl⟩:=An.1 hx
   exact⟨rfl,λu hu=>by rw[As.1 hu];exact h.one v hv⟩⟩)
 have hin:∀c∈BA σ,c∈BA ((j2,.slice E 1 ss)::AX id j (.cells T [.d (.agg [l,e]),.d o,.own j2]) σ)/\CE η j2 sv c=η c:=λc hc=>⟨by
  have:=AZ id j (.cells T [.d (.agg [l,e]),.d o,.own j2]) σ
  unfold BA at this hc⊢
  rw[Ar,this];exact A9 _ hc,BU _ _ _ (λe=>hj2' (e▸hc))⟩
 exact⟨_,_,⟨hm',hM.fr.later hlt hin,hM.defers,hM.size⟩,hlt,hin⟩
theorem QD.domOpen {T E:Nat} {l e o:Da} {ss:List Da}(j j2:Nat)(hl:Oc l)(he:Oc e)(ho:Oc o)(hs:∀s∈ss,Oc s)(hg:BI j σ=some (cY T E l e o ss).own)(hj2:BI j2 σ=none):
  QD C fr σ fr ((j2,.slice E 1 ss)::AX id j (.cells T [.d (.agg [l,e]),.d o,.own j2]) σ):=by
 intro B S w0 w n η φ a hM
 obtain⟨η',φ',h,_⟩:=cX hM j j2 hl he ho hs hg hj2
 exact⟨η',φ',h⟩
theorem YC {T E:Nat} {l e o:Da} {ss:List Da}(j j2:Nat) {q:Bool} {f:FuncId} {args:List Dat} {K:KD}(hl:Oc l)(he:Oc e)(ho:Oc o)(hs:∀s∈ss,Oc s)(hg:BI j σ=some (cY T E l e o ss).own)(hj2:BI j2 σ=none)
  (h:Cj C q f args K fr ((j2,.slice E 1 ss)::AX id j (.cells T [.d (.agg [l,e]),.d o,.own j2]) σ)):Cj C q f args K fr σ:=by
 unfold Cj at h⊢
 rintro B S w0 η φ n a w vs hM ⟨css,hr,rfl⟩
 obtain⟨η',φ',hM',hl',hin⟩:=cX hM j j2 hl he ho hs hg hj2
 exact h B S w0 η' φ' n a w _ hM' ⟨css,AE.later hl' hin _ _ hr,rfl⟩
theorem QD.domClose {T E:Nat} {l e o:Da} {ss:List Da}(j j2:Nat)(hl:Oc l)(he:Oc e)(ho:Oc o)(hs:∀s∈ss,Oc s)(hij:j≠j2)(hg:BI j σ=some (.cells T [.d (.agg [l,e]),.d o,.own j2]))(hg2:BI j2 σ=some (.slice E 1 ss)):
  QD C fr σ (Fj j2 .undef fr) (Dc (BM j2 .undef) j2 (AX id j (cY T E l e o ss).own σ)):=by
 intro B S w0 w n η φ a hM
 have hj:=AV (AQ hg)
 have hj2:=AV (AQ hg2)
 obtain⟨b,cs,hp,hFb,hb,hd⟩:=hM.mem.own _ (AQ hg)
 simp only[B6,AH,RepC,RepCs]at hd
 obtain⟨c1,c2,rfl,⟨d1,d2,rfl,hl1,d3,d4,rfl,he1,rfl⟩,c3,c4,rfl,ho1,c5,c6,rfl,⟨_,rfl⟩,rfl⟩:=hd
 obtain⟨L,rfl⟩:∃L,d1=[L]:=⟨_,hl _ _ _ hl1⟩
 obtain⟨E',rfl⟩:∃L,d3=[L]:=⟨_,he _ _ _ he1⟩
 obtain⟨O',rfl⟩:∃L,c3=[L]:=⟨_,ho _ _ _ ho1⟩
 have q3:O'=Ea o [O']:=by simpa using ho _ _ _ ho1
 obtain⟨css,hsl,hF2,hr,hk⟩:=BV hM.mem hg2
 have q4:=Yg hs hr
 have hlen:=De hr
 have hnb:b∉(η j2).ownBlock.toList:=by
  rw[<-hF2]
  exact hM.mem.disj j hj j2 hj2 hij b (by rw[hFb];simp)
 obtain⟨hm',hlt⟩:=hM.mem.mergeD hj hj2 hij (F:=φ j++φ j2) (λc=>Ag) (r:=(cY T E l e o ss).own) rfl (λI' O1 hl' _=>by
  refine⟨[[.tuple #[.agg #[L,E'],O',.tuple (List.zipWith Ea ss css).toArray]]],?_,?_⟩
  ·simp only[AE,AH,cY,RepC,Aq,RepCs]
   refine⟨_,_,rfl,⟨[[L,E'],[O'],[.tuple (List.zipWith Ea ss css).toArray]],⟨_,_,rfl,⟨[L],[E'],rfl,RepC.later hl' _ _ hl1,[E'],[],rfl,RepC.later hl' _ _ he1,rfl⟩,[O'],_,rfl,RepC.later hl' _ _ ho1,_,[],rfl,⟨css,Aq.later hl' _ _ hr,rfl⟩,rfl⟩,?_⟩,rfl⟩
   show[Value.tuple #[Value.agg #[L,E'],O',.tuple (List.zipWith Ea ss css).toArray]]=[Value.tuple #[Value.agg #[L,E'],Ea o [O'],.tuple (List.zipWith Ea ss css).toArray]]
   rw[<-q3]
  ·refine⟨.tuple #[.agg #[L,E'],O',.tuple (List.zipWith Ea ss css).toArray],rfl,b,L,E',O',η j2,List.zipWith Ea ss css,⟨hp,rfl,hb,q4▸hsl,λv hv=>?_,by rw[hFb,hF2];rfl,hnb⟩,by rw[List.length_zipWith,hlen];simp⟩
   have:[v]∈css:=by rw[q4];exact An.2 ⟨v,hv,rfl⟩
   exact(hk _ this).2 v (by simp))
 refine⟨_,_,hm',hM.fr.kill rfl hlt (λc hc hcj=>⟨?_,rfl⟩) (RepC.undef_ex _ _ _),hM.defers,hM.size⟩
 rw[DI,AZ,Az]
 exact⟨hc,by simpa using hcj⟩
end
end Go.Sx
end
section
namespace Go.Gr
open Go.Proofs.YtjpmmkodoeipmaaGreatDoor
def OU(a b:List Int):Int:=Ef Db ((a.length:Int)::a) ((b.length:Int)::b)
theorem ACx(a b:List Int):OU a b=O9 [Db a.length b.length,Ef Db a b]:=by
 unfold OU O9
 rw[Dt]
 by_cases h:Db (a.length:Int) (b.length:Int)=0
 ·rw[if_pos h,if_pos h]
  unfold O9
  by_cases h2:Ef Db a b=0
  ·rw[if_pos h2,h2];rfl
  ·rw[if_neg h2]
 ·rw[if_neg h,if_neg h]
theorem VF:TOrd OU:=⟨λx y=>by
  unfold OU
  rw[(YX X1).eq0]
  exact⟨λh=>(List.cons.inj h).2,λh=>by rw[h]⟩,λ_ _=>(YX X1).anti _ _,λ_ _ _=>(YX X1).trans _ _ _⟩
def sortC(l:List (List Int)):List (List Int):=l.mergeSort λa b=>decide (OU a b<=0)
theorem GR(l:List (List Int)):(sortC l).Perm l:=H9 _ _
theorem La(l:List (List Int)):(sortC l).Pairwise λa b=>¬OU b a<0:=by
 have:=N2 (le:=λa b=>decide (OU a b<=0)) (λa b c h1 h2=>by
  simp only[decide_eq_true_eq]at*
  exact VF.le_trans h1 h2) (λa b=>by
  have:=VF.anti a b
  simp only[Dj,decide_eq_true_eq]
  omega) l
 refine this.imp λ{a b} h=>?_
 simp only[decide_eq_true_eq]at h
 have:=VF.anti a b
 omega
theorem Zl {l out:List (List Int)}(hp:out.Perm l)(ho:out.Pairwise (λa b=>¬OU b a<0)):out=sortC l:=by
 refine(hp.trans (GR l).symm).eq_of_pairwise (le:=λa b=>¬OU b a<0) (λa b _ _ h1 h2=>?_) ho (La l)
 have:=VF.anti a b
 exact(VF.eq0 _ _).1 (by omega)
def Kk(l:List Int):List Int:=l.mergeSort λx y=>decide (x<=y)
theorem fA(u:Pt->Pt)(ps:List Pt):HV Dw u [] (Ee ps)=Ee (ps.map u):=by
 suffices H:∀qs:List Pt,HV Dw u [] (Ee qs.reverse)=Ee (qs.reverse.map u)by
  have:=H ps.reverse
  rwa [E0]at this
 intro qs
 induction qs with
 |nil=>rfl
 |cons q qs ih=>rw[FK,IL,Xv Hl,ih,A7,Ar,Bu,IL]
theorem fC {α:Type} {f:α->α->Int}(h:TOrd f)(p:α)(n:Int):∀(l:List (α×Int)) (q:α),q∈(Dq f l p n).map (·.1)↔q=p\/q∈l.map (·.1)
 |[],q=>by simp[Dq]
 |
  y::l,q=>by
  rcases FM (f y.1 p) 0 with h1|h1|h1
  ·rw[DK h1,Ar,Ai,fC h p n l q,Ar,Ai]
   exact or_left_comm
  ·have e:=(h.eq0 _ _).1 h1
   rw[DY h1,Ar,Ai,Ar,Ai,e]
   exact⟨λh=>h.imp_right .inr,λh=>h.elim .inl id⟩
  ·rw[EP h1,Ar,Ai]
theorem Tt(ps:List Pt)(q:Pt):q∈(Ee ps).map (·.1)↔q∈ps:=by
 suffices H:∀qs:List Pt,q∈(Ee qs.reverse).map (·.1)↔q∈qs.reverse by
  have:=H ps.reverse
  rwa [E0]at this
 intro qs
 induction qs with
 |nil=>exact SD
 |
  cons r qs ih=>
  rw[FK,IL,fC Hl,ih,Ag,As]
  exact or_comm
theorem Zj {l:List (Pt×Int)}(h:GA Dw l):(l.map (·.1)).Nodup:=by
 unfold GA at h
 rw[List.Nodup,B7]
 refine h.imp λ{a b} hab e=>?_
 have:=Hl.self b.1
 rw[e]at hab
 omega
def TC(F:Pt)(W:List (List Int)):Nat:=OJ (E9 F.labels.length (JR F W))
def I6(u:List Int->Pt)(wv:List Int->List Int)(Xs:List (List Int))(F:Pt):List (List Int):=(Xs.filter λX=>decide (u X=F)).map wv
def R6(u:List Int->Pt)(wv:List Int->List Int)(Xs:List (List Int))(s:Int):List (Pt×Int):=((Ee (Xs.map u)).map λx=>(x.1,(TC x.1 (I6 u wv Xs x.1):Int))).filter λx=>decide (s<=x.2)
theorem WZ(u:List Int->Pt)(wv:List Int->List Int)(Xs:List (List Int))(s:Int):GA Dw (R6 u wv Xs s):=by
 have h:=(EG (Xs.map u)).2.2.2.2
 unfold GA at h
 unfold GA R6
 exact(B7.2 h).filter _
structure GrpOk(u:List Int->Pt)(wv:List Int->List Int)(Xs:List (List Int))(ys:List (Pt×List (List Int))):Prop where
 nodup:(ys.map (·.1)).Nodup
 img:∀y∈ys,y.2=I6 u wv Xs y.1
 mem:∀F,F∈ys.map (·.1)↔∃X∈Xs,u X=F
section
variable {u:List Int->Pt} {wv:List Int->List Int} {Xs:List (List Int)} {ys:List (Pt×List (List Int))}
theorem ABW:GrpOk u wv [] []:=⟨.nil,λ_ h=>(by cases h),λF=>by simp⟩
theorem bO {X:List Int}:I6 u wv (Xs++[X]) (u X)=I6 u wv Xs (u X)++[wv X]:=by
 unfold I6
 rw[Ca,A7,HY (by simp)];rfl
theorem nR {X:List Int} {F:Pt}(h:u X≠F):I6 u wv (Xs++[X]) F=I6 u wv Xs F:=by
 unfold I6
 rw[Ca,N3 (by simpa using h)];simp
theorem GrpOk.new(h:GrpOk u wv Xs ys) {X:List Int}(hn:u X∉ys.map (·.1)):GrpOk u wv (Xs++[X]) (ys++[(u X,[wv X])]):=by
 have h0:I6 u wv Xs (u X)=[]:=by
  unfold I6
  rw[Pn.2 λY hY=>by
   simp only[decide_eq_true_eq]
   exactλe=>hn ((h.mem _).2 ⟨Y,hY,e⟩)];rfl
 refine⟨?_,λy hy=>?_,λF=>?_⟩
 ·rw[A7]
  exact Dm.2 ⟨h.nodup,by simp,λa ha b hb e=>by simp at hb;subst hb;exact hn (e▸ha)⟩
 ·rcases Ag.1 hy with hy|hy
  ·rw[nR (λe=>hn (by rw[e];exact Co hy))];exact h.img y hy
  ·rw[As.1 hy,bO,h0];rfl
 ·rw[A7,Ag,h.mem]
  constructor
  ·rintro(⟨Y,hY,e⟩|e)
   ·exact⟨Y,by simp[hY],e⟩
   ·simp only[Ar,Bu,As]at e
    exact⟨X,by simp,e.symm⟩
  ·rintro⟨Y,hY,e⟩
   rcases Ag.1 hY with hY|hY
   ·exact .inl ⟨Y,hY,e⟩
   ·rw[As.1 hY]at e
    exact .inr (by simp[e])
theorem GrpOk.old(h:GrpOk u wv Xs ys) {X:List Int} {k:Nat} {W:List (List Int)}(hk:ys[k]? =some (u X,W)):GrpOk u wv (Xs++[X]) (ys.set k (u X,W++[wv X])):=by
 have hkl:=(Ae.1 hk).1
 have hm:(ys.set k (u X,W++[wv X])).map (·.1)=ys.map (·.1):=by
  rw[Dz]
  refine Cb λi=>?_
  rw[Bf]
  by_cases e:k=i
  ·subst e
   rw[if_pos rfl,if_pos (by rw[Ac];exact hkl),Ad,hk];rfl
  ·rw[if_neg e]
 refine⟨by rw[hm];exact h.nodup,λy hy=>?_,λF=>?_⟩
 ·obtain⟨i,hi⟩:=EY.1 hy
  rw[Bf]at hi
  by_cases e:k=i
  ·rw[if_pos e,if_pos hkl]at hi
   cases hi
   rw[bO,<-h.img _ (A8 hk)]
  ·rw[if_neg e]at hi
   have hne:u X≠y.1:=λe2=>e (by
    have h1:(ys.map (·.1))[k]? =some (u X):=by rw[Ad,hk];rfl
    have h2:(ys.map (·.1))[i]? =some (u X):=by rw[Ad,hi,e2];rfl
    obtain⟨a1,a2⟩:=Ae.1 h1
    obtain⟨b1,b2⟩:=Ae.1 h2
    exact(List.getElem_inj h.nodup).1 (a2.trans b2.symm))
   rw[nR hne]
   exact h.img y (A8 hi)
 ·rw[hm,h.mem]
  constructor
  ·rintro⟨Y,hY,e⟩;exact⟨Y,by simp[hY],e⟩
  ·rintro⟨Y,hY,e⟩
   rcases Ag.1 hY with hY|hY
   ·exact⟨Y,hY,e⟩
   ·rw[As.1 hY]at e
    exact(h.mem F).1 (An.2 ⟨_,A8 hk,e⟩)
theorem GrpOk.rows(h:GrpOk u wv Xs ys):(ys.map λy=>(y.1,(TC y.1 y.2:Int))).Perm ((Ee (Xs.map u)).map λx=>(x.1,(TC x.1 (I6 u wv Xs x.1):Int))):=by
 have e1:(ys.map λy=>(y.1,(TC y.1 y.2:Int)))=(ys.map (·.1)).map λF=>(F,(TC F (I6 u wv Xs F):Int)):=by
  rw[EE]
  exact FY λy hy=>by simp only[Function.comp,<-h.img y hy]
 have e2:((Ee (Xs.map u)).map λx=>(x.1,(TC x.1 (I6 u wv Xs x.1):Int)))=((Ee (Xs.map u)).map (·.1)).map λF=>(F,(TC F (I6 u wv Xs F):Int)):=by rw[EE];rfl
 rw[e1,e2]
 refine List.Perm.map _ ?_
 have n1:=h.nodup
 have n2:=Zj (EG (Xs.map u)).2.2.2.2
 have hm:∀F,F∈ys.map (·.1)↔F∈(Ee (Xs.map u)).map (·.1):=λF=>by rw[h.mem,Tt,An]
 exact EN n1 (λF=>(hm F).1) (Ff n2 λF=>(hm F).2)
end
def FT(k:Int)(d:Nat)(s:Int)(u:List Int->Pt)(wv:List Int->List Int)(L:List (List (List Int))):List (Pt×Int):=if k=1 then(if d<=L.length then Ee (((L[d-1]?).getD []).map u)else[])else if k=2 then[]else R6 u wv L.flatten s
def Jq(k:Int)(L:List (List (List Int))):List (List Int):=if k=2 then sortC (L.flatten.map Kk)else[]
theorem qR {α β:Type} {zt:List (α×β)} {todo todo':List α} {p:α}(h:todo.Perm (zt.map (·.1)))(hp:todo.Perm (p::todo')):∃z zt',z.1=p/\zt.Perm (z::zt')/\todo'.Perm (zt'.map (·.1)):=by
 obtain⟨z,hz,e⟩:=An.1 (h.mem_iff.1 (hp.mem_iff.2 (.head _)))
 obtain⟨a,b,rfl⟩:=List.append_of_mem hz
 have hm:(a++z::b).Perm (z::(a++b)):=List.perm_middle
 refine⟨z,a++b,e,hm,?_⟩
 have h2:=(hp.symm.trans h).trans (hm.map (·.1))
 rw[Ar,e]at h2
 exact h2.cons_inv
def QZ(y:Pt×List (List Int)):Pt×Int:=(y.1,(TC y.1 y.2:Int))
structure TodoOk {κ:Type}(s:Int)(Z:List (κ×(Pt×List (List Int))))(bs:List (Go.Sx.Bg (Pt×List (List Int))))(zt:List (κ×(Pt×List (List Int))))(done:List (Pt×Int)):Prop where
 perm:(done++(zt.map λz=>QZ z.2).filter λx=>decide (s<=x.2)).Perm ((Z.map λz=>QZ z.2).filter λx=>decide (s<=x.2))
 here:∀z∈zt,∃k:Nat,Z[k]? =some z/\bs[k]? =some (Go.Sx.Bg.here z.2)
 nodup:(zt.map (·.2.1)).Nodup
theorem TodoOk.next {κ:Type} {s:Int} {Z zt zt':List (κ×(Pt×List (List Int)))} {bs:List (Go.Sx.Bg (Pt×List (List Int)))} {done:List (Pt×Int)}(h:TodoOk s Z bs zt done) {z:κ×(Pt×List (List Int))}(hp:zt.Perm (z::zt')):∃k:Nat,Z[k]? =some z/\bs[k]? =some (Go.Sx.Bg.here z.2)/\TodoOk s Z (bs.set k Go.Sx.Bg.pin) zt' (if s<=(TC z.2.1 z.2.2:Int)then done++[QZ z.2]else done):=by
 obtain⟨k,h1,h2⟩:=h.here z (hp.mem_iff.2 (.head _))
 have hn:=(hp.map (·.2.1)).nodup_iff.1 h.nodup
 rw[Ar,Cs]at hn
 refine⟨k,h1,h2,⟨?_,λy hy=>?_,hn.2⟩⟩
 ·refine List.Perm.trans ?_ h.perm
  have hq:=((hp.map λz=>QZ z.2).filter λx=>decide (s<=x.2)).symm
  rw[Ar]at hq
  by_cases hs:s<=(TC z.2.1 z.2.2:Int)
  ·rw[if_pos hs,Bj]
   rw[KO,if_pos (show decide (s<=(QZ z.2).2)=true from decide_eq_true hs)]at hq
   exact hq.append_left done
  ·rw[if_neg hs]
   rw[KO,if_neg (show¬decide (s<=(QZ z.2).2)=true fromλh=>hs (of_decide_eq_true h))]at hq
   exact hq.append_left done
 ·obtain⟨j,g1,g2⟩:=h.here y (hp.mem_iff.2 (.tail _ hy))
  refine⟨j,g1,?_⟩
  rw[List.getElem?_set_ne]
  ·exact g2
  ·rintro rfl
   rw[h1]at g1
   cases g1
   exact hn.1 (Co hy)
theorem pO {A B:List (List Int)}(h:∀a∈A,∀b∈B,a.length<b.length):sortC (A++B)=sortC A++sortC B:=by
 refine(Zl ((GR A).append (GR B)) ?_).symm
 rw[Dr]
 refine⟨La A,La B,λa ha b hb hlt=>?_⟩
 have hl:=h a ((GR A).mem_iff.1 ha) b ((GR B).mem_iff.1 hb)
 have h1:Db (b.length:Int) (a.length:Int)=1:=by unfold Db;rw[if_neg (by omega),if_pos (by omega)]
 have h2:OU b a=1:=by
  unfold OU
  rw[Dt,if_neg (by omega),h1]
 omega
def Tq(l:List (Pt×Int))(p:Pt):Int:=GF (l.filter λx=>decide (x.1=p))
theorem HH(x:Pt×Int)(l:List (Pt×Int))(p:Pt):Tq (x::l) p=(if x.1=p then x.2 else 0)+Tq l p:=by
 unfold Tq
 by_cases h:x.1=p
 ·rw[HY (by simpa using h),if_pos h];rfl
 ·rw[N3 (by simpa using h),if_neg h];omega
theorem YW(p:Pt)(n:Int)(q:Pt):∀l:List (Pt×Int),Tq (Dq Dw l p n) q=Tq l q+if p=q then n else 0
 |
  []=>by
  show Tq [(p,n)] q=_
  rw[HH]
  show(if p=q then n else 0)+0=0+_
  omega
 |
  y::l=>by
  rcases FM (Dw y.1 p) 0 with h1|h1|h1
  ·rw[DK h1,HH,HH,YW p n q l];omega
  ·have e:=(Hl.eq0 _ _).1 h1
   rw[DY h1,HH,HH,e]
   split<;>omega
  ·rw[EP h1,HH];simp only;omega
theorem YV(q:Pt)(ps:List Pt):Tq (Ee ps) q=(ps.count q:Int):=by
 suffices H:∀qs:List Pt,Tq (Ee qs.reverse) q=(qs.reverse.count q:Int)by
  have:=H ps.reverse
  rwa [E0]at this
 intro qs
 induction qs with
 |nil=>rfl
 |
  cons p qs ih=>
  rw[FK,IL,YW,ih,List.count_append,List.count_singleton]
  by_cases h:p=q
  ·rw[if_pos h,if_pos (by simpa using h)];omega
  ·rw[if_neg h,if_neg (by simpa using h)];omega
theorem Py:∀{l:List (Pt×Int)},GA Dw l->∀x∈l,Tq l x.1=x.2
 |
  y::l,h,x,hx=>by
  unfold GA at h
  obtain⟨h1,h2⟩:=BZ.1 h
  have hz:∀{p:Pt} {m:List (Pt×Int)},(∀z∈m,z.1≠p)->Tq m p=0:=λ{p m} hm=>by
   unfold Tq
   rw[Pn.2 λz hz=>by simpa using hm z hz];rfl
  rw[HH]
  rcases Ai.1 hx with rfl|hx
  ·rw[if_pos rfl,hz λz hz e=>by
    have:=h1 z hz
    rw[e]at this
    have:=Hl.self x.1
    omega]
   omega
  ·rw[if_neg (λe=>by
    have:=h1 x hx
    rw[e]at this
    have:=Hl.self x.1
    omega),Py h2 x hx]
   omega
def LeR(a b:List (Pt×Int)):Prop:=∀x∈a,∃y∈b,y.1=x.1/\x.2<=y.2
theorem ABg {ps qs:List Pt}(h:∀p,ps.count p<=qs.count p):LeR (Ee ps) (Ee qs):=by
 intro x hx
 have h1:=Py (EG ps).2.2.2.2 x hx
 rw[YV]at h1
 have hm:=(Tt ps x.1).1 (Co hx)
 have hq:x.1∈qs:=List.count_pos_iff.1 (Bq (List.count_pos_iff.2 hm) (h x.1))
 obtain⟨y,hy,e⟩:=An.1 ((Tt qs x.1).2 hq)
 have h2:=Py (EG qs).2.2.2.2 y hy
 rw[YV,e]at h2
 refine⟨y,hy,e,?_⟩
 have:=h x.1
 omega
theorem ACa(u:List Int->Pt)(wv:List Int->List Int)(Xs:List (List Int)) {s t:Int}(h:t<=s):LeR (R6 u wv Xs s) (R6 u wv Xs t):=by
 intro x hx
 unfold R6 at hx⊢
 obtain⟨h1,h2⟩:=Az.1 hx
 exact⟨x,Az.2 ⟨h1,by simp only[decide_eq_true_eq]at h2⊢;omega⟩,rfl,Int.le_refl _⟩
theorem tF {u:List Int->Pt} {R S:List (List Int)}(hn:R.Nodup)(hs:∀X∈R,X∈S)(p:Pt):(R.map u).count p<=(S.map u).count p:=by
 have e:∀L:List (List Int),(L.map u).count p=(L.filter λX=>decide (u X=p)).length:=λL=>by
  rw[List.count_eq_countP,List.countP_map,List.countP_eq_length_filter]
  congr 1
 rw[e,e]
 exact Ff (hn.filter _) λX hX=>by
  obtain⟨h1,h2⟩:=Az.1 hX
  exact Az.2 ⟨hs X h1,h2⟩
end Go.Gr
end
section
namespace Go.Proofs
open Go.Shelf
def Tryz.growO_ren:Go.Shelf.Ren:=⟨λ|4=>108|n=>n,λ|22=>32|25=>126|3=>3|4=>4|9=>9|20=>20|0=>0|2=>3|n=>n,λ|n=>n⟩
theorem Tryz.growO:Go.Proofs.Lays8.n4 Tryz.prog Tryz.growO_ren:={
 mixed:=by kernel_rfl
 f4:=⟨Tryz.f108.name,by decide,Tryz.func108.trans (congrArg some (by kernel_rfl))⟩
 t0:=Tryz.underlying0
 a0:=Tryz.isAgg0
 z0:=Tryz.sizeOf0
 v0:=Tryz.zeroValue0
 t3:=Tryz.underlying3
 a3:=Tryz.isAgg3
 z3:=Tryz.sizeOf3
 v3:=Tryz.zeroValue3
 t4:=Tryz.underlying4
 a4:=Tryz.isAgg4
 z4:=Tryz.sizeOf4
 v4:=Tryz.zeroValue4
 t9:=Tryz.underlying9
 a9:=Tryz.isAgg9
 z9:=Tryz.sizeOf9
 v9:=Tryz.zeroValue9
 t20:=Tryz.underlying20
 a20:=Tryz.isAgg20
 z20:=Tryz.sizeOf20
 v20:=Tryz.zeroValue20
 t22:=Tryz.underlying32
 a22:=Tryz.isAgg32
 z22:=Tryz.sizeOf32
 v22:=Tryz.zeroValue32}
end Go.Proofs
end
section
namespace Go.Gr
open Go.Proofs.YtjpmmkodoeipmaaGreatDoor
structure Cnf where
 kind:Int
 size:Int
 sup:Int
 workers:Int
 cap:Int
 keep:List Opp
structure CnfOk(c:Cnf):Prop where
 kind:1<=c.kind/\c.kind<=3
 size:1<=c.size/\c.size<=8
 workers:1<=c.workers/\c.workers<=64
 cap:1<=c.cap/\c.cap<=1000000
 l15:c.keep.length<=15
 lok:∀o∈c.keep,Fl o=0
 sup:if c.kind=3 then 1<=c.sup/\c.sup<=1000000 else c.sup=0
def EU(c:Cnf):List Opp:=if c.kind=2 then⟨1,0⟩::c.keep else c.keep
end Go.Gr
namespace Go.Proofs.YtjpmmkodoeipmaaGreatDoor
open Go.Sx Go.RowKit Go.Reg Go.Gr
set_option maxRecDepth 100000
def He(c:Cnf):Da:=.agg [.int .i64 c.kind,.int .i64 c.size,.int .i64 c.sup,.int .i64 c.workers,.int .i64 c.cap,Ka c.keep]
theorem ADQ:(Tryz.prog.info? 126).map (λi=>(i.zero,i.size,i.bytes))=some (some (.agg #[.int .i64 0,.int .i64 0]),2,16):=by kernel_rfl
theorem iW(m:Nat)(hm:m<=1000):E5 C1 108 [.nils,.int .i64 m] 126 2 (λds=>ds=[]):=by
 intro O w us hO hg hr
 obtain⟨v,vs,rfl,h1,h2⟩:=Cn hr
 obtain⟨v2,vs2,rfl,h3,h4⟩:=Cn h2
 obtain rfl:=Ds h4
 have e1:v=.slice none 0 0:=by
  obtain⟨cs,r,e⟩:=h1
  simp only[RepC]at r
  subst r;exact e
 have e2:v2=.int .i64 m:=by
  obtain⟨cs,r,e⟩:=h3
  simp only[RepC]at r
  subst r;exact e
 subst e1 e2
 refine⟨by kernel_rfl,?_⟩
 obtain⟨i0,hi0,ez,es,eb⟩:∃i0,Tryz.prog.info? 126=some i0/\i0.zero=some (.agg #[.int .i64 0,.int .i64 0])/\i0.size=2/\i0.bytes=16:=by
  have:=ADQ
  cases hq:Tryz.prog.info? 126 with
  |none=>rw[hq]at this;cases this
  |some i=>rw[hq]at this;simp only[CA,AB,Prod.mk.injEq]at this;exact⟨i,rfl,this⟩
 by_cases h0:m=0
 ·subst h0
  refine(Any8.slices_Grow_room Tryz.growO none 0 0 0 w (by omega) (by omega) (by omega) (by omega)).mono ?_
  rintro e w' ⟨rfl,rfl⟩
  exact⟨_,[],[],rfl,rfl,fI _ 0 _ _,(λb hb=>by cases hb),rfl,(λx hx=>by cases hx),Tch.refl _ _⟩
 ·refine(Any8.slices_Grow_grow Tryz.growO i0 (.agg #[.int .i64 0,.int .i64 0]) hi0 ez (by omega) none 0 0 m [] w (by omega) (by omega) (by rw[eb];omega) (by omega) (by simp) (λ_=>rfl) (λa ha=>by cases ha)).mono ?_
  rintro e w' ⟨rfl,rfl⟩
  have hGn:0+m<=grownCap w (0+m) 0 126:=grownCap_ge w _ _ _
  have hGm:grownCap w (0+m) 0 126<=maxLen:=grownCap_le_maxLen w (0+m) 0 _ (by unfold maxLen;omega)
  have hren:Tryz.growO_ren.t 25=126:=rfl
  rw[hren]
  generalize grownCap w (0+m) 0 126=G at hGn hGm⊢
  obtain⟨ROW,hROW⟩:∃R,R=(([]:List Value).toArray++Builtin.zeroCells (Value.agg #[.int .i64 0,.int .i64 0]).cells (0+m-0)++Builtin.zeroCells (Value.agg #[.int .i64 0,.int .i64 0]).cells (G- (0+m))):=⟨_,rfl⟩
  have hs:ROW.size=G*2:=by
   rw[hROW]
   simp only[Pr,BC,Bt,size_zeroCells,Value.cells]
   simp;omega
  rw[<-hROW]
  refine⟨_,[],[],rfl,rfl,?_,?_,rfl,(λx hx=>by cases hx),(Tch.drew w []).trans0 (Tch.alloc _ _ _)⟩
  ·exact⟨rfl,.inr ⟨w.heap.size,G,ROW,rfl,Am _,(by show(w.heap.push (Obj.cells ROW 126))[w.heap.size]? =_;simp),Am _,hGm,hs,by simp⟩⟩
  ·intro b hb
   simp only[Value.ownBlock,AB]at hb
   omega
theorem Vb {L:List (List Opp)} {i:Nat} {l:List Opp}(h:L[i]? =some l):(L.take (i+1)).flatten=(L.take i).flatten++l:=by
 rw[Ay,h,AU,Df];simp
theorem zS(L:List (List Opp))(i:Nat):(L.take i).flatten.length<=L.flatten.length:=by
 conv=>rhs;rw[<-Cf i L,Df,Ah]
 omega
set_option maxHeartbeats 4000000 in
theorem Yf(L:List (List Opp))(hL:L.length<=1000)(hf:L.flatten.length<=1000):Pure C1 59 [.list 1 (L.map Ka)] (λy=>y=Ka L.flatten):=by
 have hdL:(L.map Ka).length=L.length:=Ac _
 have hfl:=zS L
 refine AW Tryz.func59 Tryz.ntmps59 [] [] ?_
 ((conv=>whnf);repeat' ((first|refine odw ?_|refine nx ?_|refine AD (λ_=>?_) (λ_=>?_))<;>conv=>whnf))
 refine AR (ι:=Nat) (λi=>i<=L.length) (λi=>[(11,.d (.int .i64 i)),(10,.d (.int .i64 (L.map Ka).length)),(9,.d (.list 1 (L.map Ka))),(3,.d (.int .i64 ((L.take i).flatten.length:Nat))),(0,.d (.list 1 (L.map Ka)))]) (λ_=>[]) (λi=>L.length-i) 0 (λ_=>rfl) (Am _) (.refl _ _) ⟨rfl,rfl,rfl,rfl,rfl,trivial⟩ trivial ?_
 intro i hi
 refine Cd [] [] ?_
 by_cases hil:i<L.length
 ·have hx:=Ab hil
  generalize L[i]=x at hx
  have hxd:(L.map Ka)[i]? =some (Ka x):=by rw[Ad,hx];rfl
  have hdx:(x.map dO).length=x.length:=Ac _
  have hst:=congrArg List.length (Vb hx)
  rw[Ah]at hst
  have h1:=hfl (i+1)
  (conv=>whnf)
  (repeat' ((first|refine Aj ?_ ?_|refine AP hxd rfl ?_|refine nx ?_|refine AD (λ_=>?_) (λ_=>?_)|exact AG)<;>conv=>whnf))
  exact⟨i+1,_,_,hil,.refl _ _,⟨rfl,rfl,rfl,OK (by omega),rfl,trivial⟩,trivial,by omega⟩
 ·have e:L.take i=L:=Al (by omega)
  rw[e]
  ((conv=>whnf);repeat' ((first|refine odw ?_|refine nx ?_|refine AD (λ_=>?_) (λ_=>?_))<;>conv=>whnf))
  refine EH 24 rfl rfl (iW _ hf) ?_;rintro ds rfl
  ((conv=>whnf);repeat' ((first|refine odw ?_|refine nx ?_|refine AD (λ_=>?_) (λ_=>?_))<;>conv=>whnf))
  refine AR (ι:=Nat) (λi=>i<=L.length) (λi=>[(27,.d (.int .i64 i)),(26,.d (.int .i64 (L.map Ka).length)),(25,.d (.list 1 (L.map Ka))),(6,.own 24)]) (λi=>[(24,.slice 126 2 ((L.take i).flatten.map dO))]) (λi=>L.length-i) 0 (λ_=>rfl) (Am _) (.refl _ _) ⟨rfl,rfl,rfl,rfl,trivial⟩ ⟨rfl,trivial⟩ ?_
  intro i hi
  refine Cd [] [] ?_
  by_cases hil:i<L.length
  ·have hx:=Ab hil
   generalize L[i]=x at hx
   have hxd:(L.map Ka)[i]? =some (Ka x):=by rw[Ad,hx];rfl
   have hdx:(x.map dO).length=x.length:=Ac _
   have hst:=Vb hx
   have hsl:=congrArg List.length hst
   rw[Ah]at hsl
   have h1:=hfl (i+1)
   generalize (L.take i).flatten=Z at hst hsl⊢
   have hdz:(Z.map dO).length=Z.length:=Ac _
   (conv=>whnf)
   (repeat' ((first|refine Aj ?_ ?_|refine AP hxd rfl ?_|refine yM (by omega) ?_|refine nx ?_|refine AD (λ_=>?_) (λ_=>?_)|exact AG)<;>conv=>whnf))
   exact⟨i+1,_,_,hil,.refl _ _,⟨rfl,rfl,rfl,rfl,trivial⟩,⟨Bk (by rw[hst,A7]),trivial⟩,by omega⟩
  ·have e:L.take i=L:=Al (by omega)
   rw[e]
   ((conv=>whnf);repeat' ((first|refine odw ?_|refine nx ?_|refine AD (λ_=>?_) (λ_=>?_))<;>conv=>whnf))
   exact rfl
theorem rG(l:List Opp)(hl:l.length<=2000000000):E5 C1 60 [Ka l] 126 2 (λds=>ds=l.map dO):=by
 have hlm:(l.map dO).length=l.length:=Ac _
 refine WI Tryz.func60 Tryz.ntmps60 [] [] ?_
 cases l with
 |
  nil=>
  ((conv=>whnf);repeat' ((first|refine odw ?_|refine nx ?_|refine AD (λ_=>?_) (λ_=>?_))<;>conv=>whnf))
  refine Yd rfl Tryz.underlying32 rfl rfl (.inr rfl) rfl ?_
  intro b
  cases b<;>((conv=>whnf);repeat' ((first|refine odw ?_|refine nx ?_|refine AD (λ_=>?_) (λ_=>?_))<;>conv=>whnf))
  ·exact⟨rfl,rfl,rfl⟩
  ·exact rfl
 |
  cons x l=>
  have hlm2:(([]:List Da).length+((x::l).map dO).length)<=4294967296:=by rw[hlm];simp at hl⊢;omega
  ((conv=>whnf);repeat' ((first|refine odw ?_|refine nx ?_|refine AD (λ_=>?_) (λ_=>?_))<;>conv=>whnf))
  all_goals first|exact⟨rfl,rfl,rfl⟩|(refine JE hlm2 ?_;((conv=>whnf);repeat' ((first|refine odw ?_|refine nx ?_|refine AD (λ_=>?_) (λ_=>?_))<;>conv=>whnf));exact⟨rfl,rfl,by simp⟩)
theorem eA(c:Cnf):Pure C1 22 [He c] (λy=>y=.bool (decide (c.kind=3))):=by
 refine AW Tryz.func22 Tryz.ntmps22 [] [] ?_
 ((conv=>whnf);repeat' ((first|refine odw ?_|refine nx ?_|refine AD (λ_=>?_) (λ_=>?_))<;>conv=>whnf))
 exact rfl
theorem lB(c:Cnf)(hm:c.keep.length<=500):Pure C1 23 [He c] (λy=>y=Ka (EU c)):=by
 have hcl:=rG c.keep (by omega)
 have hcc:=Yf [[⟨1,0⟩],c.keep] (by simp) (by simp;omega)
 rw[show[[⟨1,0⟩],c.keep].flatten=(⟨1,0⟩::c.keep:List Opp)by simp]at hcc
 refine AW Tryz.func23 Tryz.ntmps23 [] [] ?_
 unfold EU
 by_cases h:c.kind=2
 ·rw[if_pos h]
  ((conv=>whnf);repeat' ((first|refine odw ?_|refine nx ?_|refine AD (λ_=>?_) (λ_=>?_))<;>conv=>whnf))
  refine PS EO (G:=[]) (.frz 7 rfl (.refl _ _)) (.inr rfl) ?_
  (conv=>whnf)
  (repeat' ((first|refine Aj ?_ ?_|refine Dx 10 rfl ?_|refine Af rfl hcc ?_|refine nx ?_|refine AD (λ_=>?_) (λ_=>?_)|exact AG)<;>conv=>whnf))
  exact rfl
 ·rw[if_neg h]
  ((conv=>whnf);repeat' ((first|refine odw ?_|refine nx ?_|refine AD (λ_=>?_) (λ_=>?_))<;>conv=>whnf))
  refine EH 14 rfl rfl hcl ?_;rintro ds rfl
  ((conv=>whnf);repeat' ((first|refine odw ?_|refine nx ?_|refine AD (λ_=>?_) (λ_=>?_))<;>conv=>whnf))
  exact rfl
theorem II(n m:Int):Pure C1 62 [.int .i64 n,.int .i64 m] (λy=>y=.bool (decide (1<=n/\n<=m))):=by
 refine AW Tryz.func62 Tryz.ntmps62 [] [] ?_
 by_cases h:1<=n
 ·((conv=>whnf);repeat' ((first|refine odw ?_|refine nx ?_|refine AD (λ_=>?_) (λ_=>?_))<;>conv=>whnf))
  exact congrArg Da.bool (decide_eq_decide.2 ⟨λx=>⟨h,x⟩,λx=>x.2⟩)
 ·((conv=>whnf);repeat' ((first|refine odw ?_|refine nx ?_|refine AD (λ_=>?_) (λ_=>?_))<;>conv=>whnf))
  exact congrArg Da.bool (decide_eq_false (λx=>h x.1)).symm
def U5(k:Int):List UInt8:=if k=1 then[109,111,116,105,102,115]else if k=2 then[99,108,105,113,117,101,115]else[102,115,109]
theorem dU:Pure C1 109 [] (λy=>y=.list 1 [.str ⟨#[109,111,116,105,102,115]⟩,.str ⟨#[99,108,105,113,117,101,115]⟩,.str ⟨#[102,115,109]⟩]):=by
 refine AW Tryz.func109 Tryz.ntmps109 [] [] ?_
 ((conv=>whnf);repeat' ((first|refine odw ?_|refine nx ?_|refine AD (λ_=>?_) (λ_=>?_))<;>conv=>whnf))
 exact rfl
def AF4:List FuncId:=[109]
theorem lC(k:Int)(hk:k=1\/k=2\/k=3):Pure C1 61 [.int .i64 k] (λy=>y=.str (bs (U5 k))):=by
 have hn:=dU
 refine AW Tryz.func61 Tryz.ntmps61 AF4 [] ?_
 rcases hk with rfl|rfl|rfl
 ·have hx:([.str ⟨#[109,111,116,105,102,115]⟩,.str ⟨#[99,108,105,113,117,101,115]⟩,.str ⟨#[102,115,109]⟩]:List Da)[0]? =some (.str ⟨#[109,111,116,105,102,115]⟩):=rfl
  (conv=>whnf)
  (repeat' ((first|refine Aj ?_ ?_|refine Af rfl hn ?_|refine oH hx rfl ?_|refine nx ?_|refine AD (λ_=>?_) (λ_=>?_)|exact AG)<;>conv=>whnf))
  exact rfl
 ·have hx:([.str ⟨#[109,111,116,105,102,115]⟩,.str ⟨#[99,108,105,113,117,101,115]⟩,.str ⟨#[102,115,109]⟩]:List Da)[1]? =some (.str ⟨#[99,108,105,113,117,101,115]⟩):=rfl
  (conv=>whnf)
  (repeat' ((first|refine Aj ?_ ?_|refine Af rfl hn ?_|refine oH hx rfl ?_|refine nx ?_|refine AD (λ_=>?_) (λ_=>?_)|exact AG)<;>conv=>whnf))
  exact rfl
 ·have hx:([.str ⟨#[109,111,116,105,102,115]⟩,.str ⟨#[99,108,105,113,117,101,115]⟩,.str ⟨#[102,115,109]⟩]:List Da)[2]? =some (.str ⟨#[102,115,109]⟩):=rfl
  (conv=>whnf)
  (repeat' ((first|refine Aj ?_ ?_|refine Af rfl hn ?_|refine oH hx rfl ?_|refine nx ?_|refine AD (λ_=>?_) (λ_=>?_)|exact AG)<;>conv=>whnf))
  exact rfl
def AF2:List FuncId:=[61,62,54,63]
theorem dC {c:Cnf}(h:CnfOk c):Pure C1 25 [He c] (λy=>y=.nili):=by
 have hk:=h.kind
 have hk3:c.kind=1\/c.kind=2\/c.kind=3:=by omega
 have hn:=lC c.kind hk3
 have hw1:=II c.size 8
 have hw2:=II c.workers 64
 have hw3:=II c.cap 1000000
 have hw4:=II c.sup 1000000
 rw[decide_eq_true h.size]at hw1
 rw[decide_eq_true h.workers]at hw2
 rw[decide_eq_true h.cap]at hw3
 have hpr:=Li c.keep (by have:=h.l15;omega) h.lok
 have hlen:(c.keep.map dO).length=c.keep.length:=Ac _
 have hl:=h.l15
 have hs:=h.sup
 refine AW Tryz.func25 Tryz.ntmps25 AF2 [] ?_
 rcases hk3 with e|e|e
 ·rw[show U5 c.kind=[109,111,116,105,102,115]by unfold U5;rw[if_pos e]]at hn
  have hne:¬bs [109,111,116,105,102,115]=⟨#[]⟩:=by decide
  rw[if_neg (by omega)]at hs
  (conv=>whnf)
  (repeat' ((first|refine Aj ?_ ?_|refine Af rfl hn ?_|refine Af rfl hw1 ?_|refine Af rfl hw2 ?_|refine Af rfl hw3 ?_|refine Af rfl hpr ?_|refine nx ?_|refine AD (λ_=>?_) (λ_=>?_)|exact AG)<;>conv=>whnf))
  exact rfl
 ·rw[show U5 c.kind=[99,108,105,113,117,101,115]by unfold U5;rw[if_neg (by omega),if_pos e]]at hn
  have hne:¬bs [99,108,105,113,117,101,115]=⟨#[]⟩:=by decide
  rw[if_neg (by omega)]at hs
  (conv=>whnf)
  (repeat' ((first|refine Aj ?_ ?_|refine Af rfl hn ?_|refine Af rfl hw1 ?_|refine Af rfl hw2 ?_|refine Af rfl hw3 ?_|refine Af rfl hpr ?_|refine nx ?_|refine AD (λ_=>?_) (λ_=>?_)|exact AG)<;>conv=>whnf))
  exact rfl
 ·rw[show U5 c.kind=[102,115,109]by unfold U5;rw[if_neg (by omega),if_neg (by omega)]]at hn
  have hne:¬bs [102,115,109]=⟨#[]⟩:=by decide
  rw[if_pos e]at hs
  rw[decide_eq_true hs]at hw4
  (conv=>whnf)
  (repeat' ((first|refine Aj ?_ ?_|refine Af rfl hn ?_|refine Af rfl hw1 ?_|refine Af rfl hw2 ?_|refine Af rfl hw3 ?_|refine Af rfl hpr ?_|refine Af rfl hw4 ?_|refine nx ?_|refine AD (λ_=>?_) (λ_=>?_)|exact AG)<;>conv=>whnf))
  exact rfl
def ADA:List (Nat×Plan):=[(1,.leaf [0,1,2,0,1,1,2,0,3] [0,3,1,4,5,2,6,7,8] [0,0,2,0,8,0,38,127,255])]
def AFa:List FuncId:=[22,23]
theorem Rb(G:Gr)(c:Cnf)(hm:c.keep.length<=500):Pure C1 8 [He c,dG G] (λy=>y=dJ G (decide (c.kind=3)) c.size (EU c)):=by
 have h1:=eA c
 have h2:=lB c hm
 refine AW Tryz.func8 Tryz.ntmps8 AFa ADA ?_
 (conv=>whnf)
 (repeat' ((first|refine Aj ?_ ?_|refine Af rfl h1 ?_|refine Af rfl h2 ?_|refine nx ?_|refine AD (λ_=>?_) (λ_=>?_)|exact AG)<;>conv=>whnf))
 exact rfl
end Go.Proofs.YtjpmmkodoeipmaaGreatDoor
end
section
namespace Go.Proofs.YtjpmmkodoeipmaaGreatDoor
open Go.Sx Go.RowKit Go.Reg Go.Gr
def WrP(p:Pt):Prop:=(p.labels.length<=1000/\p.edges.length<=1000)/\(∀x∈p.labels,0<=x/\x<=4294967295)/\∀e∈p.edges,(0<=e.a/\e.a<=4294967295)/\0<=e.b/\e.b<=4294967295
theorem AEz {p:Pt}(h:Dp p=none):WrP p:=by
 obtain⟨h1,h2,h3⟩:=BJ h
 obtain⟨g1,g2⟩:=CS h1
 obtain⟨s1,s2⟩:=Mm h
 exact⟨⟨by omega,by omega⟩,λx hx=>by have:=g2 x hx;omega,λe he=>by have:=h2 e he;omega⟩
end Go.Proofs.YtjpmmkodoeipmaaGreatDoor
end
section
namespace Go.Proofs.YtjpmmkodoeipmaaGreatDoor
open Go.Sx Go.RowKit Go.Reg Go.Gr
set_option maxRecDepth 100000
def dRs(l:List (Pt×Int)):Da:=.list 3 (l.map D0)
end Go.Proofs.YtjpmmkodoeipmaaGreatDoor
end
section
namespace Go.Proofs.YtjpmmkodoeipmaaGreatDoor
open Go.Sx Go.RowKit Go.Reg Go.Gr
set_option maxRecDepth 100000
theorem Q0 {O:List Nat} {w:World}:∀{ds:List Da} {css:List (List Value)},Aq O w ds css->css.length=ds.length
 |[],css,h=>by simp only[Aq]at h;subst h;rfl
 |
  d::ds,css,h=>by
  simp only[Aq]at h
  obtain⟨c1,c2,rfl,_,h⟩:=h
  simp[Q0 h]
theorem Rc {O:List Nat} {w:World} {E k:Nat} {v:Value} {css:List (List Value)} {ds:List Da}(hs:Sl E k id w v css)(hb:∀b,v.ownBlock=some b->b∉O)(hr:Aq O w ds css)(hk:∀x∈css,ER k x):Rep O w (.list k ds) v:=by
 have hl:=Q0 hr
 rcases hs.2 with⟨rfl,hn⟩|⟨g,cap,cur,rfl,_,hg,hnc,hcm,hcs,htake⟩
 ·have:css=[]:=AJ hn
  subst this
  have:ds=[]:=AJ (by simpa using hl.symm)
  subst this
  exact⟨[.slice none 0 0],by simp only[RepC];exact⟨none,0,[],rfl,by simp,by unfold maxLen;omega,by simp[Aq],by simp,.inl (by simp)⟩,rfl⟩
 ·refine⟨[.slice (some ⟨g,0,none⟩) css.length cap],?_,rfl⟩
  simp only[RepC]
  refine⟨_,cap,css,by rw[hl],by rw[<-hl];exact hnc,hcm,hr,hk,.inr ⟨g,0,rfl,hb g rfl,(Ak.1 hg).1,?_⟩⟩
  have he:css.flatMap id=css.flatten:=by simp[List.flatMap_id]
  intro j u hj
  rw[<-he,<-htake,CY]at hj
  split at hj
  ·simp only[World.cell?,hg,DT]
   simpa using hj
  ·cases hj
theorem tP {O:List Nat} {A:World}(hO:∀b∈O,b<A.heap.size)(hg:Glob C1 O A) {x:List Int}(hx:x.length<=4294967296) {v:Value}(h:Rep O A (Bn x) v):
  Calls Tryz.prog 88 #[v] A λe B=>∃u,e=.returned u/\Rep O B (Bn x) u/\Tch [] A B:=by
 obtain⟨_,hc⟩:=It x hx O A [v] hO hg (reps_cons h reps_nil)
 refine hc.mono ?_
 rintro e B ⟨u,css,ds,rfl,rfl,hs,hb,hr,hk,ht⟩
 refine⟨u,rfl,Rc hs (λb hb' hm=>?_) ?_ hk,ht⟩
 ·have:=hb b hb';have:=hO b hm;omega
 ·exact Aq.later ⟨Ax _,λ_ _ _=>rfl,λb hb' _=>λhm=>hb' (Au _ hm)⟩ _ css hr
end Go.Proofs.YtjpmmkodoeipmaaGreatDoor
end
section
namespace Go.Proofs.YtjpmmkodoeipmaaGreatDoor
open Go.Sx Go.RowKit Go.Reg Go.Gr
set_option maxRecDepth 100000
theorem Dv {O:List Nat} {w:World} {l:List Int} {v:Value}(h:Rep O w (DU l) v):∃a c,v=.slice a l.length c/\l.length<=c/\c<=maxLen:=by
 obtain⟨cs,r,rfl⟩:=h
 simp only[DU,RepC]at r
 obtain⟨a,c,css,rfl,h1,h2,_⟩:=r
 rw[Ac]at h1
 exact⟨a,c,by rw[Ac];rfl,h1,h2⟩
set_option maxHeartbeats 4000000 in
theorem Zq(fr to:List Int):QE fr to 0:=by
 intro ah hk haj h8 h8' l XS J Jx hJ hY O A vf vt va pre hO hgl rf rt ra hj hpre
 have hcl:=λ(B:World)=>@tP O A hO hgl (ah.map λj:Nat=>(j:Int)) (by simp;omega) va ra
 obtain⟨a1,c1,rfl,_,_⟩:=Dv rf
 obtain⟨a2,c2,rfl,_,_⟩:=Dv rt
 obtain⟨a3,c3,rfl,_,_⟩:=Dv ra
 have hcl:=hcl A
 rw[Ac]at hcl⊢
 have hlen:fr.length=ah.length:=by omega
 rw[hlen]
 refine callsIn_of_wp Tryz.func268 rfl trivial ?_ rfl
 simp only[Tryz.ntmps268,BC,Aw,Bt,Nat.reduceAdd,Nat.reduceSub,CX,CW,D8,Dg,BB,AT]
 gi_wp2_with (refine⟨trivial,?_⟩;gi_at_call 88;refine(callsIn_wide.2 hcl).mono ?_;rintro e B ⟨u,rfl,hru,htB⟩;obtain⟨fn,tmps,assign,body,hy,hR⟩:=hY O pre (ah.map λj:Nat=>(j:Int)) u B (λb hb=>Bq (hO b hb) htB.size) (hJ _ _ _ _ hj htB) hpre hru)
 refine hR.mono ?_
 rintro e B2 ⟨S',hg2,⟨rfl,hj2⟩|⟨rfl,hx2⟩⟩
 ·gi_wp2
  go_ret
  exact⟨S',(Grow.same (htB.mono (by simp)) hO).trans hg2,.inl ⟨rfl,hj2⟩⟩
 ·gi_wp2
  go_ret
  exact⟨S',(Grow.same (htB.mono (by simp)) hO).trans hg2,.inr ⟨rfl,_,List.prefix_refl _,hx2⟩⟩
end Go.Proofs.YtjpmmkodoeipmaaGreatDoor
end
section
namespace Go.Proofs.YtjpmmkodoeipmaaGreatDoor
open Go.Sx Go.RowKit Go.Reg Go.Gr
set_option maxRecDepth 100000
theorem AEE {O:List Nat} {w:World}:∀{l:List Int} {css:List (List Value)},Aq O w (l.map λn=>Da.int .i64 n) css->css=l.map λn=>[Value.int .i64 n]
 |[],css,h=>by simpa only[Bu,Aq]using h
 |
  x::l,css,h=>by
  simp only[Ar,Aq,RepC]at h
  obtain⟨c1,c2,rfl,rfl,h⟩:=h
  rw[AEE h];rfl
theorem ACW:∀l:List Int,(l.map λn=>[Value.int .i64 n]).flatten=l.map (Value.int .i64)
 |[]=>rfl
 |x::l=>by simp only[Ar,CI,ACW l];rfl
theorem Mg {O:List Nat} {w:World} {l:List Int} {v:Value}(h:Rep O w (DU l) v):(l=[]/\∃a c,v=.slice a 0 c)\/∃b o c,v=.slice (some ⟨b,o,none⟩) l.length c/\l.length<=c/\c<=maxLen/\b∉O/\b<w.heap.size/\∀j x,l[j]? =some x->w.cell? ⟨b,o+j,none⟩=some (.int .i64 x):=by
 obtain⟨cs,r,rfl⟩:=h
 simp only[DU,RepC]at r
 obtain⟨a,c,css,rfl,h1,h2,h3,_,h5⟩:=r
 have hf:=AEE h3
 rcases h5 with h5|⟨b,o,rfl,hb,hbl,hc⟩
 ·have:l=[]:=by simpa using h5
  subst this
  exact .inl ⟨rfl,a,c,rfl⟩
 ·refine .inr ⟨b,o,c,by rw[Ac];rfl,by rw[Ac]at h1;exact h1,h2,hb,hbl,λj x hx=>?_⟩
  refine hc j _ ?_
  rw[hf,ACW,Ad,hx];rfl
theorem Tch.later {O:List Nat} {A B:World}(h:Tch O A B):Later O A O B:=⟨h.size,λb hb hn=>h.blk b hb hn,λ_ h _=>h⟩
theorem DM {O:List Nat} {A B:World} {d:Da} {v:Value}(h:Tch O A B)(r:Rep O A d v):Rep O B d v:=r.later (Tch.later h)
theorem Hs {C:Cx} {O:List Nat} {A B:World}(h:Tch O A B)(r:Glob C O A):Glob C O B:=λg hg=>(r g hg).later (Tch.later h)
theorem Gl {O:List Nat} {A B:World}(h:Tch O A B)(r:∀b∈O,b<A.heap.size):∀b∈O,b<B.heap.size:=λb hb=>Bq (r b hb) h.size
theorem Zt:lW C1 58:=by
 intro w a n c hn hc
 refine⟨by kernel_rfl,?_⟩
 show Calls Tryz.prog _ _ _ _
 go_enter Tryz.func58,Tryz.ntmps58
 go_wp2
 go_ret
 exact⟨rfl,rfl⟩
theorem V0 {O:List Nat} {w:World}(hO:∀b∈O,b<w.heap.size) {l:List Int}(hl:l.length<=1000) {p:Option Addr} {c:Nat}(hp:Rep O w (DU l) (.slice p l.length c)) {b:Nat} {m:Int}(hc:w.cell? ⟨b,0,none⟩=some (.int .i64 m))(ty:TypeId):
  ∃v' w',(Builtin.append_ #[22,22] ty #[.slice p l.length l.length,.slice (some ⟨b,0,none⟩) 1 1]).run Tryz.prog w=.ok v' w'/\Rep O w' (DU (l++[m])) v'/\Tch [] w w':=by
 obtain⟨cs,r,e⟩:=hp
 simp only[DU,RepC]at r
 obtain⟨a,c',css,rfl,h1,h2,h3,h4,h5⟩:=r
 have ep:p=a:=by simp only[DU,Ea]at e;injection e
 subst ep
 have hcl:css.length=l.length:=by rw[Q0 h3,Ac]
 obtain⟨v',w',css2,g1,g2,g3,g4,g5,g6⟩:=SC (P:=Tryz.prog) (w:=w) (EO.ty (t:=22) rfl) rfl (EO.ty (t:=3) rfl) (by decide) (by decide) (p:=p) (css:=css) h4
  (by
   rcases h5 with h5|⟨b',o,h5,_,_,h6⟩
   ·exact .inl (AJ (by rw[hcl];simpa using h5))
   ·exact .inr ⟨b',o,h5,h6⟩)
  (O:=O) (es:=[.int .i64 m]) (vy:=.slice (some ⟨b,0,none⟩) 1 1) ⟨⟨_,_,[[.int .i64 m]],rfl,by simp[Aq,RepC],by intro x hx;simp at hx;subst hx;exact⟨rfl,by intro y hy;simp at hy;subst hy;rfl⟩,.inr ⟨b,0,rfl,λj u hj=>by
   cases j with
   |zero=>simp at hj;subst hj;exact hc
   |succ j=>simp at hj⟩⟩⟩ (by simp) (by rw[hcl];refine BH (m:=1001) (by simp;omega) (by decide)) ty
 rw[hcl]at g1
 refine⟨v',w',g1,?_,g5⟩
 have:DU (l++[m])=.list 1 ((l.map λn=>Da.int .i64 n)++[.int .i64 m]):=by unfold DU;rw[A7];rfl
 rw[this]
 refine Rc g2 (λb hb hm=>?_) (FJ ?_ ?_) (λx hx=>?_)
 ·have:=g6 b hb;have:=hO b hm;omega
 ·exact Aq.later ⟨g5.size,λ_ h _=>g5.blk _ h (by simp),λ_ h _=>h⟩ _ _ h3
 ·exact Aq.later ⟨g5.size,λ_ h _=>g5.blk _ h (by simp),λ_ h _=>h⟩ _ _ g3
 ·rcases Ag.1 hx with hx|hx
  ·exact h4 x hx
  ·exact g4 x hx
theorem Mr(fr to:List Int)(k:Nat)(ah:List Nat) {m:Nat}:∀{m':Nat},m<=m'->J3 fr to k m ah<+:J3 fr to k m' ah
 |0,h=>by rw[show m=0 by omega];exact List.prefix_refl _
 |
  m'+1,h=>by
  rcases BL m (m'+1)with h1|h1
  ·rw[Wy]
   exact(Mr fr to k ah (m:=m) (m':=m') (by omega)).trans (List.prefix_append _ _)
  ·rw[show m=m'+1 by omega];exact List.prefix_refl _
theorem nG {ah:List Nat} {m:Nat}(h:DH ah<2^8)(hm:m<8):bits BinOp.or IntKind.u64 (DH ah:Int) (IntKind.u64.wrap (2^m))=((DH (ah++[m]):Nat):Int):=by
 have h1:(2:Nat)^m<=2^8:=JZ (by decide) (by omega)
 have h2:IntKind.u64.wrap ((2:Int)^m)=((2^m:Nat):Int):=by
  have:(2:Int)^m=((2^m:Nat):Int):=by norm_cast
  rw[this]
  generalize (2:Nat)^m=q at h1
  rw[IntKind.wrap_u64];omega
 rw[h2,bits_or_u64_nat _ _ (by omega) (by omega),Nn]
set_option maxHeartbeats 800000 in
theorem Zr(fr to:List Int)(k:Nat)(ih:QE fr to k):QE fr to (k+1):=by
 intro ah hk haj h8 h8' l XS J Jx hJ hY O A vf vt va pre hO hgl rf rt ra hj hpre
 obtain⟨a1,c1,rfl,_,_⟩:=Dv rf
 obtain⟨a2,c2,rfl,_,_⟩:=Dv rt
 obtain⟨a3,c3,rfl,hn3,hc3⟩:=Dv ra
 rw[Ac]at ra⊢
 have hne:¬((ah.length:Int)=(fr.length:Int)):=by omega
 refine callsIn_of_wp Tryz.func268 rfl trivial ?_ rfl
 simp only[Tryz.ntmps268,BC,Aw,Bt,Nat.reduceAdd,Nat.reduceSub,CX,CW,D8,Dg,BB,AT]
 gi_wp2
 have hne':((ah.length:Int)==(fr.length:Int))=false:=by simpa using hne
 simp only[hne']
 gi_loopw [24] (λi wr=>∃(m:Nat) (S:List Nat),m<=to.length/\i=.int .i64 m/\J S (pre++J3 fr to k m ah) wr/\Grow O A S wr)
  (λi _=>to.length- (intOf i).toNat)
 case atStart=>exact⟨0,O,Am _,rfl,by simpa[J3]using hj,Grow.refl hO⟩
 case round=>
  obtain⟨m,S,hm,rfl,hJs,hgs⟩:=hrel
  have hts:=hgs.tch
  by_cases hlt:m<to.length
  ·have hx:=Ab hlt
   generalize to[m]=x at hx
   have hah:ah.length<fr.length:=by omega
   have hy:=Ab hah
   generalize fr[ah.length]=y at hy
   rcases Mg rt with⟨h,_⟩|⟨b2,o2,c2',hv2,_,_,hb2,hbl2,hc2⟩
   ·subst h;simp at hlt
   rcases Mg rf with⟨h,_⟩|⟨b1,o1,c1',hv1,_,_,hb1,hbl1,hc1⟩
   ·subst h;simp at hah
   cases hv2
   cases hv1
   have e2:wr.cell? ⟨b2,o2+m,none⟩=some (.int .i64 x):=hts.cell (hc2 m x hx) hb2
   have e1:wr.cell? ⟨b1,o1+ah.length,none⟩=some (.int .i64 y):=hts.cell (hc1 ah.length y hy) hb1
   have HR:=Ga (And.intro rf rt)
   clear hc1 hc2 rf rt
   have hmk:DH ah<2^8:=nH _ 8 (λj hj=>by have:=haj j hj;omega)
   have hbt:bits BinOp.and IntKind.u64 ((DH ah:Int)/2^m) 1=if m∈ah then 1 else 0:=by
    have h1:((DH ah:Int)/2^m)=((DH ah/2^m:Nat):Int):=by simp
    have h2:DH ah/2^m<=DH ah:=Nat.div_le_self _ _
    rw[h1,show(1:Int)=((1:Nat):Int)from rfl,bits_and_u64_nat _ _ (by omega) (by omega),AAw,aT]
    by_cases h:m∈ah<;>simp[h]
   have hou:=Wy fr to k m ah
   rw[hx,hy]at hou
   by_cases hin:m∈ah
   ·rw[if_pos hin]at hbt
    have hou':J3 fr to k (m+1) ah=J3 fr to k m ah:=by rw[hou];simp[hin]
    gi_wp2
    go_roundw
    case rel=>exact⟨m+1,S,by omega,by simp,by rw[hou'];exact hJs,hgs⟩
    case measure=>simp[intOf];omega
   rw[if_neg hin]at hbt
   by_cases hxy:x=y
   ·subst hxy
    have hou':J3 fr to k (m+1) ah=J3 fr to k m ah++GU fr to k (ah++[m]):=by rw[hou];simp[hin]
    gi_wp2
    refine wpIn_wide.2 ?_
    refine Pu [58] [0,0,0,2,0,6,3,0,0,0,0,0,3,0] 3 5 [0,1,2,4,7,8,9,10,11,3,5,6,12,13] [0,0,0,4,0,28,60,0,0,256,896,0,4095,8191] [0,1,2,4,7,8,9,10,11,5,3,6,12,13] [0,0,0,52,0,16,60,0,0,256,896,0,4095,8191] (by kernel_rfl) (by decide) (by kernel_rfl) (by kernel_rfl) ?_ ?_
    ·intro w1 hT
     have HT:=Ga hT
     clear hT
     go_wp2_with (first|(refine Cv rfl rfl rfl rfl (λ_ _=>?_)))
     refine EJ rfl rfl rfl (λK1 hK1=>?_)
     go_wp2_with (go_at_call 58;refine((Zt w1 _ _ _ (by simpa using hn3) hc3).2).mono ?_;rintro e w' ⟨rfl,rfl⟩)
     refine hK1 _ _ (Kb.refl _) ?_
     go_wp2_with (first|(refine Cv rfl rfl rfl rfl (λ_ _=>?_))|(refine Du rfl rfl rfl (λ_ _=>?_)))
     have T1:Tch O A w':=hts.then0 HT.out
     have T2:Tch O A (w'.alloc (Obj.cells #[Value.int IntKind.i64 (m:Int)] 3)):=T1.andAlloc _
     have G2:Grow O A S (w'.alloc (Obj.cells #[Value.int IntKind.i64 (m:Int)] 3)):=hgs.trans (Grow.same ((HT.out.andAlloc _).mono (by simp)) hgs.lt)
     have hcell:(w'.alloc (Obj.cells #[Value.int IntKind.i64 (m:Int)] 3)).cell? ⟨w'.heap.size,0,none⟩=some (.int .i64 (m:Int)):=by
      simp only[World.cell?]
      rw[World.alloc_heap_new];rfl
     have ra2:=ra.later G2.later
     have hla:(ah.map λj:Nat=>(j:Int)).length=ah.length:=Ac _
     rw[<-hla]at ra2
     obtain⟨va,w3,ha1,ha2,ha3⟩:=V0 G2.lt (by rw[hla];omega) ra2 hcell 22
     rw[hla]at ha1
     refine Hj rfl rfl rfl (λK2 hK2=>?_)
     refine Kc rfl rfl rfl ha1 (hK2 _ _ ?_)
     refine Hj rfl rfl rfl (λK3 hK3=>?_)
     have hor:=nG hmk (show m<8 by omega)
     have hpre2:pre++J3 fr to k m ah++GU fr to k (ah++[m])<+:XS:=by
      rw[Bj,<-hou']
      refine List.IsPrefix.trans ?_ hpre
      rw[<-Ms]
      exact(V7 _).2 (Mr fr to k ah (by omega))
     have hpre3:J3 fr to k m ah++GU fr to k (ah++[m])<+:GU fr to (k+1) ah:=by
      rw[<-hou',<-Ms]
      exact Mr fr to k ah (by omega)
     have ha2':Rep S w3 (DU ((ah++[m]).map λj:Nat=>(j:Int))) va:=by rw[A7];exact ha2
     have G3:Grow O A S w3:=G2.trans (Grow.same (ha3.mono (by simp)) G2.lt)
     have hcs:=ih (ah++[m]) (by rw[Ah,BE];omega) (λj hj=>by
      rcases Ag.1 hj with hj|hj
      ·exact haj j hj
      ·rw[As.1 hj];exact hlt) h8 h8' l XS J Jx hJ hY S w3 _ _ va (pre++J3 fr to k m ah) G3.lt (λg hg=>(hgl g hg).later G3.later) (HR.out.1.later G3.later) (HR.out.2.later G3.later) ha2' (hJ _ _ _ _ hJs ((HT.out.andAlloc _).then0 ha3)) hpre2
     have hcs:=callsIn_wide.1 hcs
     go_wp2_with (go_at_call 268;refine Calls.mono hcs ?_;rintro e B ⟨S',hgB,⟨rfl,hj3⟩|⟨rfl,q,hq,hx3⟩⟩)
     ·go_wp2_with (first|(refine Cv rfl rfl rfl rfl (λ_ _=>?_))|refine GN ?_)
      gi_wp2
      go_roundw
      case rel=>exact⟨m+1,S',by omega,by simp,by rw[hou',<-Bj];exact hj3,G3.trans hgB⟩
      case measure=>simp[intOf];omega
     ·go_wp2_with (first|(refine Cv rfl rfl rfl rfl (λ_ _=>?_))|refine GN ?_)
      gi_wp2
      go_ret
      exact⟨S',G3.trans hgB,.inr ⟨rfl,J3 fr to k m ah++q,((V7 _).2 hq).trans hpre3,by rw[<-Bj];exact hx3⟩⟩
    ·intro w1 hT
     have HT:=Ga hT
     clear hT
     go_wp2_with (first|(refine Cv rfl rfl rfl rfl (λ_ _=>?_))|(refine Du rfl rfl rfl (λ_ _=>?_)))
     refine EJ rfl rfl rfl (λK1 hK1=>?_)
     go_wp2_with (go_at_call 58;refine((Zt _ _ _ _ (by simpa using hn3) hc3).2).mono ?_;rintro e w' ⟨rfl,rfl⟩)
     refine hK1 _ _ (Kb.refl _) ?_
     have T1:Tch O A w1:=hts.then0 HT.out
     have T2:Tch O A (w1.alloc (Obj.cells #[Value.int IntKind.i64 (m:Int)] 3)):=T1.andAlloc _
     have G2:Grow O A S (w1.alloc (Obj.cells #[Value.int IntKind.i64 (m:Int)] 3)):=hgs.trans (Grow.same ((HT.out.andAlloc _).mono (by simp)) hgs.lt)
     have hcell:(w1.alloc (Obj.cells #[Value.int IntKind.i64 (m:Int)] 3)).cell? ⟨w1.heap.size,0,none⟩=some (.int .i64 (m:Int)):=by
      simp only[World.cell?]
      rw[World.alloc_heap_new];rfl
     have ra2:=ra.later G2.later
     have hla:(ah.map λj:Nat=>(j:Int)).length=ah.length:=Ac _
     rw[<-hla]at ra2
     obtain⟨va,w3,ha1,ha2,ha3⟩:=V0 G2.lt (by rw[hla];omega) ra2 hcell 22
     rw[hla]at ha1
     refine Hj rfl rfl rfl (λK2 hK2=>?_)
     refine Kc rfl rfl rfl ha1 (hK2 _ _ ?_)
     refine Hj rfl rfl rfl (λK3 hK3=>?_)
     have hor:=nG hmk (show m<8 by omega)
     have hpre2:pre++J3 fr to k m ah++GU fr to k (ah++[m])<+:XS:=by
      rw[Bj,<-hou']
      refine List.IsPrefix.trans ?_ hpre
      rw[<-Ms]
      exact(V7 _).2 (Mr fr to k ah (by omega))
     have hpre3:J3 fr to k m ah++GU fr to k (ah++[m])<+:GU fr to (k+1) ah:=by
      rw[<-hou',<-Ms]
      exact Mr fr to k ah (by omega)
     have ha2':Rep S w3 (DU ((ah++[m]).map λj:Nat=>(j:Int))) va:=by rw[A7];exact ha2
     have G3:Grow O A S w3:=G2.trans (Grow.same (ha3.mono (by simp)) G2.lt)
     have hcs:=ih (ah++[m]) (by rw[Ah,BE];omega) (λj hj=>by
      rcases Ag.1 hj with hj|hj
      ·exact haj j hj
      ·rw[As.1 hj];exact hlt) h8 h8' l XS J Jx hJ hY S w3 _ _ va (pre++J3 fr to k m ah) G3.lt (λg hg=>(hgl g hg).later G3.later) (HR.out.1.later G3.later) (HR.out.2.later G3.later) ha2' (hJ _ _ _ _ hJs ((HT.out.andAlloc _).then0 ha3)) hpre2
     have hcs:=callsIn_wide.1 hcs
     go_wp2_with (go_at_call 268;refine Calls.mono hcs ?_;rintro e B ⟨S',hgB,⟨rfl,hj3⟩|⟨rfl,q,hq,hx3⟩⟩)
     ·go_wp2_with (first|(refine Cv rfl rfl rfl rfl (λ_ _=>?_))|refine GN ?_)
      gi_wp2
      go_roundw
      case rel=>exact⟨m+1,S',by omega,by simp,by rw[hou',<-Bj];exact hj3,G3.trans hgB⟩
      case measure=>simp[intOf];omega
     ·go_wp2_with (first|(refine Cv rfl rfl rfl rfl (λ_ _=>?_))|refine GN ?_)
      gi_wp2
      go_ret
      exact⟨S',G3.trans hgB,.inr ⟨rfl,J3 fr to k m ah++q,((V7 _).2 hq).trans hpre3,by rw[<-Bj];exact hx3⟩⟩
   ·have hou':J3 fr to k (m+1) ah=J3 fr to k m ah:=by rw[hou];simp[hxy]
    gi_wp2
    go_roundw
    case rel=>exact⟨m+1,S,by omega,by simp,by rw[hou'];exact hJs,hgs⟩
    case measure=>simp[intOf];omega
  ·obtain rfl:m=to.length:=by omega
   rw[Ms]at hJs
   gi_wp2
   go_ret
   exact⟨S,hgs,.inl ⟨rfl,hJs⟩⟩
theorem TO(fr to:List Int):∀k,QE fr to k
 |0=>Zq fr to
 |k+1=>Zr fr to k (TO fr to k)
end Go.Proofs.YtjpmmkodoeipmaaGreatDoor
end
section
namespace Go.Proofs.YtjpmmkodoeipmaaGreatDoor
open Go.Sx Go.RowKit Go.Reg Go.Gr
set_option maxRecDepth 100000
def Ya(p:Pt)(labels:List Int):Da:=.func (.func 267) [] [.ref (FE p),.ref (Bn labels)]
set_option maxHeartbeats 1000000 in
theorem Uu {p:Pt} {labels:List Int}(h8:p.labels.length<=8)(h8':labels.length<=8) {O:List Nat} {l:Nat} {W:World} {fv:Value}(hO:∀b∈O,b<W.heap.size)(hg:Glob C1 O W)(hr:Rep O W (Ya p labels) fv):
  oL C1 fv (GU p.labels labels p.labels.length []) O l W:=by
 obtain⟨cs,r,rfl⟩:=hr
 simp only[Ya,RepC,Aq,FE]at r
 obtain⟨fs,cs',rfl,⟨k1,k2,rfl,⟨b1,o1,c1,rfl,hb1,hs1,⟨d1,d2,rfl,hd1,hd2⟩,hc1⟩,k3,k4,rfl,⟨b2,o2,c2,rfl,hb2,hs2,hd3,hc2⟩,rfl⟩,rfl⟩:=r
 obtain⟨v1,rfl,rv1⟩:∃v1,d1=[v1]/\Rep O W (DU p.labels) v1:=by
  have hd1':=hd1
  simp only[Bn,RepC]at hd1
  obtain⟨a,c,css,rfl,_⟩:=hd1
  exact⟨_,rfl,_,hd1',rfl⟩
 obtain⟨v2,rfl,rv2⟩:∃v2,c2=[v2]/\Rep O W (DU labels) v2:=by
  have hd3':=hd3
  simp only[Bn,RepC]at hd3
  obtain⟨a,c,css,rfl,_⟩:=hd3
  exact⟨_,rfl,_,hd3',rfl⟩
 have e1:W.cell? ⟨b1,o1,none⟩=some v1:=hc1 0 v1 rfl
 have e2:W.cell? ⟨b2,o2,none⟩=some v2:=hc2 0 v2 rfl
 refine⟨267,#[.pointer (some ⟨b1,o1,none⟩),.pointer (some ⟨b2,o2,none⟩)],rfl,λ_ _=>rfl,?_⟩
 intro J Jx hJ hJx hY hj
 have hj:=hj [] (by simp)
 have hJ:=hJ []
 have hY:=hY []
 have hcs:=TO p.labels labels p.labels.length [] (by simp) (by simp) h8 h8' l (GU p.labels labels p.labels.length []) (λS pre A=>J [] S pre A/\W.heap.size<=A.heap.size) (Jx []) (λS pre A B h t=>⟨hJ S pre A B (by simp) h.1 t,BH h.2 t.size⟩) (λS pre x v A hS h hp hx=>by
   have:=hY S pre x v A (by simp) hS h.1 hp (by rw[Cg];exact hx) ⟨h.2,by simp⟩
   obtain⟨fn,tmps,assign,body,hy,hR⟩:=this
   exact⟨fn,tmps,assign,body,hy,hR.mono λe B ⟨S',hg,hh⟩=>⟨S',hg,hh.imp (λ⟨h1,h2⟩=>⟨h1,h2,BH h.2 hg.tch.size⟩) id⟩⟩) O W v1 v2 (.slice none 0 0) [] hO hg rv1 rv2 ⟨_,by simp only[DU,Bu,RepC];exact⟨none,0,[],rfl,by simp,by unfold maxLen;omega,by simp[Aq],by simp,.inl trivial⟩,rfl⟩ ⟨hj,Ax _⟩ (by simp)
 rw[show((DH []:Nat):Int)=0 from rfl,BB]at hcs
 show CallsIn Fence.wide 3 Tryz.prog 267 _ W _
 refine callsIn_of_wp Tryz.func267 rfl trivial ?_ rfl
 clear hc1 hc2 hd1 hd2 hd3
 simp only[Tryz.ntmps267,BC,Aw,Bt,Nat.reduceAdd,Nat.reduceSub,CX,CW,D8,Dg,BB,AT]
 gi_wp2_with (refine⟨trivial,?_⟩;gi_at_call 268;refine(callsIn_wide.2 (callsIn_wide.1 hcs)).mono ?_;rintro e B ⟨S',hgB,⟨rfl,hj3,_⟩|⟨rfl,q,hq,hx3⟩⟩)
 ·gi_wp2
  refine bodyPost_end (results_none rfl _ _ _) rfl ?_
  exact⟨⟨_,rfl⟩,[],S',by simp,by rw[Cg];exact hgB.tch,hgB.new,.inl hj3⟩
 ·gi_wp2
  refine bodyPost_end (results_none rfl _ _ _) rfl ?_
  exact⟨⟨_,rfl⟩,[],S',by simp,by rw[Cg];exact hgB.tch,hgB.new,.inr ⟨q,hq,hx3⟩⟩
end Go.Proofs.YtjpmmkodoeipmaaGreatDoor
end
section
namespace Go.Proofs.YtjpmmkodoeipmaaGreatDoor
open Go.Sx Go.RowKit Go.Reg Go.Gr
set_option maxRecDepth 100000
attribute [local go_sem] Oper.semAt_some
theorem Sp(p:Pt)(labels:List Int):Pure C1 225 [FE p,Bn labels] (λy=>y=Ya p labels):=by
 refine AW Tryz.func225 Tryz.ntmps225 [] [] ?_
 ((conv=>whnf);repeat' ((first|refine odw ?_|refine nx ?_|refine AD (λ_=>?_) (λ_=>?_))<;>conv=>whnf))
 exact rfl
theorem Hn {O:List Nat} {w:World} {k:Nat} {ds:List Da} {cs:List Value}(h:RepC O w (.list k ds) cs):∃a c,cs=[.slice a ds.length c]/\Rep O w (.list k ds) (.slice a ds.length c)/\ds.length<=c/\c<=maxLen:=by
 have h':=h
 simp only[RepC]at h
 obtain⟨a,c,css,rfl,h1,h2,_⟩:=h
 exact⟨a,c,rfl,⟨_,h',rfl⟩,h1,h2⟩
theorem XK {O:List Nat} {w:World} {p:Pt} {v:Value}(h:Rep O w (FE p) v):∃a1 c1 a2 c2,v=.agg #[.slice a1 p.labels.length c1,.slice a2 p.edges.length c2]/\Rep O w (Bn p.labels) (.slice a1 p.labels.length c1)/\Rep O w (Fa p.edges) (.slice a2 p.edges.length c2):=by
 obtain⟨cs,r,rfl⟩:=h
 simp only[FE,RepC,RepCs]at r
 obtain⟨k1,k2,rfl,r1,k3,k4,rfl,r2,rfl⟩:=r
 obtain⟨a1,c1,rfl,g1,_⟩:=Hn r1
 obtain⟨a2,c2,rfl,g2,_⟩:=Hn r2
 rw[Ac]at g1 g2
 exact⟨a1,c1,a2,c2,by rw[Ac,Ac];rfl,g1,g2⟩
theorem Pure.at' {C:Cx} {f:FuncId} {xs:List Da} {Q:Da->Prop}(h:Pure C f xs Q)(n:Nat) {O:List Nat} {W:World} {us:List Value}(hO:∀b∈O,b<W.heap.size)(hg:Glob C O W)(hr:Jw O W xs us):
  CallsIn Fence.wide n C.P f us.toArray W λe B=>∃u y,e=.returned u/\Q y/\Rep O B y u/\Tch [] W B:=callsIn_wide.2 (h O W us hO hg hr).2
theorem Tch.up {O:List Nat} {A B:World}(h:Tch [] A B):Tch O A B:=h.mono (by simp)
theorem BT {A B:World}(h:Tch [] A B) {b:Nat} {o:Obj}(hb:A.heap[b]? =some o):B.heap[b]? =some o:=by
 rw[h.blk b (Ak.1 hb).1 (by simp)];exact hb
theorem Np {O X:List Nat} {w W:World}(t:Tch [] w W)(hX:∀x∈X,w.heap.size<=x\/x∈O):Later O w X W:=
 ⟨t.size,λb hb _=>t.blk b hb (by simp),λb hn hb hm=>(hX b hm).elim (λh=>by omega) hn⟩
theorem Gh {C:Cx} {O X:List Nat} {A B:World}(h:Later O A X B)(r:Glob C O A):Glob C X B:=λg hg=>(r g hg).later h
def oR(p:Pt)(b6 b7 b8:Nat)(O:List Nat)(W0:World)(R:List Nat)(pre:List (List Int))(W:World):Prop:=
 Tch ([b6,b7,b8]++R) W0 W/\match pre.foldl (Kj p) none with
  |none=>W.heap[b6]? =some (Obj.cells #[Value.slice none 0 0,Value.slice none 0 0] 54)/\W.heap[b7]? =some (Obj.cells #[Value.slice none 0 0] 22)/\W.heap[b8]? =some (Obj.cells #[Value.bool true] 4)
  |some (q,b)=>∃u1 u2 u3,W.heap[b6]? =some (Obj.cells #[u1,u2] 54)/\W.heap[b7]? =some (Obj.cells #[u3] 22)/\W.heap[b8]? =some (Obj.cells #[Value.bool false] 4)/\
    Rep ([b6,b7,b8]++O++R) W (FE q) (.agg #[u1,u2])/\Rep ([b6,b7,b8]++O++R) W (Bn b) u3/\q.labels.length<=1000/\q.edges.length<=1000
theorem Uk {O:List Nat} {B:World} {q:Pt} {u:Value}(h:Rep O B (.tuple [FE q,.nili]) u):∃d1 m1 d2 m2,u=.tuple #[.agg #[.slice d1 q.labels.length m1,.slice d2 q.edges.length m2],.nilIface]/\Rep O B (FE q) (.agg #[.slice d1 q.labels.length m1,.slice d2 q.edges.length m2]):=by
 obtain⟨cs,r,rfl⟩:=h
 simp only[RepC,Aq]at r
 obtain⟨css,⟨k1,k2,rfl,r1,k3,k4,rfl,r2,rfl⟩,rfl⟩:=r
 obtain⟨d1,m1,d2,m2,e,_⟩:=XK (v:=Ea (FE q) k1) ⟨k1,r1,rfl⟩
 obtain rfl:k3=[Value.nilIface]:=r2
 refine⟨d1,m1,d2,m2,?_,k1,r1,e.symm⟩
 show Value.tuple #[Ea (FE q) k1,Value.nilIface]=_
 rw[e]
theorem Hr {S:List Nat} {A B:World}(h:Tch S A B) {b:Nat} {o:Obj}(hb:A.heap[b]? =some o)(hn:b∉S):B.heap[b]? =some o:=by
 rw[h.blk b (Ak.1 hb).1 hn];exact hb
theorem Qn {p:Pt} {b6 b7 b8:Nat} {O:List Nat} {W0:World} {R:List Nat} {pre:List (List Int)} {A B:World}(h6:b6<W0.heap.size)(h7:b7<W0.heap.size)(h8:b8<W0.heap.size)(hR:∀r∈R,W0.heap.size<=r)(h:oR p b6 b7 b8 O W0 R pre A)(t:Tch R A B):
  oR p b6 b7 b8 O W0 R pre B:=by
 obtain⟨h1,h2⟩:=h
 have n6:b6∉R:=λhm=>by have:=hR _ hm;omega
 have n7:b7∉R:=λhm=>by have:=hR _ hm;omega
 have n8:b8∉R:=λhm=>by have:=hR _ hm;omega
 refine⟨h1.trans0 (t.mono (by simp+contextual)),?_⟩
 split at h2
 ·obtain⟨g1,g2,g3⟩:=h2
  exact⟨Hr t g1 n6,Hr t g2 n7,Hr t g3 n8⟩
 ·obtain⟨u1,u2,u3,g1,g2,g3,g4,g5,g6⟩:=h2
  exact⟨u1,u2,u3,Hr t g1 n6,Hr t g2 n7,Hr t g3 n8,DM (t.mono (by simp+contextual)) g4,DM (t.mono (by simp+contextual)) g5,g6⟩
theorem Vt {W:World} {b:Nat} {t:TypeId} {x y:Value}(h:W.heap[b]? =some (Obj.cells #[x,y] t)) (u v:Value):((W.setCell ⟨b,0,none⟩ u).setCell ⟨b,1,none⟩ v).heap[b]? =some (Obj.cells #[u,v] t):=by
 have one:∀{W:World} {cs:Array Value} (i:Nat) (z:Value),W.heap[b]? =some (Obj.cells cs t)->(W.setCell ⟨b,i,none⟩ z).heap[b]? =some (Obj.cells (cs.setIfInBounds i z) t):=λ{W cs} i z h=>by
  obtain⟨hlt,hk⟩:=Ak.1 h
  show(W.heap.modify b _)[b]? =_
  rw[BS (by rw[Array.size_modify];exact hlt),Array.getElem_modify_self,hk]
  rfl
 exact one 1 v (one 0 u h)
theorem GJ {W:World} {b i k:Nat} {v:Value} {o:Obj}(hne:¬b=k)(h:W.heap[k]? =some o):(W.setCell ⟨b,i,none⟩ v).heap[k]? =some o:=(Below.heap_setCell W ⟨b,i,none⟩ v k (λe=>hne e.symm)).trans h
theorem UW {p:Pt} {b6 b7 b8:Nat} {O R:List Nat} {W7 A2 A4:World} {pre:List (List Int)} {x:List Int} {t6 t6' t7 t8 u v z:Value}(q4:¬b6=b7)(q5:¬b6=b8)(q6:¬b7=b8)
  (tA:Tch ([b6,b7,b8]++R) W7 A2) (T:Tch [] A2 A4) (G6:A4.heap[b6]? =some (Obj.cells #[t6,t6'] 54)) (G7:A4.heap[b7]? =some (Obj.cells #[t7] 22)) (G8:A4.heap[b8]? =some (Obj.cells #[t8] 4))
  (hf:(pre++[x]).foldl (Kj p) none=some (Bl p x,x)) (r1:Rep ([b6,b7,b8]++O++R) A4 (FE (Bl p x)) (.agg #[u,v])) (r2:Rep ([b6,b7,b8]++O++R) A4 (Bn x) z) (hl:(Bl p x).labels.length<=1000/\(Bl p x).edges.length<=1000):
  oR p b6 b7 b8 O W7 R (pre++[x]) ((((A4.setCell ⟨b6,0,none⟩ u).setCell ⟨b6,1,none⟩ v).setCell ⟨b7,0,none⟩ z).setCell ⟨b8,0,none⟩ (.bool false))/\
  Tch ([b6,b7,b8]++O) A2 ((((A4.setCell ⟨b6,0,none⟩ u).setCell ⟨b6,1,none⟩ v).setCell ⟨b7,0,none⟩ z).setCell ⟨b8,0,none⟩ (.bool false)):=by
 have TS:Tch [b6,b7,b8] A4 ((((A4.setCell ⟨b6,0,none⟩ u).setCell ⟨b6,1,none⟩ v).setCell ⟨b7,0,none⟩ z).setCell ⟨b8,0,none⟩ (.bool false)):=
  ((((Tch.refl [b6,b7,b8] A4).andSet (.inl (by simp)) u).andSet (.inl (by simp)) v).andSet (.inl (by simp)) z).andSet (.inl (by simp)) _
 have E6:=GJ (i:=0) (v:=.bool false) (λe=>q5 e.symm) (GJ (i:=0) (v:=z) (λe=>q4 e.symm) (Vt G6 u v))
 have E7:((((A4.setCell ⟨b6,0,none⟩ u).setCell ⟨b6,1,none⟩ v).setCell ⟨b7,0,none⟩ z).setCell ⟨b8,0,none⟩ (.bool false)).heap[b7]? =some (Obj.cells #[z] 22):=
  GJ (λe=>q6 e.symm) (Boxed.set z (GJ q4 (GJ q4 G7)))
 have E8:((((A4.setCell ⟨b6,0,none⟩ u).setCell ⟨b6,1,none⟩ v).setCell ⟨b7,0,none⟩ z).setCell ⟨b8,0,none⟩ (.bool false)).heap[b8]? =some (Obj.cells #[.bool false] 4):=
  Boxed.set (.bool false) (GJ q6 (GJ q5 (GJ q5 G8)))
 refine⟨⟨(tA.then0 T).trans0 (TS.mono (by simp+contextual)),?_⟩,T.ahead0 (TS.mono (by simp+contextual))⟩
 rw[hf]
 exact⟨u,v,z,E6,E7,E8,DM (TS.mono (by simp+contextual)) r1,DM (TS.mono (by simp+contextual)) r2,hl⟩
theorem fR {A2 A3:World}(T3:Tch [] A2 A3) {b6 b8:Nat} {t t' ty:TypeId} {x6 x6' x8:Value}(g6:A2.heap[b6]? =some (Obj.cells #[x6,x6'] t)) (g8:A2.heap[b8]? =some (Obj.cells #[x8] t')) (y y':Value):
  (A3.alloc (Obj.cells #[y,y'] ty)).cell? ⟨b8,0,none⟩=some x8/\(A3.alloc (Obj.cells #[y,y'] ty)).cell? ⟨b6,0,none⟩=some x6/\(A3.alloc (Obj.cells #[y,y'] ty)).cell? ⟨b6,1,none⟩=some x6'/\
  (A3.alloc (Obj.cells #[y,y'] ty)).cell? ⟨A3.heap.size,0,none⟩=some y/\(A3.alloc (Obj.cells #[y,y'] ty)).cell? ⟨A3.heap.size,1,none⟩=some y':=by
 have G6:=BT (T3.andAlloc (Obj.cells #[y,y'] ty)) g6
 have G8:=BT (T3.andAlloc (Obj.cells #[y,y'] ty)) g8
 have G10:=World.alloc_heap_new A3 (Obj.cells #[y,y'] ty)
 refine⟨?_,?_,?_,?_,?_⟩
 ·simp only[World.cell?,G8];rfl
 ·simp only[World.cell?,G6];rfl
 ·simp only[World.cell?,G6];rfl
 ·simp only[World.cell?,G10];rfl
 ·simp only[World.cell?,G10];rfl
theorem ZD {fn:Func} {P:Program} {t u v ty:Nat}(h:fn.results=#[.cell t ty,.tmp u,.tmp v]) {tmps:Array Value} {W:World} {b:Nat} {x:Value} (ht:tmps.getD t undef=.pointer (some ⟨b,0,none⟩)) (hl:(loadVar ty ⟨b,0,none⟩).run P W=.ok x W):
  (results fn tmps).run P W=.ok (.tuple #[x,tmps.getD u undef,tmps.getD v undef]) W:=by
 have hm:(fn.results.mapM (ZE tmps)).run P W=.ok #[x,tmps.getD u undef,tmps.getD v undef] W:=by
  rw[h,fH,Sem.run_map]
  have:(List.mapM (ZE tmps) #[ResultVar.cell t ty,ResultVar.tmp u,ResultVar.tmp v].toList).run P W=.ok [x,tmps.getD u undef,tmps.getD v undef] W:=by
   simp only[List.mapM_cons,List.mapM_nil,ZE,AK,Bo,ht,asAddr,AF,hl]
  rw[this];rfl
 rw[Le,AK,hm]
 simp
theorem cD {q:Pt} {by':List Int} {O X:List Nat} {w W V:World} {b2 D:Nat} {tmps:Array Value} {u v z x2 x2':Value}(hX:∀b∈O,b∈X)(hb2X:b2∈X)(hb2w:w.heap.size<=b2)(hDR:D∈X)(hDw:w.heap.size<=D)(hD2:¬b2=D)
  (TW:Tch [] w W) (TV:Tch [] W V) (r1:Rep X W (FE q) (.agg #[u,v])) (r2:Rep X W (Bn by') z) (hDef:W.heap[D]? =some (.deferred (some []))) (g2:W.heap[b2]? =some (Obj.cells #[x2,x2'] 54))
  (e2:tmps.getD 2 undef=.pointer (some ⟨b2,0,none⟩)) (e3:tmps.getD 3 undef=z) (e4:tmps.getD 4 undef=.nilIface):
  bodyPostM Fence.wide 4 Tryz.prog Tryz.f168 (λe w'=>∃v y,e=Ending.returned v/\y=Da.tuple [FE q,Bn by',Da.nili]/\Rep O w' y v/\Tch [] w w') Exit.ret {tmps:=tmps,defers:=[{target:=.collected D,args:=#[]}]} ((V.setCell ⟨b2,0,none⟩ u).setCell ⟨b2,1,none⟩ v):=by
 have G2:=Vt (BT TV g2) u v
 have GD:((V.setCell ⟨b2,0,none⟩ u).setCell ⟨b2,1,none⟩ v).heap[D]? =some (.deferred (some [])):=GJ hD2 (GJ hD2 (BT TV hDef))
 obtain⟨Y,hY⟩:∃Y,(V.setCell ⟨b2,0,none⟩ u).setCell ⟨b2,1,none⟩ v=Y:=⟨_,rfl⟩
 have TY:Tch [b2] V Y:=by rw[<-hY];exact((Tch.refl [b2] V).andSet (.inl (by simp)) u).andSet (.inl (by simp)) v
 rw[hY]at G2 GD
 rw[hY]
 have TE:Tch [b2,D] W (Y.putObj D (.deferred none)):=((Tch.up (O:=[b2,D]) TV).trans0 (TY.mono (by simp))).trans0 ((DD _ _ _).mono (by simp))
 have hbW:=(Ak.1 g2).1
 have G2':(Y.putObj D (.deferred none)).heap[b2]? =some (Obj.cells #[u,v] 54):=(World.putObj_heap_other (λe=>hD2 e)).trans G2
 have LX:Later X W O (Y.putObj D (.deferred none)):=⟨TE.size,λb hb hn=>TE.blk b hb (λhm=>by
  simp only[Ai,CT,or_false]at hm
  rcases hm with rfl|rfl
  ·exact hn hb2X
  ·exact hn hDR),λb hn _ hm=>hn (hX b hm)⟩
 have TF:Tch [] w (Y.putObj D (.deferred none)):=TW.trans TE (λ_ h=>h) (λx hx=>by
  simp only[Ai,CT,or_false]at hx
  rcases hx with rfl|rfl
  ·exact .inr hb2w
  ·exact .inr hDw)
 refine⟨by simp,.inl ⟨D,_,rfl,run_takeDeferred GD,?_⟩⟩
 have hload:(loadVar 54 ⟨b2,0,none⟩).run Tryz.prog (Y.putObj D (.deferred none))=.ok (.agg #[u,v]) (Y.putObj D (.deferred none)):=by
  have:=Jb (P:=Tryz.prog) (EO.ty (t:=54) rfl) (w:=Y.putObj D (.deferred none)) (b:=b2) (o:=0) (cs:=[u,v]) (λj x hj=>by
   cases j with
   |zero=>simp only[World.cell?,G2'];simpa using hj
   |
    succ j=>
    cases j with
    |zero=>simp only[World.cell?,G2'];simpa using hj
    |succ j=>simp at hj) rfl (by decide)
  exact this
 refine⟨_,ZD Tryz.results168 e2 hload,_,_,rfl,rfl,?_,TF⟩
 rw[e3,e4]
 obtain⟨k1,h1,e1⟩:=r1.later LX
 obtain⟨k2,h2,e2'⟩:=r2.later LX
 refine⟨[_],by simp only[RepC];exact⟨[k1,k2,[.nilIface]],by simp only[Aq];exact⟨k1,_,rfl,h1,k2,_,rfl,h2,[.nilIface],_,rfl,by simp only[RepC],rfl⟩,rfl⟩,?_⟩
 simp only[Bh,List.zipWith_nil_left]
 rw[<-e1,<-e2']
 rfl
set_option maxHeartbeats 1000000 in
theorem R7(p:Pt)(hp:Dp p=none)(hE:p.edges.length<=1000):Pure C1 168 [FE p] (λy=>y=.tuple [FE (Cc p),Bn (LM p),.nili]):=by
 intro O w vs hO hg hr
 obtain⟨v,vs',rfl,hv,hr'⟩:=Cn hr
 obtain rfl:=Ds hr'
 obtain⟨a1,c1,a2,c2,rfl,g1,g2⟩:=XK hv
 refine⟨by kernel_rfl,?_⟩
 show Calls Tryz.prog _ _ _ _
 refine callsIn_wide.1 (callsIn_of_wp_marks (n:=4) Tryz.func168 rfl trivial ?_ rfl)
 simp only[Tryz.ntmps168,BC,Aw,Bt,Nat.reduceAdd,Nat.reduceSub,CX,CW,D8,Dg,BB,AT]
 have hri:=EM p (by have:=(CS (BJ hp).1).1;omega) (by omega)
 rw[Fq hp]at hri
 have T0:Tch [] w ((w.alloc (Obj.cells #[Value.slice a1 p.labels.length c1,Value.slice a2 p.edges.length c2] 54)).alloc (Obj.cells #[Value.slice none 0 0,Value.slice none 0 0] 54)):=(Tch.alloc w _ []).andAlloc _
 have hR:=Pure.at' hri 3 (Gl (Tch.up T0) hO) (Hs (Tch.up T0) hg) (reps_cons (DM (Tch.up T0) hv) reps_nil)
 have B1:((w.alloc (Obj.cells #[Value.slice a1 p.labels.length c1,Value.slice a2 p.edges.length c2] 54)).alloc (Obj.cells #[Value.slice none 0 0,Value.slice none 0 0] 54)).heap[w.heap.size]? =some (Obj.cells #[Value.slice a1 p.labels.length c1,Value.slice a2 p.edges.length c2] 54):=BT (Tch.alloc _ _ []) (World.alloc_heap_new w _)
 have B2:((w.alloc (Obj.cells #[Value.slice a1 p.labels.length c1,Value.slice a2 p.edges.length c2] 54)).alloc (Obj.cells #[Value.slice none 0 0,Value.slice none 0 0] 54)).heap[w.heap.size+1]? =some (Obj.cells #[Value.slice none 0 0,Value.slice none 0 0] 54):=by
  have:=World.alloc_heap_new (w.alloc (Obj.cells #[Value.slice a1 p.labels.length c1,Value.slice a2 p.edges.length c2] 54)) (Obj.cells #[Value.slice none 0 0,Value.slice none 0 0] 54)
  rwa [RO]at this
 gi_wp2_with (refine⟨trivial,?_⟩;gi_at_call 113;refine hR.mono ?_;rintro e W1 ⟨u,y,rfl,rfl,hu,T1⟩;obtain⟨cu,hcu,rfl⟩:=hu;simp only[RepC]at hcu;subst hcu;simp only[Ea,AAW])
 have B1':=BT T1 B1
 have B2':=BT T1 B2
 have T01:=T0.then0 T1
 clear hR B1 B2 T1 T0
 have hw1:=T01.size
 have hb2lt:=(Ak.1 B2').1
 obtain⟨W3,hW3⟩:∃W3,((W1.alloc (Obj.cells #[Value.slice none 0 0,Value.slice none 0 0] 54)).alloc (Obj.cells #[Value.slice none 0 0] 22)).alloc (Obj.cells #[Value.bool true] 4)=W3:=⟨_,rfl⟩
 have T13:Tch [] W1 W3:=by rw[<-hW3];exact((Tch.alloc _ _ []).andAlloc _).andAlloc _
 have hs3:W3.heap.size=W1.heap.size+3:=by rw[<-hW3];simp
 have H1:=BT T13 B1'
 have H2:=BT T13 B2'
 have H6:W3.heap[W1.heap.size]? =some (Obj.cells #[Value.slice none 0 0,Value.slice none 0 0] 54):=by
  rw[<-hW3];exact BT ((Tch.alloc _ _ []).andAlloc _) (World.alloc_heap_new _ _)
 have H7:W3.heap[W1.heap.size+1]? =some (Obj.cells #[Value.slice none 0 0] 22):=by
  rw[<-hW3];refine BT (Tch.alloc _ _ []) ?_
  have:=World.alloc_heap_new (W1.alloc (Obj.cells #[Value.slice none 0 0,Value.slice none 0 0] 54)) (Obj.cells #[Value.slice none 0 0] 22)
  rwa [RO]at this
 have H8:W3.heap[W1.heap.size+1+1]? =some (Obj.cells #[Value.bool true] 4):=by
  rw[<-hW3]
  have:=World.alloc_heap_new ((W1.alloc (Obj.cells #[Value.slice none 0 0,Value.slice none 0 0] 54)).alloc (Obj.cells #[Value.slice none 0 0] 22)) (Obj.cells #[Value.bool true] 4)
  rwa [RO,RO]at this
 have T3:=T01.then0 T13
 rw[hW3]
 clear hW3 T13 B1' B2'
 obtain⟨b1,hb1⟩:∃b,w.heap.size=b:=⟨_,rfl⟩
 obtain⟨b6,hb6⟩:∃b,W1.heap.size=b:=⟨_,rfl⟩
 obtain⟨b2,hb2⟩:∃b,b1+1=b:=⟨_,rfl⟩
 obtain⟨b7,hb7⟩:∃b,b6+1=b:=⟨_,rfl⟩
 obtain⟨b8,hb8⟩:∃b,b7+1=b:=⟨_,rfl⟩
 rw[hb6,hb7,hb8]at H8
 rw[hb1,hb2]at H2
 rw[hb1,hb2]at hb2lt
 rw[hb1]at H1
 rw[hb6,hb7]at H7
 rw[hb6]at H6
 rw[hb6]at hb2lt
 simp only[hb1,hb6]
 simp only[hb2,hb7]
 simp only[hb8]
 have hSl:=QS p.labels
 have h8:=(CS (BJ hp).1).1
 have d6:b6<W3.heap.size:=by omega
 have d7:b7<W3.heap.size:=by omega
 have d8:b8<W3.heap.size:=by omega
 obtain⟨O3,hO3⟩:∃O3,[b6,b7,b8]++(b2::O)=O3:=⟨_,rfl⟩
 have LO:Later O w O3 W3:=Np T3 (λx hx=>by
  rw[<-hO3]at hx
  simp only[AT,BB,Ai]at hx
  rcases hx with rfl|rfl|rfl|rfl|hx
  ·left;omega
  ·left;omega
  ·left;omega
  ·left;omega
  ·exact .inr hx)
 have hO':∀b∈O3,b<W3.heap.size:=λb hb=>by
  rw[<-hO3]at hb
  simp only[AT,BB,Ai]at hb
  rcases hb with rfl|rfl|rfl|rfl|hb
  ·exact d6
  ·exact d7
  ·exact d8
  ·omega
  ·have:=hO b hb;have:=T3.size;omega
 have hg':Glob C1 O3 W3:=Gh LO hg
 have hv':Rep O3 W3 (FE p) _:=hv.later LO
 have g1':Rep O3 W3 (Bn p.labels) _:=g1.later LO
 refine wpIn_wide.2 ?_
 refine LP [71,70,225] [1,0,1,2,2,2] [1,0,2,3,4,5] [0,0,2,6,14,31] (by kernel_rfl) (by kernel_rfl) ?_
 intro W4 T4
 have T34:=T4
 have G1:=BT T4 H1
 have e1:W4.cell? ⟨b1,0,none⟩=some (Value.slice a1 p.labels.length c1):=by simp only[World.cell?,G1];rfl
 have e2:W4.cell? ⟨b1,1,none⟩=some (Value.slice a2 p.edges.length c2):=by simp only[World.cell?,G1];rfl
 have hV:=Pure.at' (Ig p.labels) 3 (Gl (Tch.up T34) hO') (Hs (Tch.up T34) hg') (reps_cons (DM (Tch.up T34) g1') reps_nil)
 go_wp2_with (first|(refine Cv rfl rfl rfl rfl (λ_ _=>?_))|(refine Du rfl rfl rfl (λ_ _=>?_)))
 refine EJ rfl rfl rfl (λK1 hK1=>?_)
 go_wp2_with (go_at_call 71;refine(callsIn_wide.1 hV).mono ?_;rintro e W5 ⟨u5,y,rfl,rfl,hu5,T5⟩)
 refine hK1 _ _ T5.ext ?_
 have T35:=T34.then0 T5
 have hS:=Pure.at' (Ma p.labels (by omega)) 3 (Gl (Tch.up T35) hO') (Hs (Tch.up T35) hg') (reps_cons hu5 reps_nil)
 refine EJ rfl rfl rfl (λK2 hK2=>?_)
 go_wp2_with (go_at_call 70;refine(callsIn_wide.1 hS).mono ?_;rintro e W6 ⟨u6,y,rfl,rfl,hu6,T6⟩)
 refine hK2 _ _ T6.ext ?_
 have T36:=T35.then0 T6
 have hOr:=Pure.at' (Sp p (sortI p.labels)) 3 (Gl (Tch.up T36) hO') (Hs (Tch.up T36) hg') (reps_cons (DM (Tch.up T36) hv') (reps_cons hu6 reps_nil))
 refine EJ rfl rfl rfl (λK3 hK3=>?_)
 go_wp2_with (go_at_call 225;refine(callsIn_wide.1 hOr).mono ?_;rintro e W7 ⟨u7,y,rfl,rfl,hu7,T7⟩)
 refine hK3 _ _ T7.ext ?_
 go_wp2_with (first|(refine Cv rfl rfl rfl rfl (λ_ _=>?_))|refine GN ?_)
 have T37:=T36.then0 T7
 have F1:=BT T37 H1
 have F2:=BT T37 H2
 have F6:=BT T37 H6
 have F7:=BT T37 H7
 have F8:=BT T37 H8
 have hs7:=T37.size
 have hO7:=Gl (Tch.up T37) hO'
 have hg7:=Hs (Tch.up (O:=O3) T37) hg'
 have hv7:=DM (Tch.up (O:=O3) T37) hv'
 have TW:=T3.then0 T37
 clear hV hS hOr hK1 hK2 hK3 e1 e2 G1
 refine wpIn_block ?_
 refine Tn (C:=C1) (Oi p) O3 hO7 rfl (λW t hs=>?_) (λR S pre W=>S=O3/\oR p b6 b7 b8 (b2::O) W7 R pre W) (λ_ _ _ _=>False) (λR S pre A B hR h t=>⟨h.1,Qn (by omega) (by omega) (by omega) hR h.2 t⟩) (λ_ _ _ _ _ _ h _=>h) (λR W hR t=>⟨rfl,?_⟩) ?_ ?_ (λ_ _ _ _ _ _ _ _ _ _ h=>h.elim)
 ·have LW:Later O3 W7 (W7.heap.size::(W7.heap.size+1)::O3) W:=Np t (λx hx=>by
   rcases Ai.1 hx with rfl|hx
   ·left;omega
   rcases Ai.1 hx with rfl|hx
   ·left;omega
   ·exact .inr hx)
  exact Uu h8 (by omega) (λb hb=>by
   rcases Ai.1 hb with rfl|hb
   ·omega
   rcases Ai.1 hb with rfl|hb
   ·omega
   ·have:=hO7 b hb;omega) (Gh LW hg7) (hu7.later LW)
 ·exact⟨t.mono (by simp),BT t F6,BT t F7,BT t F8⟩
 ·intro l R S pre x v A hl hlR hR hSA hSR hI hpx hrep hsz hRA
  obtain⟨hSO,hI⟩:=hI
  rw[hSO]at hrep
  rw[hSO]
  clear hSA hSR hSO
  rw[show C1.P=Tryz.prog from rfl]
  obtain⟨av,cv,rfl,_,_⟩:=Dv hrep
  gi_wp2
  refine⟨Tch.refl _ _,λA2 TA2=>?_⟩
  have hI2:=Qn (by omega) (by omega) (by omega) hR hI (TA2.mono (T:=R) (by simpa using hlR))
  have hrep2:=DM (TA2.mono (T:=O3++R) (by simp[hlR])) hrep
  have hRA2:∀r∈R,r<A2.heap.size:=λr hr=>Bq (hRA r hr) TA2.size
  clear hI hrep hRA TA2 hsz
  obtain⟨tA,hst⟩:=hI2
  have n1:b1∉[b6,b7,b8]++R:=λhm=>by
   simp only[AT,BB,Ai]at hm
   rcases hm with hm|hm|hm|hm
   ·omega
   ·omega
   ·omega
   ·have:=hR _ hm;omega
  have A1:=Hr tA F1 n1
  have LA:Later O3 W7 (O3++R) A2:=⟨tA.size,λb hb hn=>tA.blk b hb (λhm=>by
   rcases Ag.1 hm with hm|hm
   ·exact hn (by rw[<-hO3];exact Au _ hm)
   ·have:=hR _ hm;omega),λb hn hb hm=>by
   rcases Ag.1 hm with hm|hm
   ·exact hn hm
   ·have:=hR _ hm;omega⟩
  have hOA:∀b∈O3++R,b<A2.heap.size:=λb hb=>by
   rcases Ag.1 hb with hb|hb
   ·have:=hO7 b hb;have:=tA.size;omega
   ·exact hRA2 b hb
  have hxm:x∈Oi p:=hpx.subset (by simp)
  have hord:=(Ru (n:=p.labels.length) ⟨rfl,(BJ hp).2.1,(BJ hp).2.2⟩).1 hxm
  have hTu:=Pure.at' (Um p hp hE x ((Yc (by rw[hord.1.1];omega)).2 (by rw[hord.1.1];exact hord.1)) hord.1.1) 1 hOA (Gh LA hg7) (reps_cons (hv7.later LA) (reps_cons hrep2 reps_nil))
  have e1:A2.cell? ⟨b1,0,none⟩=some (Value.slice a1 p.labels.length c1):=by simp only[World.cell?,A1];rfl
  have e2:A2.cell? ⟨b1,1,none⟩=some (Value.slice a2 p.edges.length c2):=by simp only[World.cell?,A1];rfl
  have hTu:CallsIn Fence.wide 1 Tryz.prog 226 _ A2 _:=hTu.mono (R':=λe B=>∃d1 m1 d2 m2,e=.returned (.tuple #[.agg #[.slice d1 (Bl p x).labels.length m1,.slice d2 (Bl p x).edges.length m2],.nilIface])/\Rep (O3++R) B (FE (Bl p x)) (.agg #[.slice d1 (Bl p x).labels.length m1,.slice d2 (Bl p x).edges.length m2])/\Tch [] A2 B) (by
   rintro e B ⟨u,y,rfl,rfl,hu,t⟩
   obtain⟨d1,m1,d2,m2,rfl,h⟩:=Uk hu
   exact⟨d1,m1,d2,m2,rfl,h,t⟩)
  split at hst
  ·rename_i hfold
   obtain⟨g6,g7,g8⟩:=hst
   gi_wp2_with (refine⟨trivial,?_⟩;gi_at_call 226;refine(CallsIn.inRound l hTu).mono ?_;rintro e A3 ⟨d1,m1,d2,m2,rfl,huT,T3⟩;have G6:=BT (T3.andAlloc (Obj.cells #[Value.slice d1 (Bl p x).labels.length m1,Value.slice d2 (Bl p x).edges.length m2] 54)) g6;have G7:=BT (T3.andAlloc (Obj.cells #[Value.slice d1 (Bl p x).labels.length m1,Value.slice d2 (Bl p x).edges.length m2] 54)) g7;have G8:=BT (T3.andAlloc (Obj.cells #[Value.slice d1 (Bl p x).labels.length m1,Value.slice d2 (Bl p x).edges.length m2] 54)) g8;have E8:(A3.alloc (Obj.cells #[Value.slice d1 (Bl p x).labels.length m1,Value.slice d2 (Bl p x).edges.length m2] 54)).cell? ⟨b8,0,none⟩=some (Value.bool true):=by(simp only[World.cell?,G8];rfl))
   refine⟨trivial,?_⟩
   obtain⟨A4,hA4⟩:∃A4,A3.alloc (Obj.cells #[Value.slice d1 (Bl p x).labels.length m1,Value.slice d2 (Bl p x).edges.length m2] 54)=A4:=⟨_,rfl⟩
   have T4:Tch [] A3 A4:=by rw[<-hA4];exact Tch.alloc _ _ _
   have G10:A4.heap[A3.heap.size]? =some (Obj.cells #[Value.slice d1 (Bl p x).labels.length m1,Value.slice d2 (Bl p x).edges.length m2] 54):=by rw[<-hA4];exact World.alloc_heap_new _ _
   rw[hA4]at G6 G7 G8 E8
   rw[hA4]
   obtain⟨b10,hb10⟩:∃b,A3.heap.size=b:=⟨_,rfl⟩
   rw[hb10]at G10
   simp only[hb10]
   have hs23:=T3.size
   have hsA:=tA.size
   have q1:¬b10=b6:=by omega
   have q2:¬b10=b7:=by omega
   have q3:¬b10=b8:=by omega
   have q4:¬b6=b7:=by omega
   have q5:¬b6=b8:=by omega
   have q6:¬b7=b8:=by omega
   have q4':¬b7=b6:=by omega
   have q5':¬b8=b6:=by omega
   have q6':¬b8=b7:=by omega
   have c10:A4.cell? ⟨b10,0,none⟩=some (Value.slice d1 (Bl p x).labels.length m1):=by simp only[World.cell?,G10];rfl
   have c10':A4.cell? ⟨b10,1,none⟩=some (Value.slice d2 (Bl p x).edges.length m2):=by simp only[World.cell?,G10];rfl
   have c6:A4.cell? ⟨b6,0,none⟩=some (Value.slice none 0 0):=by simp only[World.cell?,G6];rfl
   have c6':A4.cell? ⟨b6,1,none⟩=some (Value.slice none 0 0):=by simp only[World.cell?,G6];rfl
   have c7:A4.cell? ⟨b7,0,none⟩=some (Value.slice none 0 0):=by simp only[World.cell?,G7];rfl
   have f6:A4.frozen? ⟨b6,0,none⟩=false:=by simp[World.frozen?,G6]
   have f6':A4.frozen? ⟨b6,1,none⟩=false:=by simp[World.frozen?,G6]
   have f7:A4.frozen? ⟨b7,0,none⟩=false:=by simp[World.frozen?,G7]
   have f8:A4.frozen? ⟨b8,0,none⟩=false:=by simp[World.frozen?,G8]
   clear hA4
   gi_wp2
   have hfold2:(pre++[x]).foldl (Kj p) none=some (Bl p x,x):=by rw[EF,hfold];rfl
   have hpo:PtOk p.labels.length p:=⟨rfl,(BJ hp).2.1,(BJ hp).2.2⟩
   have:=UW (O:=b2::O) q4 q5 q6 tA (T3.then0 T4) G6 G7 G8 hfold2 (by rw[hO3];exact DM (Tch.up T4) huT) (by rw[hO3];exact DM (Tch.up (T3.then0 T4)) hrep2) ⟨by rw[Fb];omega,by rw[Hk hord.1 hpo];exact hE⟩
   rw[hO3]at this
   exact⟨O3,Grow.same this.2 (λb hb=>hOA b (Au _ hb)),rfl,this.1⟩
  ·rename_i q b hfold
   obtain⟨u1,u2,u3,g6,g7,g8,r6,r7,hq1,hq2⟩:=hst
   obtain⟨s1,n1',s2,n2',eu,_⟩:=XK r6
   simp only[Value.agg.injEq,Array.mk.injEq,D2,and_true]at eu
   obtain⟨rfl,rfl⟩:=eu
   gi_wp2_with (refine⟨trivial,?_⟩;gi_at_call 226;refine(CallsIn.inRound l hTu).mono ?_;rintro e A3 ⟨d1,m1,d2,m2,rfl,huT,T3⟩;obtain⟨E8,E6,E6',E10,E10'⟩:=fR (ty:=54) T3 g6 g8 (Value.slice d1 (Bl p x).labels.length m1) (Value.slice d2 (Bl p x).edges.length m2))
   obtain⟨A4,hA4⟩:∃A4,A3.alloc (Obj.cells #[Value.slice d1 (Bl p x).labels.length m1,Value.slice d2 (Bl p x).edges.length m2] 54)=A4:=⟨_,rfl⟩
   have T4:Tch [] A3 A4:=by rw[<-hA4];exact Tch.alloc _ _ _
   have T24:=T3.then0 T4
   have G10:A4.heap[A3.heap.size]? =some (Obj.cells #[Value.slice d1 (Bl p x).labels.length m1,Value.slice d2 (Bl p x).edges.length m2] 54):=by rw[<-hA4];exact World.alloc_heap_new _ _
   rw[hA4]
   rw[hO3]at r6 r7
   have hTuA:Tch (O3++R) A2 A4:=Tch.up T24
   have hpo:PtOk p.labels.length p:=⟨rfl,(BJ hp).2.1,(BJ hp).2.2⟩
   have hl1:(Bl p x).labels.length<=1000:=by rw[Fb];omega
   have hl2:(Bl p x).edges.length<=1000:=by rw[Hk hord.1 hpo];exact hE
   have hCm:=Pure.at' (Hp (Bl p x) q (by omega) (by omega) (by omega) (by omega)) 1 (Gl hTuA hOA) (Hs hTuA (Gh LA hg7)) (reps_cons (DM (Tch.up T4) huT) (reps_cons (DM hTuA r6) reps_nil))
   have hCm:CallsIn Fence.wide 1 Tryz.prog 10 _ A4 _:=hCm.mono (R':=λe B=>e=.returned (.int .i64 (Dw (Bl p x) q))/\Tch [] A4 B) (by
    rintro e B ⟨u,y,rfl,rfl,hu,t⟩
    obtain⟨cs,hcs,rfl⟩:=hu
    simp only[RepC]at hcs
    subst hcs
    exact⟨rfl,t⟩)
   refine⟨trivial,(CallsIn.inRound l hCm).mono ?_⟩
   rintro e A5 ⟨rfl,T5⟩
   have T25:=T24.then0 T5
   have G6:=BT T25 g6
   have G7:=BT T25 g7
   have G8:=BT T25 g8
   have G10:=BT T5 G10
   obtain⟨b10,hb10⟩:∃b,A3.heap.size=b:=⟨_,rfl⟩
   rw[hb10]at G10
   simp only[hb10]
   have hs23:=T3.size
   have hsA:=tA.size
   have q1:¬b10=b6:=by omega
   have q2:¬b10=b7:=by omega
   have q3:¬b10=b8:=by omega
   have q4:¬b6=b7:=by omega
   have q5:¬b6=b8:=by omega
   have q6:¬b7=b8:=by omega
   have q4':¬b7=b6:=by omega
   have q5':¬b8=b6:=by omega
   have q6':¬b8=b7:=by omega
   have c10:A5.cell? ⟨b10,0,none⟩=some (Value.slice d1 (Bl p x).labels.length m1):=by simp only[World.cell?,G10];rfl
   have c10':A5.cell? ⟨b10,1,none⟩=some (Value.slice d2 (Bl p x).edges.length m2):=by simp only[World.cell?,G10];rfl
   have f6:A5.frozen? ⟨b6,0,none⟩=false:=by simp[World.frozen?,G6]
   have f6':A5.frozen? ⟨b6,1,none⟩=false:=by simp[World.frozen?,G6]
   have f7:A5.frozen? ⟨b7,0,none⟩=false:=by simp[World.frozen?,G7]
   have f8:A5.frozen? ⟨b8,0,none⟩=false:=by simp[World.frozen?,G8]
   have c6:A5.cell? ⟨b6,0,none⟩=some (Value.slice s1 q.labels.length n1'):=by simp only[World.cell?,G6];rfl
   have c6':A5.cell? ⟨b6,1,none⟩=some (Value.slice s2 q.edges.length n2'):=by simp only[World.cell?,G6];rfl
   have c7:A5.cell? ⟨b7,0,none⟩=some u3:=by simp only[World.cell?,G7];rfl
   have c8:A5.cell? ⟨b8,0,none⟩=some (Value.bool false):=by simp only[World.cell?,G8];rfl
   clear hA4 E8 E6 E6' E10 E10'
   by_cases hlt:Dw (Bl p x) q<0
   ·have hfold2:(pre++[x]).foldl (Kj p) none=some (Bl p x,x):=by rw[EF,hfold];simp only[AAX,List.foldl_nil,Kj];rw[if_pos hlt]
    gi_wp2
    have:=UW (O:=b2::O) q4 q5 q6 tA T25 G6 G7 G8 hfold2 (by rw[hO3];exact DM (Tch.up (T4.then0 T5)) huT) (by rw[hO3];exact DM (Tch.up T25) hrep2) ⟨hl1,hl2⟩
    rw[hO3]at this
    exact⟨O3,Grow.same this.2 (λb hb=>hOA b (Au _ hb)),rfl,this.1⟩
   ·have hfold2:(pre++[x]).foldl (Kj p) none=some (q,b):=by rw[EF,hfold];simp only[AAX,List.foldl_nil,Kj];rw[if_neg hlt]
    gi_wp2
    refine⟨O3,Grow.same (Tch.up T25) (λb hb=>hOA b (Au _ hb)),rfl,tA.then0 T25,?_⟩
    rw[hfold2]
    rw[hO3]
    exact⟨_,_,_,G6,G7,G8,DM (Tch.up T25) r6,DM (Tch.up T25) r7,hq1,hq2⟩
 ·intro D R S W hD hDR hR hSR hI ht hDef
  gi_wp2
  have hpo:PtOk p.labels.length p:=⟨rfl,(BJ hp).2.1,(BJ hp).2.2⟩
  obtain⟨_,tW,hst⟩:=hI
  rw[show(Oi p).foldl (Kj p) none=some (Cc p,LM p)from(Hb hpo).1]at hst
  obtain⟨u1,u2,u3,g6,g7,g8,r6,r7,_,_⟩:=hst
  obtain⟨s1,n1',s2,n2',eu,_⟩:=XK r6
  simp only[Value.agg.injEq,Array.mk.injEq,D2,and_true]at eu
  obtain⟨rfl,rfl⟩:=eu
  obtain⟨s3,n3',rfl,_,_⟩:=Dv (l:=LM p) r7
  have n2:b2∉[b6,b7,b8]++R:=λhm=>by
   simp only[AT,BB,Ai]at hm
   rcases hm with hm|hm|hm|hm
   ·omega
   ·omega
   ·omega
   ·have:=hR _ hm;omega
  have g2':=Hr tW F2 n2
  refine wpIn_wide.2 ?_
  refine Pu [] [1,1,3,0,0] 1 2 [0,1,2,3,4] [0,0,3,7,15] [0,2,1,3,4] [0,5,1,7,15] (by kernel_rfl) (by decide) (by kernel_rfl) (by kernel_rfl) ?_ ?_
  ·intro V TV
   have c6:V.cell? ⟨b6,0,none⟩=some (Value.slice s1 (Cc p).labels.length n1'):=by simp only[World.cell?,BT TV g6];rfl
   have c6':V.cell? ⟨b6,1,none⟩=some (Value.slice s2 (Cc p).edges.length n2'):=by simp only[World.cell?,BT TV g6];rfl
   have c7:V.cell? ⟨b7,0,none⟩=some (Value.slice s3 (LM p).length n3'):=by simp only[World.cell?,BT TV g7];rfl
   have c2:V.cell? ⟨b2,0,none⟩=some (Value.slice none 0 0):=by simp only[World.cell?,BT TV g2'];rfl
   have c2':V.cell? ⟨b2,1,none⟩=some (Value.slice none 0 0):=by simp only[World.cell?,BT TV g2'];rfl
   have f2:V.frozen? ⟨b2,0,none⟩=false:=by simp[World.frozen?,BT TV g2']
   have f2':V.frozen? ⟨b2,1,none⟩=false:=by simp[World.frozen?,BT TV g2']
   have q27:¬b2=b7:=by omega
   have q72:¬b7=b2:=by omega
   have HTV:=Ga TV
   clear TV
   go_wp2_with (first|(refine Cv rfl rfl rfl rfl (λ_ _=>?_))|(refine Du rfl rfl rfl (λ_ _=>?_)))
   refine Hj rfl rfl rfl (λK1 hK1=>?_)
   go_wp2_with (first|(refine Cv rfl rfl rfl rfl (λ_ _=>?_))|(refine Du rfl rfl rfl (λ_ _=>?_))|refine GN ?_)
   gi_wp2
   exact cD (X:=O3++R) (λb hb=>Au _ (by rw[<-hO3];simp[hb])) (Au _ (by rw[<-hO3];simp)) (by omega) (Av _ hDR) (by omega) (by omega) (TW.trans tW (λ_ h=>h) (λx hx=>by
    simp only[AT,BB,Ai]at hx
    rcases hx with hx|hx|hx|hx
    ·right;omega
    ·right;omega
    ·right;omega
    ·right;have:=hR _ hx;omega)) HTV.out (by rw[<-hO3];exact r6) (by rw[<-hO3];exact r7) hDef g2' rfl rfl rfl
  ·intro V TV
   have c6:V.cell? ⟨b6,0,none⟩=some (Value.slice s1 (Cc p).labels.length n1'):=by simp only[World.cell?,BT TV g6];rfl
   have c6':V.cell? ⟨b6,1,none⟩=some (Value.slice s2 (Cc p).edges.length n2'):=by simp only[World.cell?,BT TV g6];rfl
   have c7:V.cell? ⟨b7,0,none⟩=some (Value.slice s3 (LM p).length n3'):=by simp only[World.cell?,BT TV g7];rfl
   have c2:V.cell? ⟨b2,0,none⟩=some (Value.slice none 0 0):=by simp only[World.cell?,BT TV g2'];rfl
   have c2':V.cell? ⟨b2,1,none⟩=some (Value.slice none 0 0):=by simp only[World.cell?,BT TV g2'];rfl
   have f2:V.frozen? ⟨b2,0,none⟩=false:=by simp[World.frozen?,BT TV g2']
   have f2':V.frozen? ⟨b2,1,none⟩=false:=by simp[World.frozen?,BT TV g2']
   have q27:¬b2=b7:=by omega
   have q72:¬b7=b2:=by omega
   have HTV:=Ga TV
   clear TV
   go_wp2_with (first|(refine Cv rfl rfl rfl rfl (λ_ _=>?_))|(refine Du rfl rfl rfl (λ_ _=>?_)))
   refine Hj rfl rfl rfl (λK1 hK1=>?_)
   go_wp2_with (first|(refine Cv rfl rfl rfl rfl (λ_ _=>?_))|(refine Du rfl rfl rfl (λ_ _=>?_))|refine GN ?_)
   gi_wp2
   exact cD (X:=O3++R) (λb hb=>Au _ (by rw[<-hO3];simp[hb])) (Au _ (by rw[<-hO3];simp)) (by omega) (Av _ hDR) (by omega) (by omega) (TW.trans tW (λ_ h=>h) (λx hx=>by
    simp only[AT,BB,Ai]at hx
    rcases hx with hx|hx|hx|hx
    ·right;omega
    ·right;omega
    ·right;omega
    ·right;have:=hR _ hx;omega)) HTV.out (by rw[<-hO3];exact r6) (by rw[<-hO3];exact r7) hDef g2' rfl rfl rfl
end Go.Proofs.YtjpmmkodoeipmaaGreatDoor
end
section
namespace Go.Gr
open Go.Proofs.YtjpmmkodoeipmaaGreatDoor
theorem cN:∀n,0<Y0 n
 |0=>by decide
 |n+1=>Nat.mul_pos (by omega) (cN n)
theorem ACb:∀n,n<=8->Y0 n<=40320:=by decide
end Go.Gr
namespace Go.Proofs.YtjpmmkodoeipmaaGreatDoor
open Go.Sx Go.RowKit Go.Reg Go.Gr
set_option maxRecDepth 100000
structure OfI(n:Nat)(s:Nat×Int×List Int×List Int×Nat):Prop where
 z:s.2.1=(s.1:Int)-1
 len:s.2.2.2.1.length=s.1
 all:(s.2.2.1++s.2.2.2.1).Perm (bS n)
 rank:s.2.2.2.2<Y0 s.1
end Go.Proofs.YtjpmmkodoeipmaaGreatDoor
end
section
namespace Go.Proofs.YtjpmmkodoeipmaaGreatDoor
open Go.Sx Go.RowKit Go.Reg Go.Gr
set_option maxRecDepth 100000
theorem lL {p:Pt}(hp:Dp p=none):PtOk p.labels.length p:=⟨rfl,(BJ hp).2.1,(BJ hp).2.2⟩
theorem uE {p:Pt}(hp:Dp p=none) {b:List Int}(hb:C2 p.labels.length b):Dp (Bl p b)=none:=by
 have hl:=CS (BJ hp).1
 exact nP (Ij hb (lL hp)) hl.1 λx hx=>hl.2 x ((P0 (lL hp) hb).mem_iff.1 hx)
theorem KN {p:Pt}(hp:Dp p=none):Dp (Cc p)=none:=by
 obtain⟨_,h1,h2,_⟩:=Hb (lL hp)
 rw[h2];exact uE hp h1
def AF6:List FuncId:=[168]
theorem lQ {p:Pt}(hp:Dp p=none):Pure C1 117 [FE p] (λy=>y=FE (Cc p)):=by
 have hf:=R7 p hp (by have:=(Mm hp).2;omega)
 refine AW Tryz.func117 Tryz.ntmps117 AF6 [] ?_
 (conv=>whnf)
 (repeat' ((first|refine Aj ?_ ?_|refine Af rfl hf ?_|refine nx ?_|refine AD (λ_=>?_) (λ_=>?_)|exact AG)<;>conv=>whnf))
 exact rfl
def L8(l:List (Pt×Int)):Prop:=(∀x∈l,Dp x.1=none/\0<=x.2)/\GF l<=4611686018427387000/\l.length<=50000
def iI:List (Nat×Plan):=[(4,.leaf [0,0,0,1,2,0,1,3,0] [0,1,2,5,3,6,4,7,8] [0,0,0,4,14,0,32,127,255])]
def ADu:List FuncId:=[]
theorem ACw:CH Tryz.prog ADu iI (Tryz.f116.body.getD .skip)=true:=by kernel_rfl
theorem ABv(vs:Array Value)(w:World):(callFunc 116 vs).run C1.P w=.ok (.enter 116 vs) w:=by kernel_rfl
theorem AEm(g:FuncId)(u:Pt->Pt)(hg:∀p,Dp p=none->Dp (u p)=none/\Pure C1 g [FE p] (λy=>y=FE (u p)))(s l:List (Pt×Int))(m:List (ByteArray×RowV))(X:List (Value×Da))(ht:MT s m)(hs:L8 s)(ho:GA Dw s)(hl:L8 l):
  DZ C3 116 [.own 900,.d (dRs l),.d (.func (.func g) [] [])] (sT m X) [900] (λd σ=>∃z:List (ByteArray×RowV)×List (Value×Da),d=.d .nili/\σ=sT z.1 z.2/\MT (HV Dw u s l) z.1):=by
 have hlm:(l.map D0).length=l.length:=Ac _
 have hl3:=hl.2.2
 refine Mj I7 (pl:=iI) (G:=ADu) Tryz.func116 rfl Tryz.ntmps116 ABv ACw (by simp) 999 rfl ?_
 intro vs
 (conv=>whnf)
 ((conv=>whnf);repeat' ((first|refine odw ?_|refine nx ?_|refine AD (λ_=>?_) (λ_=>?_))<;>conv=>whnf))
 refine AR (ι:=Nat×List (ByteArray×RowV)×List (Value×Da)) (λx=>x.1<=l.length/\MT (HV Dw u s (l.take x.1)) x.2.1) (λx=>[(12,.d (.int .i64 x.1)),(11,.d (.int .i64 (l.map D0).length)),(10,.d (dRs l)),(2,.d (.func (.func g) [] [])),(0,.own 900)])
  (λx=>(999,.ghost vs [.own 900])::sT x.2.1 x.2.2) (λx=>l.length-x.1) (0,m,X) (λ_=>rfl) ⟨Am _,ht⟩ (.refl _ _) ⟨rfl,rfl,rfl,rfl,rfl,trivial⟩ ⟨rfl,rfl,rfl,trivial⟩ ?_
 rintro⟨i,m,X⟩ ⟨hi,hT⟩
 simp only at hi hT
 refine Hf [] iI ?_
 by_cases hlt:i<l.length
 ·have hx:l[i]? =some l[i]:=Ab hlt
  have hxm:=hl.1 _ (A8 hx)
  have htk:l.take (i+1)=l.take i++[l[i]]:=by rw[Ay,hx];rfl
  generalize l[i]=x at hx hxm htk
  have hxd:(l.map D0)[i]? =some (.agg [.agg [Bn x.1.labels,Fa x.1.edges],.int .i64 x.2]):=by rw[Ad,hx];rfl
  obtain⟨he,hgp⟩:=hg x.1 hxm.1
  have hgp:=Pure.up3 hgp
  obtain⟨t1,t2,_,_,_⟩:=uB Hl u (l:=l.take i) (λy hy=>(hl.1 y (DP hy)).2) (λy hy=>(hs.1 y hy).2) ho
  obtain⟨g1,g2,g3⟩:=pH (λy hy=>(hl.1 y hy).2) hx
  have had:=mD X hT he (n:=x.2) hxm.2 t2 (by rw[t1];have:=hs.2.1;have:=hl.2.1;omega)
  rw[<-uC,<-htk]at had
  (conv=>whnf)
  (repeat' ((first|refine Aj ?_ ?_|refine AP hxd rfl ?_|refine Af rfl hgp ?_|refine nx ?_|refine AD (λ_=>?_) (λ_=>?_)|exact AG)<;>conv=>whnf))
  refine IT [] [900,901] had (λd σ h=>h) rfl rfl rfl rfl rfl rfl (λ_=>rfl) ?_
  rintro⟨m',X'⟩ hT'
  ((conv=>whnf);repeat' ((first|refine odw ?_|refine nx ?_|refine AD (λ_=>?_) (λ_=>?_))<;>conv=>whnf))
  exact⟨(i+1,m',X'),_,_,⟨hlt,hT'⟩,.refl _ _,⟨rfl,rfl,rfl,rfl,rfl,trivial⟩,⟨rfl,rfl,rfl,trivial⟩,by simp only;omega⟩
 ·have e:l.take i=l:=Al (by omega)
  rw[e]at hT
  ((conv=>whnf);repeat' ((first|refine odw ?_|refine nx ?_|refine AD (λ_=>?_) (λ_=>?_))<;>conv=>whnf))
  exact⟨_,_,[],sT m X,.lo (.refl _ _),rfl,⟨rfl,rfl,trivial⟩,rfl,(m,X),rfl,rfl,hT⟩
theorem gQ:L8 []:=⟨λx hx=>(by cases hx),by decide,Am _⟩
theorem Ox {l:List (Pt×Int)}(h:L8 l):∀x∈l,x.1.labels.length<=1000/\x.1.edges.length<=1000:=λx hx=>(AEz (h.1 x hx).1).1
def xJ:List (Nat×Plan):=[]
def ADs:List FuncId:=[]
theorem ACt:CH Tryz.prog ADs xJ (Tryz.f68.body.getD .skip)=true:=by kernel_rfl
theorem ABr(vs:Array Value)(w:World):(callFunc 68 vs).run C1.P w=.ok (.enter 68 vs) w:=by kernel_rfl
theorem nW(l:List (Pt×Int))(m:List (ByteArray×RowV))(X:List (Value×Da))(ht:MT l m)(hl:L8 l):
  DZ C3 68 [.own 900] (sT m X) [900] (λd σ=>∃z:List (ByteArray×RowV)×List (Value×Da),d=.tuple [.own 920,.d .nili]/\σ=sT m []++[(920,.cells 185 [.own 921]),(921,(G5 N5 z.1 z.2).own)]/\MT (HV Dw Cc [] l) z.1):=by
 have hrw:=Tr l m X ht (by have:=hl.2.2;omega) (Ox hl)
 have hall:=AEm 117 Cc (λp hp=>⟨KN hp,lQ hp⟩) [] l [] [] Tv gQ .nil hl
 refine Mj I7 (pl:=xJ) (G:=ADs) Tryz.func68 rfl Tryz.ntmps68 ABr ACt (by simp) 999 rfl ?_
 intro vs
 (conv=>whnf)
 ((conv=>whnf);repeat' ((first|refine odw ?_|refine nx ?_|refine AD (λ_=>?_) (λ_=>?_))<;>conv=>whnf))
 refine Iu [(920,900),(921,901)] [] mA rfl rfl rfl rfl rfl rfl rfl ?_
 (conv=>whnf)
 ((conv=>whnf);repeat' ((first|refine odw ?_|refine nx ?_|refine AD (λ_=>?_) (λ_=>?_))<;>conv=>whnf))
 refine Iu [] [900,901] hrw rfl rfl rfl rfl rfl rfl rfl ?_
 (conv=>whnf)
 (repeat' ((first|refine Aj ?_ ?_|refine Dx 910 rfl ?_|refine nx ?_|refine AD (λ_=>?_) (λ_=>?_)|exact AG)<;>conv=>whnf))
 refine IT [(920,900),(921,901)] [920,921] hall (λd σ h=>h) rfl rfl rfl rfl rfl rfl (λ_=>rfl) ?_
 rintro⟨m2,X2⟩ hT2
 (conv=>whnf)
 ((conv=>whnf);repeat' ((first|refine odw ?_|refine nx ?_|refine AD (λ_=>?_) (λ_=>?_))<;>conv=>whnf))
 exact⟨_,_,[],[(900,.cells 185 [.own 901]),(901,(G5 N5 m []).own),(920,.cells 185 [.own 921]),(921,(G5 N5 m2 X2).own)],.lo (.refl _ _),rfl,⟨rfl,rfl,rfl,rfl,trivial⟩,rfl,(m2,X2),rfl,rfl,hT2⟩
end Go.Proofs.YtjpmmkodoeipmaaGreatDoor
end
section
namespace Go.Proofs.YtjpmmkodoeipmaaGreatDoor
open Go.Sx Go.RowKit Go.Reg Go.Gr
set_option maxRecDepth 100000
def OS(L:List (List (List Int))):Da:=.list 1 (L.map QG)
section
variable {G:Gr} {e:Bool} {d:Int} {l:List Opp}
structure PatAt(G:Gr)(e:Bool)(d:Int)(l:List Opp)(q:List Int->Pt)(V:List Int->List Int)(X:List Int):Prop where
 err:Dp (q X)=none
 ne:(q X).labels≠[]
 len:(V X).length=(q X).labels.length
 nodup:(V X).Nodup
 pat:Pure C1 65 [dJ G e d l,Bn X] (λz=>z=.tuple [FE (q X),Bn (V X),.nili])
set_option maxHeartbeats 4000000 in
theorem XJ(D:Nat)(hD:1<=D)(hD8:D<=8)(L:List (List (List Int)))(q:List Int->Pt)(V:List Int->List Int)(hR:∀R∈L,R.length<=40000)(hq:∀R∈L,∀X∈R,PatAt G e D l q V X):
  Pure C3 27 [dJ G e D l,OS L] (λy=>y=.tuple [.list 3 ((if D<=L.length then Ee (((L[D-1]?).getD []).map λX=>Cc (q X))else[]).map D0),.nili]):=by
 have hdL:(L.map QG).length=L.length:=Ac _
 refine Oe Tryz.func27 Tryz.ntmps27 [] [] ?_
 (conv=>whnf)
 refine Iu [] [] mA rfl rfl rfl rfl rfl rfl rfl ?_
 (conv=>whnf)
 by_cases hDl:D<=L.length
 ·have hx:L[D-1]? =some (L[D-1]'(by omega)):=Ab (by omega)
  have hxm:=A8 hx
  generalize L[D-1]'(by omega)=R at hx hxm
  have hxd:(L.map QG)[D-1]? =some (.list 1 (R.map Bn)):=by rw[Ad,hx];rfl
  have hRl:(R.map Bn).length=R.length:=Ac _
  have hRm:=hR R hxm
  (conv=>whnf)
  (repeat' ((first|refine Aj ?_ ?_|refine AP hxd (by omega) ?_|refine nx ?_|refine AD (λ_=>?_) (λ_=>?_)|exact AG)<;>conv=>whnf))
  refine AR (ι:=Nat×List (ByteArray×RowV)×List (Value×Da)) (λx=>x.1<=R.length/\MT (Ee ((R.take x.1).map q)) x.2.1) (λx=>[(31,.d (.int .i64 x.1)),(30,.d (.int .i64 (R.map Bn).length)),(29,.d (.list 1 (R.map Bn))),(6,.own 900),(2,.own 2)])
   (λx=>[(2,.cells 43 [.d (dG G),.d (.bool e),.d (.int .i64 D),.d (Ka l)]),(900,.cells 185 [.own 901]),(901,(G5 N5 x.2.1 x.2.2).own)]) (λx=>R.length-x.1) (0,[],[]) (λ_=>rfl) ⟨Am _,Tv⟩ (.refl _ _) ⟨rfl,rfl,rfl,rfl,rfl,trivial⟩ ⟨rfl,rfl,rfl,trivial⟩ ?_
  rintro⟨i,m,X⟩ ⟨hi,hT⟩
  simp only at hi hT
  refine Hf [] [] ?_
  by_cases hlt:i<R.length
  ·have hy:R[i]? =some R[i]:=Ab hlt
   have hym:=A8 hy
   have htk:(R.take (i+1)).map q=(R.take i).map q++[q R[i]]:=by rw[Ay,hy,AU,A7];rfl
   generalize R[i]=x at hy hym htk
   have hp:=hq R hxm x hym
   have hpt:=Pure.up3 hp.pat
   have hyd:(R.map Bn)[i]? =some (Bn x):=by rw[Ad,hy];rfl
   obtain⟨t1,t2,t3,t4,t5⟩:=EG ((R.take i).map q)
   have hsl:GF (Ee ((R.take i).map q))<=1000000:=by rw[t1,Ac,AA];omega
   have had:=mD X hT hp.err (n:=1) (by omega) t2 (by omega)
   rw[<-IL,<-htk]at had
   (conv=>whnf)
   (repeat' ((first|refine Aj ?_ ?_|refine AP hyd rfl ?_|refine Af rfl hpt ?_|refine nx ?_|refine AD (λ_=>?_) (λ_=>?_)|exact AG)<;>conv=>whnf))
   refine IT [] [900,901] had (λd σ h=>h) rfl rfl rfl rfl rfl rfl (λ_=>rfl) ?_
   rintro⟨m',X'⟩ hT'
   ((conv=>whnf);repeat' ((first|refine odw ?_|refine nx ?_|refine AD (λ_=>?_) (λ_=>?_))<;>conv=>whnf))
   exact⟨(i+1,m',X'),_,_,⟨hlt,hT'⟩,.refl _ _,⟨rfl,rfl,rfl,rfl,rfl,trivial⟩,⟨rfl,rfl,rfl,trivial⟩,by simp only;omega⟩
  ·have e:R.take i=R:=Al (by omega)
   rw[e]at hT
   ((conv=>whnf);repeat' ((first|refine odw ?_|refine nx ?_|refine AD (λ_=>?_) (λ_=>?_))<;>conv=>whnf))
   obtain⟨ps,hps0⟩:∃ps,R.map q=ps:=⟨_,rfl⟩
   rw[hps0]at hT
   have hl:ps.length<=40000:=by rw[<-hps0,Ac];exact hRm
   have hp:∀p∈ps,Dp p=none:=λp hp=>by
    rw[<-hps0]at hp
    obtain⟨X,hX,rfl⟩:=An.1 hp
    exact(hq R hxm X hX).err
   have he:ps.map Cc=(if D<=L.length then((L[D-1]?).getD []).map λX=>Cc (q X)else[]):=by rw[if_pos hDl,hx,<-hps0,EE];rfl
   obtain⟨t1,t2,t3,t4,t5⟩:=EG ps
   have hok:L8 (Ee ps):=⟨λx hx=>⟨hp _ (t4 x hx),t2 x hx⟩,by rw[t1];omega,by omega⟩
   have hf:=nW (Ee ps) m X hT hok
   rw[fA,he]at hf
   have hps:∀p∈ps.map Cc,Dp p=none:=λp hm=>by
    obtain⟨p',h',rfl⟩:=An.1 hm
    exact KN (hp p' h')
   rw[he]at hps
   have hcl:(if D<=L.length then((L[D-1]?).getD []).map λX=>Cc (q X)else[]).length<=40000:=by rw[<-he,Ac];exact hl
   have hio:(if D<=L.length then Ee (((L[D-1]?).getD []).map λX=>Cc (q X))else[])=Ee (if D<=L.length then((L[D-1]?).getD []).map λX=>Cc (q X)else[]):=by split<;>rfl
   rw[hio]
   generalize (if D<=L.length then((L[D-1]?).getD []).map λX=>Cc (q X)else[])=cs at hf hps hcl⊢
   obtain⟨c1,c2,c3,c4,c5⟩:=EG cs
   have hck:L8 (Ee cs):=⟨λx hx=>⟨hps _ (c4 x hx),c2 x hx⟩,by rw[c1];omega,by omega⟩
   refine IT [] [900,901] hf (λd σ h=>h) rfl rfl rfl rfl rfl rfl (λ_=>rfl) ?_
   rintro⟨m2,X2⟩ hT2
   have hr:=Tr (Ee cs) m2 X2 hT2 (by omega) (Ox hck)
   generalize Ee cs=rs at hr c3
   have hdr:(rs.map D0).length=rs.length:=Ac _
   (conv=>whnf)
   ((conv=>whnf);repeat' ((first|refine odw ?_|refine nx ?_|refine AD (λ_=>?_) (λ_=>?_))<;>conv=>whnf))
   refine Iu [(920,900),(921,901)] [920,921] hr rfl rfl rfl rfl rfl rfl rfl ?_
   ((conv=>whnf);repeat' ((first|refine odw ?_|refine nx ?_|refine AD (λ_=>?_) (λ_=>?_))<;>conv=>whnf))
   refine AR (ι:=Nat) (λi=>i<=rs.length) (λi=>[(64,.d (.int .i64 i)),(63,.d (.int .i64 (rs.map D0).length)),(62,.d (.list 3 (rs.map D0))),(15,.own 300)]) (λi=>[(300,.slice 56 3 ((rs.take i).map D0))]) (λi=>rs.length-i) 0 (λ_=>rfl) (Am _) (.frz 910 rfl (.own 15 300 56 3 rfl rfl (.refl _ _))) ⟨rfl,rfl,rfl,rfl,trivial⟩ ⟨rfl,trivial⟩ ?_
   intro i hi
   refine Hf [] [] ?_
   by_cases hil:i<rs.length
   ·have hx:rs[i]? =some rs[i]:=Ab hil
    have hsn:(rs.take (i+1)).map D0=(rs.take i).map D0++[D0 rs[i]]:=by rw[Ay,hx,AU,A7];rfl
    generalize rs[i]=x at hx hsn
    have hxd:(rs.map D0)[i]? =some (.agg [.agg [Bn x.1.labels,Fa x.1.edges],.int .i64 x.2]):=by rw[Ad,hx];rfl
    have hzl:((rs.take i).map D0).length<=40000:=by rw[Ac,AA];omega
    generalize (rs.take i).map D0=Z at hsn hzl⊢
    (conv=>whnf)
    (repeat' ((first|refine Aj ?_ ?_|refine AP hxd rfl ?_|refine nx ?_|refine AD (λ_=>?_) (λ_=>?_)|exact AG)<;>conv=>whnf))
    exact⟨i+1,_,_,hil,.refl _ _,⟨rfl,rfl,rfl,rfl,trivial⟩,⟨Bk hsn.symm,trivial⟩,by omega⟩
   ·rw[Al (show rs.length<=i by omega)]
    ((conv=>whnf);repeat' ((first|refine odw ?_|refine nx ?_|refine AD (λ_=>?_) (λ_=>?_))<;>conv=>whnf))
    exact rfl
 ·have hT:=Tv
  obtain⟨ps,hps0⟩:∃ps:List Pt,[]=ps:=⟨_,rfl⟩
  rw[show([]:List (Pt×Int))=Ee []from rfl,hps0]at hT
  have hl:ps.length<=40000:=by rw[<-hps0];exact Am _
  have hp:∀p∈ps,Dp p=none:=λp hp=>by rw[<-hps0]at hp;cases hp
  have he:ps.map Cc=(if D<=L.length then((L[D-1]?).getD []).map λX=>Cc (q X)else[]):=by rw[if_neg hDl,<-hps0];rfl
  (conv=>whnf)
  ((conv=>whnf);repeat' ((first|refine odw ?_|refine nx ?_|refine AD (λ_=>?_) (λ_=>?_))<;>conv=>whnf))
  obtain⟨t1,t2,t3,t4,t5⟩:=EG ps
  have hok:L8 (Ee ps):=⟨λx hx=>⟨hp _ (t4 x hx),t2 x hx⟩,by rw[t1];omega,by omega⟩
  have hf:=nW (Ee ps) [] [] hT hok
  rw[fA,he]at hf
  have hps:∀p∈ps.map Cc,Dp p=none:=λp hm=>by
   obtain⟨p',h',rfl⟩:=An.1 hm
   exact KN (hp p' h')
  rw[he]at hps
  have hcl:(if D<=L.length then((L[D-1]?).getD []).map λX=>Cc (q X)else[]).length<=40000:=by rw[<-he,Ac];exact hl
  have hio:(if D<=L.length then Ee (((L[D-1]?).getD []).map λX=>Cc (q X))else[])=Ee (if D<=L.length then((L[D-1]?).getD []).map λX=>Cc (q X)else[]):=by split<;>rfl
  rw[hio]
  generalize (if D<=L.length then((L[D-1]?).getD []).map λX=>Cc (q X)else[])=cs at hf hps hcl⊢
  obtain⟨c1,c2,c3,c4,c5⟩:=EG cs
  have hck:L8 (Ee cs):=⟨λx hx=>⟨hps _ (c4 x hx),c2 x hx⟩,by rw[c1];omega,by omega⟩
  refine IT [] [900,901] hf (λd σ h=>h) rfl rfl rfl rfl rfl rfl (λ_=>rfl) ?_
  rintro⟨m2,X2⟩ hT2
  have hr:=Tr (Ee cs) m2 X2 hT2 (by omega) (Ox hck)
  generalize Ee cs=rs at hr c3
  have hdr:(rs.map D0).length=rs.length:=Ac _
  (conv=>whnf)
  ((conv=>whnf);repeat' ((first|refine odw ?_|refine nx ?_|refine AD (λ_=>?_) (λ_=>?_))<;>conv=>whnf))
  refine Iu [(920,900),(921,901)] [920,921] hr rfl rfl rfl rfl rfl rfl rfl ?_
  ((conv=>whnf);repeat' ((first|refine odw ?_|refine nx ?_|refine AD (λ_=>?_) (λ_=>?_))<;>conv=>whnf))
  refine AR (ι:=Nat) (λi=>i<=rs.length) (λi=>[(64,.d (.int .i64 i)),(63,.d (.int .i64 (rs.map D0).length)),(62,.d (.list 3 (rs.map D0))),(15,.own 300)]) (λi=>[(300,.slice 56 3 ((rs.take i).map D0))]) (λi=>rs.length-i) 0 (λ_=>rfl) (Am _) (.frz 910 rfl (.own 15 300 56 3 rfl rfl (.refl _ _))) ⟨rfl,rfl,rfl,rfl,trivial⟩ ⟨rfl,trivial⟩ ?_
  intro i hi
  refine Hf [] [] ?_
  by_cases hil:i<rs.length
  ·have hx:rs[i]? =some rs[i]:=Ab hil
   have hsn:(rs.take (i+1)).map D0=(rs.take i).map D0++[D0 rs[i]]:=by rw[Ay,hx,AU,A7];rfl
   generalize rs[i]=x at hx hsn
   have hxd:(rs.map D0)[i]? =some (.agg [.agg [Bn x.1.labels,Fa x.1.edges],.int .i64 x.2]):=by rw[Ad,hx];rfl
   have hzl:((rs.take i).map D0).length<=40000:=by rw[Ac,AA];omega
   generalize (rs.take i).map D0=Z at hsn hzl⊢
   (conv=>whnf)
   (repeat' ((first|refine Aj ?_ ?_|refine AP hxd rfl ?_|refine nx ?_|refine AD (λ_=>?_) (λ_=>?_)|exact AG)<;>conv=>whnf))
   exact⟨i+1,_,_,hil,.refl _ _,⟨rfl,rfl,rfl,rfl,trivial⟩,⟨Bk hsn.symm,trivial⟩,by omega⟩
  ·rw[Al (show rs.length<=i by omega)]
   ((conv=>whnf);repeat' ((first|refine odw ?_|refine nx ?_|refine AD (λ_=>?_) (λ_=>?_))<;>conv=>whnf))
   exact rfl
end
end Go.Proofs.YtjpmmkodoeipmaaGreatDoor
end
section
namespace Go.Proofs
open Go.Shelf
def Tryz.sortC_ren:Go.Shelf.Ren:=⟨λ|6=>72|15=>124|14=>123|28=>180|29=>181|20=>172|21=>173|22=>174|23=>175|24=>176|25=>177|26=>178|27=>179|46=>244|47=>245|48=>246|49=>247|50=>248|57=>275|n=>n,λ|22=>46|24=>22|25=>88|3=>3|39=>202|0=>0|53=>250|55=>215|4=>4|46=>243|45=>242|50=>247|5=>5|9=>9|66=>293|70=>297|76=>318|77=>112|n=>n,λ|n=>n⟩
theorem Tryz.sortC:Go.Proofs.SlLaysF.n6 Tryz.prog Tryz.sortC_ren:={
 mixed:=by kernel_rfl
 f6:=⟨Tryz.f72.name,by decide,Tryz.func72.trans (congrArg some (by kernel_rfl))⟩
 f14:=⟨Tryz.f123.name,by decide,Tryz.func123.trans (congrArg some (by kernel_rfl))⟩
 f15:=Tryz.func124.trans (congrArg some (by kernel_rfl))
 f20:=⟨Tryz.f172.name,by decide,Tryz.func172.trans (congrArg some (by kernel_rfl))⟩
 f21:=⟨Tryz.f173.name,by decide,Tryz.func173.trans (congrArg some (by kernel_rfl))⟩
 f22:=⟨Tryz.f174.name,by decide,Tryz.func174.trans (congrArg some (by kernel_rfl))⟩
 f23:=⟨Tryz.f175.name,by decide,Tryz.func175.trans (congrArg some (by kernel_rfl))⟩
 f24:=⟨Tryz.f176.name,by decide,Tryz.func176.trans (congrArg some (by kernel_rfl))⟩
 f25:=⟨Tryz.f177.name,by decide,Tryz.func177.trans (congrArg some (by kernel_rfl))⟩
 f26:=⟨Tryz.f178.name,by decide,Tryz.func178.trans (congrArg some (by kernel_rfl))⟩
 f27:=⟨Tryz.f179.name,by decide,Tryz.func179.trans (congrArg some (by kernel_rfl))⟩
 f28:=Tryz.func180.trans (congrArg some (by kernel_rfl))
 f29:=Tryz.func181.trans (congrArg some (by kernel_rfl))
 f46:=⟨Tryz.f244.name,by decide,Tryz.func244.trans (congrArg some (by kernel_rfl))⟩
 f47:=Tryz.func245.trans (congrArg some (by kernel_rfl))
 f48:=Tryz.func246.trans (congrArg some (by kernel_rfl))
 f49:=⟨Tryz.f247.name,by decide,Tryz.func247.trans (congrArg some (by kernel_rfl))⟩
 f50:=⟨Tryz.f248.name,by decide,Tryz.func248.trans (congrArg some (by kernel_rfl))⟩
 f57:=⟨Tryz.f275.name,by decide,Tryz.func275.trans (congrArg some (by kernel_rfl))⟩
 t0:=Tryz.underlying0
 a0:=Tryz.isAgg0
 z0:=Tryz.sizeOf0
 v0:=Tryz.zeroValue0
 t3:=Tryz.underlying3
 a3:=Tryz.isAgg3
 z3:=Tryz.sizeOf3
 v3:=Tryz.zeroValue3
 t4:=Tryz.underlying4
 a4:=Tryz.isAgg4
 z4:=Tryz.sizeOf4
 v4:=Tryz.zeroValue4
 t5:=Tryz.underlying5
 a5:=Tryz.isAgg5
 z5:=Tryz.sizeOf5
 v5:=Tryz.zeroValue5
 t9:=Tryz.underlying9
 a9:=Tryz.isAgg9
 z9:=Tryz.sizeOf9
 v9:=Tryz.zeroValue9
 t22:=Tryz.underlying46
 a22:=Tryz.isAgg46
 z22:=Tryz.sizeOf46
 v22:=Tryz.zeroValue46
 a24:=Tryz.isAgg22
 z24:=Tryz.sizeOf22
 t25:=Tryz.underlying88
 a25:=Tryz.isAgg88
 z25:=Tryz.sizeOf88
 v25:=Tryz.zeroValue88
 t39:=Tryz.underlying202
 a39:=Tryz.isAgg202
 z39:=Tryz.sizeOf202
 v39:=Tryz.zeroValue202
 t45:=Tryz.underlying242
 a45:=Tryz.isAgg242
 z45:=Tryz.sizeOf242
 v45:=Tryz.zeroValue242
 t46:=Tryz.underlying243
 a46:=Tryz.isAgg243
 z46:=Tryz.sizeOf243
 v46:=Tryz.zeroValue243
 t50:=Tryz.underlying247
 a50:=Tryz.isAgg247
 z50:=Tryz.sizeOf247
 v50:=Tryz.zeroValue247
 t53:=Tryz.underlying250
 a53:=Tryz.isAgg250
 z53:=Tryz.sizeOf250
 v53:=Tryz.zeroValue250
 t55:=Tryz.underlying215
 a55:=Tryz.isAgg215
 z55:=Tryz.sizeOf215
 v55:=Tryz.zeroValue215
 t66:=Tryz.underlying293
 a66:=Tryz.isAgg293
 z66:=Tryz.sizeOf293
 v66:=Tryz.zeroValue293
 t70:=Tryz.underlying297
 a70:=Tryz.isAgg297
 z70:=Tryz.sizeOf297
 v70:=Tryz.zeroValue297
 t76:=Tryz.underlying318
 a76:=Tryz.isAgg318
 z76:=Tryz.sizeOf318
 v76:=Tryz.zeroValue318
 t77:=Tryz.underlying112
 a77:=Tryz.isAgg112
 z77:=Tryz.sizeOf112
 v77:=Tryz.zeroValue112}
end Go.Proofs
end
