/- Merged: Agp Txi Lsr Agc Srr Trw Cpc Cpd Atk Lso Ats Atm Lsc. -/
import Derived.Test.YtjejpdfldmempaaGreatDoorltat
import Derived.Test.YtjejpdfldmempaaGreatDoorltas
import Derived.Shelf.SlSortCmp.WholeK
import Derived.Test.YtjejpdfldmempaaGreatDoorRows
import Derived.Shelf.SlIterI.Sorted
import Derived.RangeFuncBox
import Derived.RangeFuncLeaves
import Derived.Shelf.Abstract
import Derived.WalkKit
import Derived.OwnWalkIn
import Derived.TacticsInMore
import Derived.LoopNIn
import Derived.LoopIn
import Derived.Shelf.SortM.Plain
import Derived.Shelf.SortM.SortNone
import Derived.Test.YtjejpdfldmempaaGreatDoorltar
import Derived.Test.YtjejpdfldmempaaGreatDoorltan
import Derived.Shelf.SlicesG.CompactI
import Derived.Shelf.SlicesG.Delete
section
namespace Go.Gr
open Go.Reg
section
variable {α:Type} {f:α->α->Int}
def D1(f:α->α->Int):List (α×Int)->α->Int->List (α×Int)
 |[],p,n=>[(p,n)]
 |(q,m)::l,p,n=>if f q p<0 then(q,m)::D1 f l p n else if f q p=0 then(p,m+n)::l else(p,n)::(q,m)::l
def KI(f:α->α->Int)(l:List (α×Int)):Prop:=l.Pairwise (λa b=>f a.1 b.1<0)
theorem VU {l:List (α×Int)} {p:α} {n:Int}:∀x∈D1 f l p n,x.1=p\/x∈l:=by
 induction l with
 |nil=>intro x hx;simp only[D1,AG]at hx;exact .inl (by rw[hx])
 |
  cons y l ih=>
  obtain⟨q,m⟩:=y
  intro x hx
  simp only[D1]at hx
  split at hx
  ·rcases Ar.1 hx with rfl|hx
   ·exact .inr (by simp)
   ·exact(ih x hx).imp id λh=>by simp[h]
  ·split at hx
   ·rcases Ar.1 hx with rfl|hx
    ·exact .inl rfl
    ·exact .inr (by simp[hx])
   ·rcases Ar.1 hx with rfl|hx
    ·exact .inl rfl
    ·exact .inr hx
theorem NH(h:TOrd f) {l:List (α×Int)} {p:α} {n:Int}(hs:KI f l):KI f (D1 f l p n):=by
 unfold KI at hs⊢
 induction l with
 |nil=>exact List.pairwise_singleton _ _
 |
  cons y l ih=>
  obtain⟨q,m⟩:=y
  obtain⟨h1,h2⟩:=BE.1 hs
  simp only[D1]
  split
  ·rename_i hq
   refine BE.2 ⟨λx hx=>?_,ih h2⟩
   rcases VU x hx with e|hx
   ·rw[e];exact hq
   ·exact h1 x hx
  ·split
   ·rename_i hq0
    have e:=(h.eq0 q p).1 hq0
    subst e
    exact BE.2 ⟨h1,h2⟩
   ·rename_i hq hq0
    have hpq:f p q<0:=by have:=h.anti q p;omega
    refine BE.2 ⟨λx hx=>?_,hs⟩
    rcases Ar.1 hx with rfl|hx
    ·exact hpq
    ·exact h.trans _ _ _ hpq (h1 x hx)
theorem jA(h:TOrd f) {l:List (α×Int)} {p:α} {n:Int}(hp:∀x∈l,x.1≠p):(D1 f l p n).Perm ((p,n)::l):=by
 induction l with
 |nil=>exact .refl _
 |
  cons y l ih=>
  obtain⟨q,m⟩:=y
  simp only[D1]
  split
  ·exact((ih λx hx=>hp x (by simp[hx])).cons _).trans (.swap _ _ _)
  ·split
   ·rename_i hq0
    exact absurd ((h.eq0 q p).1 hq0) (hp (q,m) (by simp))
   ·exact .refl _
theorem iZ [DecidableEq α](h:TOrd f) {l:List (α×Int)} {p:α} {n s:Int}(hs:KI f l)(hp:(p,s)∈l):(D1 f l p n).Perm ((p,s+n)::l.erase (p,s)):=by
 unfold KI at hs
 induction l with
 |nil=>cases hp
 |
  cons y l ih=>
  obtain⟨q,m⟩:=y
  obtain⟨h1,h2⟩:=BE.1 hs
  simp only[D1]
  rcases Ar.1 hp with e|hp
  ·cases e
   have h0:=h.self p
   rw[if_neg (by omega),if_pos h0]
   simp
  ·have hq:=h1 _ hp
   simp only at hq
   have hne:(q,m)≠(p,s):=λe=>by
    cases e
    have:=h.self p
    omega
   rw[if_pos hq,List.erase_cons_tail (by simpa using hne)]
   exact((ih h2 hp).cons _).trans (.swap _ _ _)
theorem Z1(h:TOrd f) {l out:List (α×Int)}(hp:out.Perm l)(hs:KI f l)(ho:out.Pairwise (λa b=>¬f b.1 a.1<0)):out=l:=by
 unfold KI at hs
 refine hp.eq_of_pairwise (le:=λa b=>¬f b.1 a.1<0) (λa b ha hb h1 h2=>?_) ho (hs.imp λ{a b} hab hba=>?_)
 ·have e:a.1=b.1:=by
   have:=h.anti a.1 b.1
   exact(h.eq0 _ _).1 (by omega)
  have ha':=hp.mem_iff.1 ha
  by_cases hab:a=b
  ·exact hab
  ·exfalso
   obtain⟨i,hi⟩:=List.getElem?_of_mem ha'
   obtain⟨j,hj⟩:=List.getElem?_of_mem hb
   obtain⟨hi',ei⟩:=Ad.1 hi
   obtain⟨hj',ej⟩:=Ad.1 hj
   have h0:=h.self b.1
   rcases VY i j with hlt|heq|hgt
   ·have:=AI.1 hs i j hi' hj' hlt
    rw[ei,ej,e]at this;omega
   ·subst heq;exact hab (ei.symm.trans ej)
   ·have:=AI.1 hs j i hj' hi' hgt
    rw[ei,ej,e]at this;omega
 ·have:=h.anti a.1 b.1;omega
structure TabIs {κ:Type} [DecidableEq κ](f:α->α->Int)(key:α->κ)(ok:α->Prop)(m:List (κ×(α×Int)))(l:List (α×Int)):Prop where
 sort:KI f l
 perm:(m.map (·.2)).Perm l
 keys:∀x∈m,x.1=key x.2.1/\ok x.2.1
 nodup:(m.map (·.1)).Nodup
theorem TabIs.nil {κ:Type} [DecidableEq κ] {key:α->κ} {ok:α->Prop}:TabIs f key ok [] []:=⟨.nil,.refl _,by simp,by simp⟩
theorem Yz {β:Type}:∀{l:List β} {i:Nat} {x:β},l[i]? =some x->l.Perm (x::l.eraseIdx i)
 |[],i,x,h=>by simp at h
 |y::l,0,x,h=>by simp at h;subst h;exact .refl _
 |
  y::l,i+1,x,h=>by
  have:=Yz (l:=l) (i:=i) (x:=x) (by simpa using h)
  exact(this.cons y).trans (.swap _ _ _)
theorem dW {β:Type}:∀{l:List β} {i:Nat} (y:β),i<l.length->(l.set i y).Perm (y::l.eraseIdx i)
 |[],i,y,h=>by simp at h
 |x::l,0,y,h=>by simp
 |
  x::l,i+1,y,h=>by
  have:=dW (l:=l) (i:=i) y (by simpa using h)
  exact(this.cons x).trans (.swap _ _ _)
theorem TabIs.add [DecidableEq α] {κ:Type} [DecidableEq κ] {key:α->κ} {ok:α->Prop}(h:TOrd f)(hk:∀p q,ok p->ok q->key p=key q->p=q) {m:List (κ×(α×Int))} {l:List (α×Int)}(t:TabIs f key ok m l) {p:α}(hp:ok p)(n:Int):
  (∀r,get m (key p)=some r->r.1=p/\TabIs f key ok (put m (key p) (p,r.2+n)) (D1 f l p n))/\(get m (key p)=none->TabIs f key ok (put m (key p) (p,n)) (D1 f l p n)):=by
 have hkeys:∀v:Int,∀x∈put m (key p) (p,v),x.1=key x.2.1/\ok x.2.1:=λv x hx=>by
  unfold put at hx
  split at hx
  ·rcases List.mem_or_eq_of_mem_set hx with hx|rfl
   ·exact t.keys x hx
   ·exact⟨rfl,hp⟩
  ·rcases Ag.1 hx with hx|hx
   ·exact t.keys x hx
   ·rw[AG.1 hx];exact⟨rfl,hp⟩
 have hnod:∀v:Int,((put m (key p) (p,v)).map (·.1)).Nodup:=λv=>by
  unfold put
  cases hf:(m.map (·.1)).findIdx? (· ==key p)with
  |
   some i=>
   obtain⟨q,hq,hqk,_⟩:=E2 m (key p) i hf
   simp only[DM]
   rw[LH (by rw[Af,hq];simp[hqk])]
   exact t.nodup
  |
   none=>
   simp only[AF,Ap,B4]
   refine D5.2 ⟨t.nodup,by simp,λa ha b hb=>?_⟩
   simp at hb;subst hb
   rw[AK]at hf
   have:=hf a ha
   simpa using this
 constructor
 ·intro r hr
  cases hf:(m.map (·.1)).findIdx? (· ==key p)with
  |none=>rw[(I8 m (key p) hf).1]at hr;cases hr
  |
   some i=>
   obtain⟨q,hq,hqk,hg⟩:=E2 m (key p) i hf
   rw[hr]at hg
   have hrq:r=q.2:=BG hg
   have hmem:=AD hq
   obtain⟨k1,k2⟩:=t.keys q hmem
   have e:r.1=p:=by rw[hrq];exact hk _ _ k2 hp (by rw[<-k1,hqk])
   refine⟨e,NH h t.sort,?_,hkeys _,hnod _⟩
   have hq2:(m.map (·.2))[i]? =some (p,r.2):=by rw[Af,hq];simp[<-hrq,<-e]
   have h1:=Yz hq2
   have hil:i<(m.map (·.2)).length:=(Ad.1 hq2).1
   have hput:(put m (key p) (p,r.2+n)).map (·.2)=(m.map (·.2)).set i (p,r.2+n):=by unfold put;rw[hf];simp
   rw[hput]
   have hin:(p,r.2)∈l:=t.perm.mem_iff.1 (AD hq2)
   refine(dW _ hil).trans (.trans ?_ (iZ h t.sort hin).symm)
   refine .cons _ ?_
   have h2:l.Perm ((p,r.2)::(m.map (·.2)).eraseIdx i):=t.perm.symm.trans h1
   have h3:=h2.erase (p,r.2)
   rw[List.erase_cons_head]at h3
   exact h3.symm
 ·intro hr
  cases hf:(m.map (·.1)).findIdx? (· ==key p)with
  |
   some i=>
   obtain⟨q,hq,hqk,hg⟩:=E2 m (key p) i hf
   rw[hr]at hg;cases hg
  |
   none=>
   refine⟨NH h t.sort,?_,hkeys _,hnod _⟩
   have hput:(put m (key p) (p,n)).map (·.2)=m.map (·.2)++[(p,n)]:=by unfold put;rw[hf];simp
   rw[hput]
   have hne:∀x∈l,x.1≠p:=λx hx e=>by
    obtain⟨y,hy,rfl⟩:=Aq.1 (t.perm.mem_iff.2 hx)
    have h1:=t.keys y hy
    rw[AK]at hf
    have:=hf y.1 (C7 hy)
    rw[h1.1,e]at this
    simp at this
   refine List.Perm.trans ?_ (jA h hne).symm
   have hc:([(p,n)]++m.map (·.2)).Perm ((p,n)::l):=List.Perm.cons (p,n) t.perm
   exact List.perm_append_comm.trans hc
def Gm(l:List (α×Int)):Int:=(l.map (·.2)).foldr (· + ·) 0
theorem dD {l:List (α×Int)} {p:α} {n:Int}:Gm (D1 f l p n)=Gm l+n:=by
 induction l with
 |nil=>simp[D1,Gm]
 |
  cons y l ih=>
  obtain⟨q,m⟩:=y
  unfold Gm at ih⊢
  simp only[D1]
  split
  ·simp only[Ap,List.foldr_cons,ih];omega
  ·split<;>simp only[Ap,List.foldr_cons]<;>omega
end
end Go.Gr
end
section
namespace Go.Gr
open Go
theorem JM {s:UInt8}:∀{u v x y:List UInt8},u++s::x=v++s::y->s∉u->s∉v->u=v/\x=y
 |[],[],_,_,h,_,_=>⟨rfl,by simpa using h⟩
 |
  [],b::v,_,_,h,_,hv=>by
  simp only[CN,Bo,Dh]at h
  exact absurd (by rw[h.1];exact Gf) hv
 |
  a::u,[],_,_,h,hu,_=>by
  simp only[CN,Bo,Dh]at h
  exact absurd (by rw[<-h.1];exact Gf) hu
 |
  a::u,b::v,_,_,h,hu,hv=>by
  simp only[Bo,Dh]at h
  obtain⟨h1,h2⟩:=JM h.2 (λhm=>hu (AB _ hm)) (λhm=>hv (AB _ hm))
  exact⟨by rw[h.1,h1],h2⟩
theorem PY {s:UInt8}:∀{xs ys:List (List UInt8)},(∀x∈xs,x≠[]/\s∉x)->(∀x∈ys,x≠[]/\s∉x)->Lib.join xs [s]=Lib.join ys [s]->xs=ys
 |[],[],_,_,_=>rfl
 |[],[y],_,hy,h=>by rw[Lib.join_nil,Lib.join_one]at h;exact absurd h.symm (hy y (.head _)).1
 |[],y::z::r,_,_,h=>by rw[Lib.join_nil,FX]at h;simp at h
 |[x],[],hx,_,h=>by rw[Lib.join_nil,Lib.join_one]at h;exact absurd h (hx x (.head _)).1
 |[x],[y],_,_,h=>by rw[Lib.join_one,Lib.join_one]at h;rw[h]
 |
  [x],y::z::r,hx,_,h=>by
  rw[Lib.join_one,FX]at h
  exact absurd (by rw[h];simp) (hx x (.head _)).2
 |x::z::r,[],_,_,h=>by rw[Lib.join_nil,FX]at h;simp at h
 |
  x::z::r,[y],_,hy,h=>by
  rw[Lib.join_one,FX]at h
  exact absurd (by rw[<-h];simp) (hy y (.head _)).2
 |
  x::z::r,y::z'::r',hx,hy,h=>by
  rw[FX,FX]at h
  obtain⟨h1,h2⟩:=JM h (hx x (.head _)).2 (hy y (.head _)).2
  have:=PY (xs:=z::r) (ys:=z'::r') (λa ha=>hx a (.tail _ ha)) (λa ha=>hy a (.tail _ ha)) h2
  rw[h1,this]
theorem qU(n:Nat) {s:UInt8}(h:s.toNat<48\/57<s.toNat):s∉Lib.decDigits n:=λhm=>by
 have:=iJ n s hm
 omega
theorem OH {n:Int}(h:0<=n):Lib.itoa n=Lib.decDigits n.toNat:=by
 obtain⟨k,rfl⟩:=A1 h
 rw[UT];rfl
theorem PZ {a b:Int}(ha:0<=a)(hb:0<=b)(h:Lib.itoa a=Lib.itoa b):a=b:=by
 rw[OH ha,OH hb]at h
 have:=congrArg val h
 rw[cF,cF]at this
 omega
theorem HI {n:Int}(h:0<=n) {s:UInt8}(hs:s.toNat<48\/57<s.toNat):s∉Lib.itoa n:=by rw[OH h];exact qU _ hs
theorem iF {x y:Edg}(hx:0<=x.a/\0<=x.b)(hy:0<=y.a/\0<=y.b)(h:J7 x=J7 y):x=y:=by
 obtain⟨h1,h2⟩:=JM h (HI hx.1 (by decide)) (HI hy.1 (by decide))
 have e1:=PZ hx.1 hy.1 h1
 have e2:=PZ hx.2 hy.2 h2
 obtain⟨a,b⟩:=x
 obtain⟨c,d⟩:=y
 simp only at e1 e2
 rw[e1,e2]
theorem iE {x:Edg}(hx:0<=x.a/\0<=x.b) {s:UInt8}(hs:s.toNat<45\/57<s.toNat):s∉J7 x:=by
 unfold J7
 intro hm
 rcases Ag.1 hm with h|h
 ·exact HI hx.1 (by omega) h
 ·rcases Ar.1 h with h|h
  ·subst h;revert hs;decide
  ·exact HI hx.2 (by omega) h
theorem UR {s t:UInt8}(hst:s≠t):∀{xs:List (List UInt8)},(∀x∈xs,s∉x)->s∉Lib.join xs [t]
 |[],_=>by rw[Lib.join_nil];simp
 |[x],h=>by rw[Lib.join_one];exact h x (.head _)
 |
  x::y::r,h=>by
  rw[FX]
  intro hm
  rcases Ag.1 hm with h1|h1
  ·exact h x (.head _) h1
  ·rcases Ag.1 h1 with h2|h2
   ·exact hst (by simpa using h2)
   ·exact UR hst (λz hz=>h z (.tail _ hz)) h2
theorem KY {α β:Type} {f:α->β}:∀{l r:List α},(∀x∈l,∀y∈r,f x=f y->x=y)->l.map f=r.map f->l=r
 |[],[],_,_=>rfl
 |[],y::r,_,h=>by simp at h
 |x::l,[],_,h=>by simp at h
 |
  x::l,y::r,hf,h=>by
  simp only[Ap,Dh]at h
  rw[hf x (.head _) y (.head _) h.1,KY (λa ha b hb=>hf a (.tail _ ha) b (.tail _ hb)) h.2]
def Tu(p:Pt):Prop:=(∀x∈p.labels,0<=x)/\∀e∈p.edges,0<=e.a/\0<=e.b
theorem Uq {p q:Pt}(hp:Tu p)(hq:Tu q)(h:Fu p=Fu q):p=q:=by
 unfold Fu at h
 have hd:∀{p:Pt},Tu p->(124:UInt8)∉Lib.join (p.labels.map Lib.itoa) [44]:=λhp=>UR (by decide) λx hx=>by
  obtain⟨n,hn,rfl⟩:=Aq.1 hx
  exact HI (hp.1 n hn) (by decide)
 have hn:∀n:Int,0<=n->Lib.itoa n≠[]:=λn hn=>by rw[OH hn];exact sI _
 obtain⟨h1,h2⟩:=JM h (hd hp) (hd hq)
 have g1:∀{p:Pt},Tu p->∀x∈p.labels.map Lib.itoa,x≠[]/\(44:UInt8)∉x:=λhp x hx=>by
  obtain⟨n,hm,rfl⟩:=Aq.1 hx
  exact⟨hn n (hp.1 n hm),HI (hp.1 n hm) (by decide)⟩
 have g2:∀{p:Pt},Tu p->∀x∈p.edges.map J7,x≠[]/\(44:UInt8)∉x:=λhp x hx=>by
  obtain⟨e,hm,rfl⟩:=Aq.1 hx
  exact⟨by unfold J7;simp,iE (hp.2 e hm) (by decide)⟩
 have e1:=KY (λa ha b hb=>PZ (hp.1 a ha) (hq.1 b hb)) (PY (g1 hp) (g1 hq) h1)
 have e2:=KY (λa ha b hb=>iF (hp.2 a ha) (hq.2 b hb)) (PY (g2 hp) (g2 hq) h2)
 obtain⟨a,b⟩:=p
 obtain⟨c,d⟩:=q
 simp only at e1 e2
 rw[e1,e2]
end Go.Gr
namespace Go.Proofs.YtjejpdfldmempaaGreatDoor
open Go Go.Sx Go.RowKit Go.Reg Go.Gr
def IV(m:List (ByteArray×RowV)):List (ByteArray×(Pt×Int)):=m.map λx=>(x.1,(x.2.p,x.2.n))
theorem Rf(m:List (ByteArray×RowV))(k:ByteArray):Reg.get (IV m) k=(Reg.get m k).map λr=>(r.p,r.n):=by
 unfold Reg.get IV
 rw[List.find?_map,Option.map_map,Option.map_map]
 rfl
theorem Re(m:List (ByteArray×RowV))(k:ByteArray)(r:RowV):IV (put m k r)=put (IV m) k (r.p,r.n):=by
 have e:(IV m).map (·.1)=m.map (·.1):=by unfold IV;rw[QR];rfl
 unfold put
 rw[e]
 split
 ·unfold IV;rw[DM]
 ·unfold IV;rw[AF];rfl
def MK(l:List (Pt×Int))(m:List (ByteArray×RowV)):Prop:=TabIs Ia (λp=>bs (Fu p)) Tu (IV m) l
theorem cP:MK [] []:=TabIs.nil
theorem cO {l:List (Pt×Int)} {m:List (ByteArray×RowV)}(t:MK l m) {p:Pt}(hp:Tu p)(n:Int) {r:RowV}(hr:Reg.get m (bs (Fu p))=some r):r.p=p/\MK (D1 Ia l p n) (put m (bs (Fu p)) {r with n:=r.n+n}):=by
 obtain⟨h1,h2⟩:=(TabIs.add OY (λp q hp hq e=>Uq hp hq (iU e)) t hp n).1 (r.p,r.n) (by rw[Rf,hr];rfl)
 refine⟨h1,?_⟩
 unfold MK
 rw[Re]
 simp only at h1
 rw[h1]
 exact h2
theorem cQ {l:List (Pt×Int)} {m:List (ByteArray×RowV)}(t:MK l m) {p:Pt}(hp:Tu p) {r:RowV}(h1:r.p=p)(hr:Reg.get m (bs (Fu p))=none):MK (D1 Ia l p r.n) (put m (bs (Fu p)) r):=by
 have h2:=(TabIs.add OY (λp q hp hq e=>Uq hp hq (iU e)) t hp r.n).2 (by rw[Rf,hr];rfl)
 unfold MK
 rw[Re,h1]
 exact h2
theorem TC {l:List (Pt×Int)} {m:List (ByteArray×RowV)}(t:MK l m) {x:ByteArray×RowV}(hx:x∈m):(x.2.p,x.2.n)∈l:=t.perm.mem_iff.1 (Aq.2 ⟨_,C7 hx,rfl⟩)
end Go.Proofs.YtjejpdfldmempaaGreatDoor
end
section
namespace Go.Proofs
open Go.Shelf
def Tryz.sortR_ren:Go.Shelf.Ren:=⟨λ|6=>97|15=>104|14=>140|28=>153|29=>154|20=>202|21=>203|22=>204|23=>205|24=>206|25=>207|26=>208|27=>209|46=>242|47=>211|48=>212|49=>243|50=>244|57=>258|n=>n,λ|22=>97|24=>100|25=>168|3=>3|39=>177|0=>0|53=>184|55=>186|4=>4|46=>218|45=>217|50=>222|5=>5|9=>9|66=>281|70=>285|76=>313|77=>138|n=>n,λ|n=>n⟩
theorem Tryz.sortR:Go.Proofs.SlLaysF0.n6 Tryz.prog Tryz.sortR_ren:={
 mixed:=by kernel_rfl
 f6:=⟨Tryz.f97.name,by decide,Tryz.func97.trans (congrArg some (by kernel_rfl))⟩
 f14:=⟨Tryz.f140.name,by decide,Tryz.func140.trans (congrArg some (by kernel_rfl))⟩
 f15:=Tryz.func104.trans (congrArg some (by kernel_rfl))
 f20:=⟨Tryz.f202.name,by decide,Tryz.func202.trans (congrArg some (by kernel_rfl))⟩
 f21:=⟨Tryz.f203.name,by decide,Tryz.func203.trans (congrArg some (by kernel_rfl))⟩
 f22:=⟨Tryz.f204.name,by decide,Tryz.func204.trans (congrArg some (by kernel_rfl))⟩
 f23:=⟨Tryz.f205.name,by decide,Tryz.func205.trans (congrArg some (by kernel_rfl))⟩
 f24:=⟨Tryz.f206.name,by decide,Tryz.func206.trans (congrArg some (by kernel_rfl))⟩
 f25:=⟨Tryz.f207.name,by decide,Tryz.func207.trans (congrArg some (by kernel_rfl))⟩
 f26:=⟨Tryz.f208.name,by decide,Tryz.func208.trans (congrArg some (by kernel_rfl))⟩
 f27:=⟨Tryz.f209.name,by decide,Tryz.func209.trans (congrArg some (by kernel_rfl))⟩
 f28:=Tryz.func153.trans (congrArg some (by kernel_rfl))
 f29:=Tryz.func154.trans (congrArg some (by kernel_rfl))
 f46:=⟨Tryz.f242.name,by decide,Tryz.func242.trans (congrArg some (by kernel_rfl))⟩
 f47:=Tryz.func211.trans (congrArg some (by kernel_rfl))
 f48:=Tryz.func212.trans (congrArg some (by kernel_rfl))
 f49:=⟨Tryz.f243.name,by decide,Tryz.func243.trans (congrArg some (by kernel_rfl))⟩
 f50:=⟨Tryz.f244.name,by decide,Tryz.func244.trans (congrArg some (by kernel_rfl))⟩
 f57:=⟨Tryz.f258.name,by decide,Tryz.func258.trans (congrArg some (by kernel_rfl))⟩
 t0:=Tryz.underlying0
 a0:=Tryz.isAgg0
 z0:=Tryz.sizeOf0
 v0:=Tryz.zeroValue0
 t3:=Tryz.underlying3
 a3:=Tryz.isAgg3
 z3:=Tryz.sizeOf3
 v3:=Tryz.zeroValue3
 t4:=Tryz.underlying4
 a4:=Tryz.isAgg4
 z4:=Tryz.sizeOf4
 v4:=Tryz.zeroValue4
 t5:=Tryz.underlying5
 a5:=Tryz.isAgg5
 z5:=Tryz.sizeOf5
 v5:=Tryz.zeroValue5
 t9:=Tryz.underlying9
 a9:=Tryz.isAgg9
 z9:=Tryz.sizeOf9
 v9:=Tryz.zeroValue9
 t22:=Tryz.underlying97
 a22:=Tryz.isAgg97
 z22:=Tryz.sizeOf97
 v22:=Tryz.zeroValue97
 t25:=Tryz.underlying168
 a25:=Tryz.isAgg168
 z25:=Tryz.sizeOf168
 v25:=Tryz.zeroValue168
 t39:=Tryz.underlying177
 a39:=Tryz.isAgg177
 z39:=Tryz.sizeOf177
 v39:=Tryz.zeroValue177
 t45:=Tryz.underlying217
 a45:=Tryz.isAgg217
 z45:=Tryz.sizeOf217
 v45:=Tryz.zeroValue217
 t46:=Tryz.underlying218
 a46:=Tryz.isAgg218
 z46:=Tryz.sizeOf218
 v46:=Tryz.zeroValue218
 t50:=Tryz.underlying222
 a50:=Tryz.isAgg222
 z50:=Tryz.sizeOf222
 v50:=Tryz.zeroValue222
 t53:=Tryz.underlying184
 a53:=Tryz.isAgg184
 z53:=Tryz.sizeOf184
 v53:=Tryz.zeroValue184
 t55:=Tryz.underlying186
 a55:=Tryz.isAgg186
 z55:=Tryz.sizeOf186
 v55:=Tryz.zeroValue186
 t66:=Tryz.underlying281
 a66:=Tryz.isAgg281
 z66:=Tryz.sizeOf281
 v66:=Tryz.zeroValue281
 t70:=Tryz.underlying285
 a70:=Tryz.isAgg285
 z70:=Tryz.sizeOf285
 v70:=Tryz.zeroValue285
 t76:=Tryz.underlying313
 a76:=Tryz.isAgg313
 z76:=Tryz.sizeOf313
 v76:=Tryz.zeroValue313
 t77:=Tryz.underlying138
 a77:=Tryz.isAgg138
 z77:=Tryz.sizeOf138
 v77:=Tryz.zeroValue138}
end Go.Proofs
end
section
namespace Go.Proofs.YtjejpdfldmempaaGreatDoor
open Go.RowKit Go.Reg Go.Gr Go.Sort
theorem rP {n:Int}(h:-9223372036854775808<=n/\n<=9223372036854775807):wrap64 n=n:=by unfold wrap64;omega
abbrev KG(n:Int):List Value:=[.int .i64 n]
set_option maxRecDepth 100000 in
theorem Sv(v1 v2:Value)(l r:List Int)(W:World)(h1:E9 1 KG W v1 l)(h2:E9 1 KG W v2 r):Calls Tryz.prog 141 #[v1,v2] W λe w'=>e=.returned (.int .i64 (EY Dg l r))/\W=w':=by
 obtain⟨a1,c1,rfl,hm1,hc1⟩:=h1
 obtain⟨a2,c2,rfl,hm2,hc2⟩:=h2
 have HC1:=EO hc1
 have HC2:=EO hc2
 have HM1:=EO hm1
 have HM2:=EO hm2
 clear hc1 hc2 hm1 hm2
 go_enter Tryz.func141,Tryz.ntmps141
 go_wp2_with fail
 go_loopg [11] l.length (λg s11 wr=>Hid (∃i:Nat,s11=.int .i64 i/\g=l.length-i/\(i<=l.length/\i<=r.length)/\W=wr/\EY Dg (l.drop i) (r.drop i)=EY Dg l r))
 case atStart=>exact EO ⟨0,rfl,rfl,⟨As _,As _⟩,rfl,rfl⟩
 case round=>
  obtain⟨i,rfl,rfl,⟨hi,hi2⟩,rfl,hcm⟩:=hrel.out
  clear hrel
  by_cases hlt:i<l.length
  ·have hx:l[i]? =some l[i]:=Ab hlt
   obtain⟨b,o,rfl,hcell⟩:=HC1.out i _ hx
   have g0:=hcell 0 _ rfl
   rw[D3,EA]at g0
   have hlt':decide (i<l.length)=true:=by simpa using hlt
   rw[Fa hlt]at hcm
   generalize l[i]=x at g0 hcm
   clear hcell hx
   by_cases hrt:i<r.length
   ·have hge:decide (r.length<=i)=false:=by simpa using hrt
    have hy:r[i]? =some r[i]:=Ab hrt
    obtain⟨b2,o2,rfl,hcell2⟩:=HC2.out i _ hy
    have g1:=hcell2 0 _ rfl
    rw[D3,EA]at g1
    rw[Fa hrt]at hcm
    generalize r[i]=y at g1 hcm
    clear hcell2 hy
    rw[Dq]at hcm
    have HCM:=EO hcm
    have HL:=EO hlt
    have HR:=EO hrt
    clear hcm hi hi2 hlt hrt
    by_cases h0:Dg x y=0
    ·have hne:(Dg x y !=0)=false:=by simp[h0]
     have H0:=EO h0
     clear h0
     go_wp2_with (go_at_call 101;refine(E4 _ _ _).mono ?_;rintro e w' ⟨rfl,rfl⟩)
     go_roundg (l.length- (i+1))
     case measure=>have:=HL.out;omega
     case rel=>
      have hl:=HL.out
      have hr:=HR.out
      have hM:=HM1.out
      refine EO ⟨i+1,by simp only[maxLen]at hM;rw[rP (by omega)];simp,rfl,⟨by omega,by omega⟩,rfl,?_⟩
      have:=HCM.out
      rwa [if_pos H0.out]at this
    ·have hne:(Dg x y !=0)=true:=by simpa using h0
     have H0:=EO h0
     clear h0
     go_wp2_with (go_at_call 101;refine(E4 _ _ _).mono ?_;rintro e w' ⟨rfl,rfl⟩)
     go_ret
     have:=HCM.out
     rw[if_neg H0.out]at this
     rw[<-this]
     exact⟨rfl,rfl⟩
   ·have hge:decide (r.length<=i)=true:=by simpa using hrt
    rw[Gh (show r.length<=i by omega)]at hcm
    have HCM:=EO hcm
    clear hcm hi hi2 hrt
    go_wp2_with fail
    go_ret
    rw[<-HCM.out]
    exact⟨rfl,rfl⟩
  ·have hlt':decide (i<l.length)=false:=by simpa using hlt
   rw[Gh (show l.length<=i by omega)]at hcm
   by_cases hrt:l.length<r.length
   ·have hlr:decide (l.length<r.length)=true:=by simpa using hrt
    obtain⟨z,t,hz⟩:∃z t,r.drop i=z::t:=by
     have:i<r.length:=by omega
     exact⟨_,_,Fa this⟩
    rw[hz]at hcm
    have HCM:=EO hcm
    clear hcm hi hi2 hlt hrt hz
    go_wp2_with fail
    go_ret
    rw[<-HCM.out]
    exact⟨rfl,rfl⟩
   ·have hlr:decide (l.length<r.length)=false:=by simpa using hrt
    rw[Gh (show r.length<=i by omega)]at hcm
    have HCM:=EO hcm
    clear hcm hi hi2 hlt hrt
    go_wp2_with fail
    go_ret
    rw[<-HCM.out]
    exact⟨rfl,rfl⟩
theorem Zk(W:World)(q:Nat)(os:Array Obj):Tch [] W (grow (W.drewN q) os):=
 ⟨rfl,rfl,rfl,by simp[grow],λk hk _=>by simp[grow,Hm hk]⟩
theorem qP {W wr:World} {q:Nat} {os:Array Obj} {o:Obj}(h:wr=grow (W.drewN q) os):∃q' os',wr.alloc o=grow (W.drewN q') os':=
 ⟨q,_,by rw[h,alloc_eq_grow,grow_grow]⟩
theorem gY {W wr:World} {q q':Nat} {os os':Array Obj} {o p:Obj}(h:wr=grow (W.drewN q) os):∃q2 os2,grow (((wr.alloc o).alloc p).drewN q') os'=grow (W.drewN q2) os2:=
 ⟨q+q',_,by
  rw[h,alloc_eq_grow,alloc_eq_grow,grow_grow,grow_grow]
  show grow (grow ((W.drewN q).drewN q') _) os'=_
  rw[grow_grow,World.drewN_drewN]⟩
set_option maxRecDepth 100000 in
set_option maxHeartbeats 1000000 in
theorem Sw(v1 v2:Value)(l r:List Edg)(W:World)(h1:E9 2 HU W v1 l)(h2:E9 2 HU W v2 r):Calls Tryz.prog 142 #[v1,v2,.func (.func 50) #[] #[]] W λe w'=>e=.returned (.int .i64 (EY BW l r))/\∃q os,w'=grow (W.drewN q) os:=by
 obtain⟨a1,c1,rfl,hm1,hc1⟩:=h1
 obtain⟨a2,c2,rfl,hm2,hc2⟩:=h2
 have HC1:=EO hc1
 have HC2:=EO hc2
 have HM1:=EO hm1
 have HM2:=EO hm2
 clear hc1 hc2 hm1 hm2
 go_enter Tryz.func142,Tryz.ntmps142
 go_wp2_with fail
 go_loopg [13] l.length (λg s13 wr=>Hid (∃i:Nat,s13=.int .i64 i/\g=l.length-i/\(i<=l.length/\i<=r.length)/\(∃q os,wr=grow (W.drewN q) os)/\EY BW (l.drop i) (r.drop i)=EY BW l r))
 case atStart=>exact EO ⟨0,rfl,rfl,⟨As _,As _⟩,⟨0,#[],by rw[grow_empty];rfl⟩,rfl⟩
 case round=>
  obtain⟨i,rfl,rfl,⟨hi,hi2⟩,⟨q,os,hwr⟩,hcm⟩:=hrel.out
  clear hrel
  have ht:=Zk W q os
  by_cases hlt:i<l.length
  ·have hx:l[i]? =some l[i]:=Ab hlt
   obtain⟨b,o,rfl,hcell⟩:=HC1.out i _ hx
   have g0:=FA ht (hcell 0 _ rfl)
   have g1:=FA ht (hcell 1 _ rfl)
   rw[<-hwr]at g0 g1
   rw[D3]at g0
   have hlt':decide (i<l.length)=true:=by simpa using hlt
   rw[Fa hlt]at hcm
   generalize l[i]=x at g0 g1 hcm
   clear hcell hx
   by_cases hrt:i<r.length
   ·have hge:decide (r.length<=i)=false:=by simpa using hrt
    have hy:r[i]? =some r[i]:=Ab hrt
    obtain⟨b2,o2,rfl,hcell2⟩:=HC2.out i _ hy
    have g2:=FA ht (hcell2 0 _ rfl)
    have g3:=FA ht (hcell2 1 _ rfl)
    rw[<-hwr]at g2 g3
    rw[D3]at g2
    rw[Fa hrt]at hcm
    generalize r[i]=y at g2 g3 hcm
    clear hcell2 hy
    rw[Dq]at hcm
    have HCM:=EO hcm
    have HL:=EO hlt
    have HR:=EO hrt
    have HWR:=EO hwr
    clear hcm hi hi2 hlt hrt hwr ht
    have g2':=FA (Tch.alloc wr (Obj.cells #[Value.int .i64 x.a,Value.int .i64 x.b] 103) []) g2
    have g3':=FA (Tch.alloc wr (Obj.cells #[Value.int .i64 x.a,Value.int .i64 x.b] 103) []) g3
    by_cases h0:BW x y=0
    ·have hne:(BW x y !=0)=false:=by simp[h0]
     have H0:=EO h0
     clear h0
     go_wp2_with (go_at_call 50;refine(PA x y _).mono ?_;rintro e w' ⟨rfl,q',os',rfl⟩)
     go_roundg (l.length- (i+1))
     case measure=>have:=HL.out;omega
     case rel=>
      have hl:=HL.out
      have hr:=HR.out
      have hM:=HM1.out
      refine EO ⟨i+1,by simp only[maxLen]at hM;rw[rP (by omega)];simp,rfl,⟨by omega,by omega⟩,gY HWR.out,?_⟩
      have:=HCM.out
      rwa [if_pos H0.out]at this
    ·have hne:(BW x y !=0)=true:=by simpa using h0
     have H0:=EO h0
     clear h0
     go_wp2_with (go_at_call 50;refine(PA x y _).mono ?_;rintro e w' ⟨rfl,q',os',rfl⟩)
     go_ret
     have:=HCM.out
     rw[if_neg H0.out]at this
     rw[<-this]
     exact⟨rfl,gY HWR.out⟩
   ·have hge:decide (r.length<=i)=true:=by simpa using hrt
    rw[Gh (show r.length<=i by omega)]at hcm
    have HCM:=EO hcm
    have HWR:=EO hwr
    clear hcm hi hi2 hrt hwr ht
    go_wp2_with fail
    go_ret
    rw[<-HCM.out]
    exact⟨rfl,qP HWR.out⟩
  ·have hlt':decide (i<l.length)=false:=by simpa using hlt
   rw[Gh (show l.length<=i by omega)]at hcm
   by_cases hrt:l.length<r.length
   ·have hlr:decide (l.length<r.length)=true:=by simpa using hrt
    obtain⟨z,t,hz⟩:∃z t,r.drop i=z::t:=by
     have:i<r.length:=by omega
     exact⟨_,_,Fa this⟩
    rw[hz]at hcm
    have HCM:=EO hcm
    have HWR:=EO hwr
    clear hcm hi hi2 hlt hrt hz hwr ht
    go_wp2_with fail
    go_ret
    rw[<-HCM.out]
    exact⟨rfl,_,_,HWR.out⟩
   ·have hlr:decide (l.length<r.length)=false:=by simpa using hrt
    rw[Gh (show r.length<=i by omega)]at hcm
    have HCM:=EO hcm
    have HWR:=EO hwr
    clear hcm hi hi2 hlt hrt hwr ht
    go_wp2_with fail
    go_ret
    rw[<-HCM.out]
    exact⟨rfl,_,_,HWR.out⟩
set_option maxRecDepth 100000 in
theorem qA(s:Nat)(a b c d:Int)(W:World)(c0:W.cell? ⟨s,0,none⟩=some (.int .i64 a))(c1:W.cell? ⟨s,1,none⟩=some (.int .i64 b))(c2:W.cell? ⟨s,2,none⟩=some (.int .i64 c))(c3:W.cell? ⟨s,3,none⟩=some (.int .i64 d)):
  Calls Tryz.prog 100 #[.slice (some ⟨s,0,none⟩) 4 4] W λe w'=>e=.returned (.int .i64 (WV [a,b,c,d]))/\W=w':=by
 have hz:((0:Int) !=0)=false:=by simp
 by_cases ha:a=0
 ·subst ha
  by_cases hb:b=0
  ·subst hb
   by_cases hc:c=0
   ·subst hc
    by_cases hd:d=0
    ·subst hd
     go_enter Tryz.func100,Tryz.ntmps100
     go_wp2_with fail
     refine wp_loop_rounds 5 ?_
     rw[rounds_succ]
     go_wp2_with fail
     rw[rounds_succ]
     go_wp2_with fail
     rw[rounds_succ]
     go_wp2_with fail
     rw[rounds_succ]
     go_wp2_with fail
     rw[rounds_succ]
     go_wp2_with fail
     go_ret
     exact⟨rfl,rfl⟩
    ·have hd':(d !=0)=true:=by simpa using hd
     have e1:WV [0,0,0,d]=d:=by simp[WV,hd]
     rw[e1]
     clear e1 hd
     go_enter Tryz.func100,Tryz.ntmps100
     go_wp2_with fail
     refine wp_loop_rounds 4 ?_
     rw[rounds_succ]
     go_wp2_with fail
     rw[rounds_succ]
     go_wp2_with fail
     rw[rounds_succ]
     go_wp2_with fail
     rw[rounds_succ]
     go_wp2_with fail
     go_ret
     exact⟨rfl,rfl⟩
   ·have hc':(c !=0)=true:=by simpa using hc
    have e1:WV [0,0,c,d]=c:=by simp[WV,hc]
    rw[e1]
    clear e1 hc
    go_enter Tryz.func100,Tryz.ntmps100
    go_wp2_with fail
    refine wp_loop_rounds 3 ?_
    rw[rounds_succ]
    go_wp2_with fail
    rw[rounds_succ]
    go_wp2_with fail
    rw[rounds_succ]
    go_wp2_with fail
    go_ret
    exact⟨rfl,rfl⟩
  ·have hb':(b !=0)=true:=by simpa using hb
   have e1:WV [0,b,c,d]=b:=by simp[WV,hb]
   rw[e1]
   clear e1 hb
   go_enter Tryz.func100,Tryz.ntmps100
   go_wp2_with fail
   refine wp_loop_rounds 2 ?_
   rw[rounds_succ]
   go_wp2_with fail
   rw[rounds_succ]
   go_wp2_with fail
   go_ret
   exact⟨rfl,rfl⟩
 ·have ha':(a !=0)=true:=by simpa using ha
  have e1:WV [a,b,c,d]=a:=by simp[WV,ha]
  rw[e1]
  clear e1 ha
  go_enter Tryz.func100,Tryz.ntmps100
  go_wp2_with fail
  refine wp_loop_rounds 1 ?_
  rw[rounds_succ]
  go_wp2_with fail
  go_ret
  exact⟨rfl,rfl⟩
theorem qO(W:World)(A B C:Obj)(m:Nat)(os:Array Obj):∃q os',(grow (((W.alloc A).alloc B).drewN m) os).alloc C=grow (W.drewN q) os':=by
 refine⟨m,#[A]++(#[B]++(os++#[C])),?_⟩
 rw[alloc_eq_grow,alloc_eq_grow,alloc_eq_grow]
 show grow (grow (grow (grow (W.drewN m) #[A]) #[B]) os) #[C]=_
 rw[grow_grow,grow_grow,grow_grow]
theorem qN(W:World)(A B:Obj)(m:Nat)(os:Array Obj):∃q os',grow (((W.alloc A).alloc B).drewN m) os=grow (W.drewN q) os':=by
 refine⟨m,#[A]++(#[B]++os),?_⟩
 rw[alloc_eq_grow,alloc_eq_grow]
 show grow (grow (grow (W.drewN m) #[A]) #[B]) os=_
 rw[grow_grow,grow_grow]
theorem OL(w:World)(cs:Array Value)(T:TypeId) {s i:Nat} {v:Value}(hs:s=w.heap.size)(h:cs[i]? =some v):(w.alloc (.cells cs T)).cell? ⟨s,i,none⟩=some v:=by
 subst hs
 simp[h]
theorem XC(W:World)(q:Nat)(os:Array Obj):Ij W.drew (grow (W.drewN q) os):=λk hk=>by
 have hk':k<W.heap.size:=hk
 show(W.heap++os)[k]? =W.heap[k]?
 exact Hm hk'
theorem Ef {k:Nat} {α:Type} {enc:α->List Value} {W:World} {v:Value} {l:List α}(h:E9 k enc W v l):∃a c,v=.slice a l.length c:=by
 obtain⟨a,c,h,_⟩:=h
 exact⟨a,c,h⟩
open Go.Proofs in
set_option maxRecDepth 100000 in
set_option maxHeartbeats 2000000 in
theorem Un(s1 s2 r1 r2:Value)(p q:Pt)(W:World)(h1:E9 1 KG W s1 p.labels)(h2:E9 2 HU W s2 p.edges)(h3:E9 1 KG W r1 q.labels)(h4:E9 2 HU W r2 q.edges):
  Calls Tryz.prog 99 #[.agg #[s1,s2],.agg #[r1,r2]] W λe w'=>e=.returned (.int .i64 (Ia p q))/\∃n os,w'=grow (W.drewN n) os:=by
 have ht:∀A B,Tch [] W ((W.alloc A).alloc B).drew:=λA B=>((Tch.alloc W A []).trans0 ((Tch.alloc _ B []).trans0 (Tch.drew _ [])))
 obtain⟨a1,c1,rfl⟩:=Ef h1
 obtain⟨a2,c2,rfl⟩:=Ef h2
 obtain⟨a3,c3,rfl⟩:=Ef h3
 obtain⟨a4,c4,rfl⟩:=Ef h4
 have H1:=EO h1
 have H2:=EO h2
 have H3:=EO h3
 have H4:=EO h4
 have HT:=EO ht
 clear h1 h2 h3 h4 ht
 go_enter Tryz.func99,Tryz.ntmps99
 go_wp2_with fail
 refine GP [101,141,142,100] [0,1,0,0,1,0,2,0,1,0,1,2,0,1,0,0,1,0,2,0,1,0,1,2,6,2,0] [0,3,7,9,12,15,19,21,1,2,4,5,8,10,13,14,16,17,20,22,6,11,18,23,24,25,26] [0,1,3,0,8,24,63,0,128,0,512,2047,0,4096,12288,0,32768,98304,262143,0,524288,0,2097152,8388607,16777215,33554431,67108863] (by kernel_rfl) (by kernel_rfl) ?_
 go_wp2_with (first|(refine CO rfl rfl rfl rfl (λ_ _=>?_))|(refine D8 rfl rfl rfl (λ_ _=>?_)))
 refine Fo rfl rfl rfl (λK1 hK1=>?_)
 go_wp2_with (go_at_call 101;refine(E4 _ _ _).mono ?_;rintro e w' ⟨rfl,rfl⟩)
 refine hK1 _ _ (Ij.refl _) ?_
 go_wp2_with (first|(refine CO rfl rfl rfl rfl (λ_ _=>?_))|(refine D8 rfl rfl rfl (λ_ _=>?_)))
 refine Fo rfl rfl rfl (λK2 hK2=>?_)
 go_wp2_with (go_at_call 141;refine(Sv _ _ _ _ _ (H1.out.keep (HT.out _ _)) (H3.out.keep (HT.out _ _))).mono ?_;rintro e w' ⟨rfl,rfl⟩)
 refine hK2 _ _ (Ij.refl _) ?_
 go_wp2_with (first|(refine CO rfl rfl rfl rfl (λ_ _=>?_))|(refine D8 rfl rfl rfl (λ_ _=>?_)))
 refine Fo rfl rfl rfl (λK3 hK3=>?_)
 go_wp2_with (go_at_call 101;refine(E4 _ _ _).mono ?_;rintro e w' ⟨rfl,rfl⟩)
 refine hK3 _ _ (Ij.refl _) ?_
 go_wp2_with (first|(refine CO rfl rfl rfl rfl (λ_ _=>?_))|(refine D8 rfl rfl rfl (λ_ _=>?_)))
 refine Fo rfl rfl rfl (λK4 hK4=>?_)
 go_wp2_with (go_at_call 142;refine(Sw _ _ _ _ _ (H2.out.keep (HT.out _ _)) (H4.out.keep (HT.out _ _))).mono ?_;rintro e w' ⟨rfl,n,os,rfl⟩)
 refine hK4 _ _ (XC _ _ _) ?_
 go_wp2_with (first|(refine CO rfl rfl rfl rfl (λ_ _=>?_))|(refine D8 rfl rfl rfl (λ_ _=>?_)))
 refine Fo rfl rfl rfl (λK5 hK5=>?_)
 go_wp2_with fail
 refine Calls.mono (qA _ (Dg p.labels.length q.labels.length) (EY Dg p.labels q.labels) (Dg p.edges.length q.edges.length) (EY BW p.edges q.edges) _ ?c0 ?c1 ?c2 ?c3) ?m
 case c0=>exact OL _ _ _ (by simp[grow]) rfl
 case c1=>exact OL _ _ _ (by simp[grow]) rfl
 case c2=>exact OL _ _ _ (by simp[grow]) rfl
 case c3=>exact OL _ _ _ (by simp[grow]) rfl
 case m=>
  rintro e w' ⟨rfl,rfl⟩
  refine hK5 _ _ (Ij.refl _) ?_
  go_wp2_with (first|(refine CO rfl rfl rfl rfl (λ_ _=>?_))|(refine D8 rfl rfl rfl (λ_ _=>?_))|refine L6 ?_)
  go_ret
  exact⟨rfl,qO _ _ _ _ _ _⟩
set_option maxRecDepth 100000 in
theorem Z2(s1 s2 r1 r2:Value)(n m:Int)(p q:Pt)(W:World)(h1:E9 1 KG W s1 p.labels)(h2:E9 2 HU W s2 p.edges)(h3:E9 1 KG W r1 q.labels)(h4:E9 2 HU W r2 q.edges):
  Calls Tryz.prog 98 #[.agg #[s1,s2,.int .i64 n],.agg #[r1,r2,.int .i64 m]] W λe w'=>e=.returned (.int .i64 (Ia p q))/\∃n os,w'=grow (W.drewN n) os:=by
 have ht:∀A B,Tch [] W ((W.alloc A).alloc B):=λA B=>((Tch.alloc W A []).trans0 (Tch.alloc _ B []))
 obtain⟨a1,c1,rfl⟩:=Ef h1
 obtain⟨a2,c2,rfl⟩:=Ef h2
 obtain⟨a3,c3,rfl⟩:=Ef h3
 obtain⟨a4,c4,rfl⟩:=Ef h4
 have H1:=EO h1
 have H2:=EO h2
 have H3:=EO h3
 have H4:=EO h4
 have HT:=EO ht
 clear h1 h2 h3 h4 ht
 go_enter Tryz.func98,Tryz.ntmps98
 go_wp2_with (go_at_call 99;refine(Un _ _ _ _ p q _ (H1.out.keep (HT.out _ _)) (H2.out.keep (HT.out _ _)) (H3.out.keep (HT.out _ _)) (H4.out.keep (HT.out _ _))).mono ?_;rintro e w' ⟨rfl,k,os,rfl⟩)
 go_ret
 exact⟨rfl,qN _ _ _ _ _⟩
end Go.Proofs.YtjejpdfldmempaaGreatDoor
end
section
namespace Go.Proofs.YtjejpdfldmempaaGreatDoor
open Go.Sx Go.RowKit Go.Reg Go.Gr
def FJ(r:Pt×Int):Da:=.agg [L3 r.1,.int .i64 r.2]
theorem sJ {α:Type} [Inhabited α] {d:α->Da} {enc:α->List Value} {k:Nat}(he:∀x,(enc x).length=k)(hd:∀{O:List Nat} {w:World} {l:List α} {css:List (List Value)},Al O w (l.map d) css->css=l.map enc) {O:List Nat} {w:World} {v:Value} {l:List α}(h:RepC O w (.list k (l.map d)) [v]):E9 k enc w v l:=by
 simp only[RepC]at h
 obtain⟨a,c,css,e,hl1,hl2,hr,_,hc⟩:=h
 obtain rfl:=hd hr
 rw[Ac]at e hl1
 simp only[Dh,and_true]at e
 subst e
 refine⟨a,c,rfl,Cv hl1 hl2,λi x hx=>?_⟩
 rcases hc with h0|⟨b,o,rfl,_,_,hcell⟩
 ·rw[List.map_eq_nil_iff]at h0;subst h0;simp at hx
 ·refine⟨b,o,rfl,λj u hu=>?_⟩
  have hj:j<k:=by rw[<-he x];exact(Ad.1 hu).1
  have hf:=Mx he l i x j hx hj
  have:=hcell (i*k+j) u (by
   rw[show(l.map enc).flatten=l.flatMap enc from by rw[List.flatMap_def],hf]
   rw[Ab (by rw[he];exact hj)]at hu
   first|exact hu|(rw[<-hu];simp))
  rw[IP];exact this
theorem UW {O:List Nat} {w:World}:∀{l:List Int} {css:List (List Value)},Al O w (l.map dI) css->css=l.map KG
 |[],css,h=>by simpa only[B4,Al]using h
 |
  e::l,css,h=>by
  simp only[Ap,Al,dI,RepC]at h
  obtain⟨c1,c2,rfl,rfl,h⟩:=h
  rw[UW h];rfl
theorem tU {O:List Nat} {w:World} {v:Value} {l:List Int}(h:RepC O w (Bx l) [v]):E9 1 KG w v l:=sJ (enc:=KG) (k:=1) (λ_=>rfl) UW h
theorem tV {O:List Nat} {w:World} {v:Value} {l:List Edg}(h:RepC O w (Er l) [v]):E9 2 HU w v l:=sJ Qt Qv h
theorem Nb {O:List Nat} {w:World} {r:Pt×Int} {c:List Value}(h:RepC O w (FJ r) c):∃a b,c=[a,b,.int .i64 r.2]/\E9 1 KG w a r.1.labels/\E9 2 HU w b r.1.edges:=by
 simp only[FJ,L3,RepC,RepCs]at h
 obtain⟨_,_,rfl,⟨c1,_,rfl,h1,c2,_,rfl,h2,rfl⟩,_,_,rfl,rfl,rfl⟩:=h
 have l1:=Ev _ _ h1
 have l2:=Ev _ _ h2
 obtain⟨a,rfl⟩:=BS.1 (show c1.length=1 from l1)
 obtain⟨b,rfl⟩:=BS.1 (show c2.length=1 from l2)
 exact⟨a,b,rfl,tU h1,tV h2⟩
open Go.Sort in
theorem tQ {α:Type} {f:α->Pt}:SWO (ltOf λx y=>Ia (f x) (f y))where
 irrefl x:=by have:=OY.self (f x);simp[ltOf];omega
 trans x y z h1 h2:=by
  simp only[ltOf,decide_eq_true_eq]at*
  exact OY.trans _ _ _ h1 h2
 ntrans x y z h1 h2:=by
  simp only[ltOf,decide_eq_false_iff_not]at*
  intro h3
  by_cases h0:Ia (f x) (f y)=0
  ·rw[(OY.eq0 _ _).1 h0]at h3;exact h2 h3
  ·exact h2 (OY.trans _ _ _ ((OY.anti (f x) (f y)).2 (by omega)) h3)
abbrev XW(O:List Nat)(w:World):={c:List Value×(Pt×Int)//RepC O w (FJ c.2) c.1}
def QP {O:List Nat} {w:World}(x:XW O w):List Value:=x.1.1
theorem gB(O:List Nat)(w:World)(k:Nat):RepC O w (.list k []) [.slice none 0 0]:=by
 simp only[RepC]
 exact⟨none,0,[],rfl,by simp,by unfold maxLen;omega,by simp[Al],by simp,.inl trivial⟩
instance {O:List Nat} {w:World}:Inhabited (XW O w):=⟨⟨([.slice none 0 0,.slice none 0 0,.int .i64 0],(⟨[],[]⟩,0)),by
 simp only[FJ,L3,RepC,RepCs]
 exact⟨[.slice none 0 0,.slice none 0 0],_,rfl,⟨[.slice none 0 0],_,rfl,gB O w 1,[.slice none 0 0],_,rfl,gB O w 2,rfl⟩,_,_,rfl,rfl,rfl⟩⟩⟩
theorem J6 {O:List Nat} {w:World}(x:XW O w):(QP x).length=3:=Ev _ _ x.2
theorem Vv {O:List Nat} {w:World}(x:XW O w):∀u∈QP x,u.oneCell'=true:=by
 obtain⟨a,b,e,h1,h2⟩:=Nb x.2
 obtain⟨_,_,rfl⟩:=Ef h1
 obtain⟨_,_,rfl⟩:=Ef h2
 intro u hu
 unfold QP at hu
 rw[e]at hu
 simp only[Ar,bT,or_false]at hu
 rcases hu with rfl|rfl|rfl<;>rfl
theorem TW {O:List Nat} {w:World}:∀{R:List (Pt×Int)} {css:List (List Value)},Al O w (R.map FJ) css->∃xs:List (XW O w),xs.map QP=css/\xs.map (λx=>x.1.2)=R
 |[],css,h=>by simp only[B4,Al]at h;subst h;exact⟨[],rfl,rfl⟩
 |
  r::R,css,h=>by
  simp only[Ap,Al]at h
  obtain⟨c1,c2,rfl,h1,h2⟩:=h
  obtain⟨xs,e1,e2⟩:=TW h2
  exact⟨⟨(c1,r),h1⟩::xs,by rw[Ap,e1];rfl,by rw[Ap,e2]⟩
theorem TG {O:List Nat} {w:World}:∀xs:List (XW O w),Al O w ((xs.map λx=>x.1.2).map FJ) (xs.map QP)
 |[]=>by simp[Al]
 |
  x::xs=>by
  simp only[Ap,Al]
  exact⟨_,_,rfl,x.2,TG xs⟩
theorem PU {S O:List Nat} {w w':World}(t:Tch S w w')(h:∀b∈S,b∈O):Later O w O w':=⟨t.size,λb hb hn=>t.blk b hb (λhm=>hn (h b hm)),λ_ hn _=>hn⟩
open Go.Sort in
theorem Zt(R:List (Pt×Int))(hl:R.length<=4294967296):XU C3 97 100 3 (R.map FJ) [.func (.func 98) [] []] (λ_ ds=>∃out:List (Pt×Int),ds=out.map FJ/\out.Perm R/\out.Pairwise (λa b=>¬Ia b.1 a.1<0)):=by
 intro O w v css us hs hb hO hr hk hg hus
 obtain⟨u,us',rfl,h1,h2⟩:=Cb hus
 obtain rfl:=ED h2
 obtain⟨cs,r,rfl⟩:=h1
 simp only[RepC,Al]at r
 obtain⟨_,_,rfl,rfl,rfl⟩:=r
 obtain⟨xs,rfl,rfl⟩:=TW hr
 have hun:∀w':World,Rep O w' (.tuple []) (.tuple #[]):=λw'=>⟨[.tuple #[]],by simp only[RepC,Al];exact⟨[],rfl,rfl⟩,rfl⟩
 have hs2:Sl 100 3 QP w v xs:=by
  unfold Sl at hs⊢
  rw[Ac,bU]at hs
  exact hs
 refine⟨by kernel_rfl,?_⟩
 rcases hs2.shape with⟨rfl,rfl⟩|⟨g,cap,rfl,hc⟩
 ·refine(AnyF.slices_SortFunc_none Tryz.sortR none 0 _ w).mono ?_
  rintro e w' ⟨rfl,rfl⟩
  exact⟨.tuple #[],.tuple [],[],[],rfl,⟨[],rfl,.refl _,.nil⟩,hs,by simp[Al],by simp,hun _,Tch.refl _ _⟩
 ·have hgO:∀b∈[g],b∈O:=λb hb2=>hb b (by rw[AG.1 hb2];simp[Value.ownBlock])
  rw[Ac]at hl
  refine(AnyQ.slices_SortFunc Tryz.sortR 3 Tryz.isAgg100 Tryz.sizeOf100 QP J6 Vv (λx y=>Ia x.1.2.1 y.1.2.1) (tQ (f:=λx:XW O w=>x.1.2.1)) 98 #[] g 0 cap xs.toArray w
   (enters_of Tryz.func98 (by kernel_rfl) rfl) (λm os dk hdk x y=>?_) (hs2.holdsK J6 (by decide)) (hs2.lt rfl) (by simp;omega)).mono ?_
  ·obtain⟨_,hT⟩:=hs2.sorted J6 (by decide) dk (by simpa using hdk) m os
   obtain⟨a,b,e1,h1,h2⟩:=Nb (RepC.later (PU hT hgO) _ _ x.2)
   obtain⟨a',b',e2,h3,h4⟩:=Nb (RepC.later (PU hT hgO) _ _ y.2)
   have e1':QP x=_:=e1
   have e2':QP y=_:=e2
   rw[e1',e2']
   exact Z2 a b a' b' _ _ _ _ _ h1 h2 h3 h4
  ·rintro e w' ⟨rfl,d,n,os,hp,hso,rfl⟩
   obtain⟨hp1,hp2,hp3⟩:=hp
   have hd:d.size=xs.length:=by simpa using hp1
   obtain⟨hS,hT⟩:=hs2.sorted J6 (by decide) d hd n os
   have hperm:d.toList.Perm xs:=by
    have e1:d.extract 0 xs.toArray.size=d:=by rw[<-hp1];exact Array.extract_size
    have e2:xs.toArray.extract 0 xs.toArray.size=xs.toArray:=Array.extract_size
    rw[e1,e2]at hp3
    exact hp3
   refine⟨.tuple #[],.tuple [],(d.toList.map λx=>x.1.2).map FJ,d.toList.map QP,rfl,⟨_,rfl,hperm.map _,?_⟩,?_,Al.later (PU hT hgO) _ _ (TG _),?_,hun _,?_⟩
   ·rw[BL,AI]
    intro i j hi hj hij
    have hj':j<xs.length:=by rw[<-hd];simpa using hj
    have hi':i<xs.length:=by omega
    have:=hso i j (As _) hij (by simpa using hj')
    rw[getElem!_pos d j (by omega),getElem!_pos d i (by omega)]at this
    simpa[ltOf]using this
   ·unfold Sl at hS⊢
    rw[Ac,bU]
    exact hS
   ·intro x hx
    obtain⟨e,_,rfl⟩:=Aq.1 hx
    exact⟨J6 e,Vv e⟩
   ·simpa[Value.ownBlock]using hT
end Go.Proofs.YtjejpdfldmempaaGreatDoor
end
section
namespace Go.Proofs.YtjejpdfldmempaaGreatDoor
open Go.Sx Go.RowKit Go.Reg Go.Gr
set_option maxRecDepth 100000
def TZ(q:ByteArray×RowV):Pt×Int:=(q.2.p,q.2.n)
theorem OZ(m:List (ByteArray×RowV)):(IV m).map (·.2)=m.map TZ:=by unfold IV;rw[QR];rfl
def P6:List (Nat×Plan):=[(7,.leaf [0,0,1,2,0,0,1,2,0,0,3] [0,1,4,5,2,6,3,7,8,9,10] [0,1,3,7,0,16,48,127,255,511,1023])]
def Tx:List FuncId:=[60,61]
theorem bE:BQ Tryz.prog Tx P6 (Tryz.f45.body.getD .skip)=true:=by kernel_rfl
theorem Zy(vs:Array Value)(w:World):(callFunc 45 vs).run C1.P w=.ok (.enter 45 vs) w:=by kernel_rfl
theorem T8(l:List (Pt×Int))(m:List (ByteArray×RowV))(X:List (Value×Da))(ht:MK l m)(hl:l.length<=1000000)(hp:∀x∈l,x.1.labels.length<=1000/\x.1.edges.length<=1000):
  CG C3 45 [.own 900] (sT m X) [900] (λd σ=>d=.own 910/\σ=sT m []++[(910,.slice 100 3 (l.map FJ))]):=by
 have hml:m.length<=1000000:=by have:=ht.perm.length_eq;rw[OZ,Ac]at this;omega
 have hpm:∀q∈m,q.2.p.labels.length<=1000/\q.2.p.edges.length<=1000:=λq hq=>hp _ (TC ht hq)
 refine FD E6 (pl:=P6) (G:=Tx) Tryz.func45 rfl Tryz.ntmps45 Zy bE (by simp) 999 rfl ?_
 intro vs
 (conv=>whnf)
 refine Uw 901 rfl rfl rfl ⟨by decide,by decide,by decide⟩ rfl ?_
 intro r
 (conv=>whnf)
 refine AN (ι:=List (ByteArray×RowV)×List (Pt×Int)) (λx=>(x.2++x.1.map TZ).Perm (m.map TZ)/\∀q∈x.1,q∈m) (λ_=>[(12,.d (.raw (.pointer (some ⟨r,0,none⟩)))),(3,.own 3)])
  (λx=>[(3,.slice 100 3 (x.2.map FJ)),(999,.ghost vs [.own 900]),(900,.cells 106 [.own 901]),(901,(G5 Nc m r (.it x.1)).own)]) (λx=>x.1.length) (m,[]) (λ_=>rfl) ⟨.refl _,λq h=>h⟩ (.own 3 3 100 3 rfl rfl (.refl _ _)) ⟨rfl,rfl,trivial⟩ ⟨rfl,rfl,rfl,rfl,trivial⟩ ?_
 rintro⟨todo,done⟩ ⟨hpe,hin⟩
 refine IM Tx P6 ?_
 (conv=>whnf)
 refine WW 901 r rfl rfl rfl rfl ⟨by decide,by decide,by decide⟩ rfl ?_ ?_
 ·rintro rfl
  rw[B4,C4]at hpe
  have hdl:done.length<=1000000:=by rw[hpe.length_eq,Ac];exact hml
  (conv=>whnf)
  refine VC (i:=3) rfl rfl (Zt done (by omega)) ?_
  rintro y ds ⟨out,rfl,ho1,ho2⟩
  have e:out=l:=Z1 OY (ho1.trans (hpe.trans (by rw[<-OZ];exact ht.perm))) ht.sort ho2
  subst e
  (conv=>whnf)
  exact⟨_,_,[(3,910)],[(900,_),(901,_),(3,_)],.lo (.refl _ _),rfl,⟨rfl,rfl,rfl,trivial⟩,rfl,rfl,rfl⟩
 ·intro q todo' hq
  have hqm:q∈m:=hin q (hq.symm.subset (.head _))
  obtain⟨hl1,hl2⟩:=hpm q hqm
  have hc1:=D4.up3 (Ib q.2.p.labels (by omega))
  have hc2:=D4.up3 (RW q.2.p.edges (by omega))
  have hf1:EU (q.2.p.labels.map dI)=true:=FI dI (λ_=>rfl) _
  have hf2:EU (q.2.p.edges.map dE)=true:=FI dE (λ_=>rfl) _
  have hdl:done.length<=1000000:=by
   have:=hpe.length_eq
   rw[Ae,Ac,Ac]at this
   simp only at this
   omega
  have hdm:(done.map FJ).length=done.length:=Ac _
  (conv=>whnf)
  (repeat' ((first|refine Ai ?_ ?_|refine Ux 901 r rfl rfl rfl ⟨by decide,by decide,by decide⟩ rfl ?_|refine Jk E6 5 rfl rfl rfl rfl rfl rfl rfl q.2.h1 q.2.h2 ⟨by decide,by decide⟩ rfl ?_|refine Q5 20 rfl rfl (λh=>(Rk (M:=Nc) (i:=901) (r:=r) (ph:=.it todo') h rfl hqm).1) hc1 hf1 ?_|refine Q5 24 rfl rfl (λh=>(Rk (M:=Nc) (i:=901) (r:=r) (ph:=.it todo') h rfl hqm).2) hc2 hf2 ?_|refine nx ?_|refine A5 (λ_=>?_) (λ_=>?_)|exact AA)<;>conv=>whnf))
  refine qB E6 (G:=[]) 28 (.frz 20 rfl (.frz 24 rfl (.refl _ _))) rfl (.inr rfl) ?_
  ((conv=>whnf);repeat' ((first|refine odw ?_|refine nx ?_|refine A5 (λ_=>?_) (λ_=>?_))<;>conv=>whnf))
  refine⟨(todo',done++[TZ q]),_,_,⟨?_,λx hx=>hin x (hq.symm.subset (.tail _ hx))⟩,.refl _ _,⟨rfl,rfl,trivial⟩,⟨by rw[AF];rfl,rfl,rfl,rfl,trivial⟩,?_⟩
  ·refine List.Perm.trans ?_ hpe
   rw[Bz]
   exact((hq.map TZ).symm).append_left done
  ·have:=hq.length_eq
   simp only[Ax]at this⊢
   omega
end Go.Proofs.YtjejpdfldmempaaGreatDoor
end
section
namespace Go.Gr
open Go.Proofs.YtjejpdfldmempaaGreatDoor
def sortI(l:List Int):List Int:=l.mergeSort λx y=>decide (x<=y)
end Go.Gr
end
section
namespace Go.Gr
open Go.Proofs.YtjejpdfldmempaaGreatDoor
def O3(E:List Edg)(v:Int):Nat:=E.countP λe=>decide (e.a=v\/e.b=v)
section
variable {n:Nat} {p q:Pt} {b:List Int}
end
end Go.Gr
end
section
namespace Go.Proofs.YtjejpdfldmempaaGreatDoor
open Go.RowKit Go.Maps Go.Sort Go.Shelf
variable {P:Program} {ρ:Ren}
def jC(F:Fence)(n:Nat)(P:Program)(g:Nat)(lb:Array Value)(S:List Int->Prop)(N:Nat)(w:World):Prop:=
 ∀(l:Nat) (J:List Int->World->Prop) (W:World),Below w.heap.size w W->AbidesFrom W.heap.size J->(∀pre W1,J pre W1->Below w.heap.size w W1)->
  (∀pre x W1,J pre W1->pre.length<N->YieldAt F (n-1) P l #[encZ x] W1 λe W'=>e=.returned (.bool true)/\J (pre++[x]) W'/\KeepsWalks W1 W')->
  J [] W->
  CallsIn F n P g (#[.func (.yield l) #[] #[]]++lb) W λe W'=>(∃v,e=.returned v)/\∃xs,S xs/\J xs W'
set_option maxRecDepth 100000 in
set_option maxHeartbeats 2000000 in
theorem QQ(L:SlLaysZI.n11 P ρ)(F:Fence)(n:Nat)(h11:F.fn (ρ.f 11))(hro:F.round=none)(hn:2<=n)(g:Nat)(lb:Array Value)(hFg:F.fn g)(eg:∀args w,(callFunc g args).run P w=.ok (.enter g args) w)
  (S:List Int->Prop) (N:Nat) (hN:N<=maxLen) (hNb:N*8<=140737488355328) (w:World) (hseq:jC F (n-1) P g lb S N w):
  CallsIn F n P (ρ.f 11) #[.slice none 0 0,.func (.func g) #[] lb] w λe w'=>∃(v:Value) (ss:List Int),e=.returned v/\S ss/\w'.ownsRow w.heap.size (ρ.t 26) 1 v ss.length (ss.map encZ)/\(v=.slice none 0 0↔ss=[])/\Below w.heap.size w w':=by
 have h1:1<=n:=by omega
 have mixed:=L.mixed;have t0:=L.t0;have a0:=L.a0;have z0:=L.z0;have v0:=L.v0;have t24:=L.t24;have a24:=L.a24;have z24:=L.z24;have v24:=L.v24;have t26:=L.t26;have a26:=L.a26;have z26:=L.z26;have v26:=L.v26;have t28:=L.t28;have a28:=L.a28;have z28:=L.z28;have v28:=L.v28
 have hne:ρ.t 24≠ρ.t 26:=λe=>by have h:=L.t24;rw[e,L.t26]at h;cases h
 have u0:=run_underlying L.t0;have u24:=run_underlying L.t24;have u26:=run_underlying L.t26;have u28:=run_underlying L.t28
 obtain⟨_,_,FG⟩:=L.f11
 refine callsIn_of_wp_marks FG rfl h11 ?_ hro
 simp only[SlBodyZ.n11_ntmps ρ,Ch,Ax,Cf,Nat.reduceAdd,Nat.reduceSub,O6,O5,VZ,QF,CN,Bo]
 gi_wp2
 refine wpIn_rangeFunc ?_
 intro fn hfn
 rw[hro]
 obtain⟨W0,hW0⟩:∃W0,w.alloc (.cells #[.slice none 0 0] (ρ.t 24))=W0:=⟨_,rfl⟩
 have hs0:W0.heap.size=w.heap.size+1:=by rw[<-hW0];simp
 have hv0:W0.heap[w.heap.size]? =some (.cells #[.slice none 0 0] (ρ.t 24) (0,0)):=by rw[<-hW0];exact World.alloc_heap_new w _
 have hb0:Below w.heap.size w W0:=by rw[<-hW0];exact(Below.refl _ w).alloc (Av _) _
 rw[hW0]
 obtain⟨W1,hW1⟩:∃W1,(W0.alloc (.deferred (some []))).alloc (.loop (AnyZI.apRec ρ fn (.func (.func g) #[] lb) w.heap.size W0.heap.size .ready none))=W1:=⟨_,rfl⟩
 have hold:∀k,k<W0.heap.size->W1.heap[k]? =W0.heap[k]? :=λk hk=>by
  rw[<-hW1];exact(Below.heap_alloc _ _ k (by simp;omega)).trans (Below.heap_alloc _ _ k hk)
 have hb1:Below w.heap.size w W1:=by rw[<-hW1];exact(hb0.alloc hb0.size _).alloc (by have:=hb0.size;simp;omega) _
 have hs1:W1.heap.size=W0.heap.size+2:=by rw[<-hW1];simp
 have hM:AnyZI.ApAt ρ w fn (.func (.func g) #[] lb) w.heap.size (W0.heap.size+1) W0.heap.size [] W1:=
  ⟨⟨_,(hold w.heap.size (by omega)).trans hv0,⟨rfl,.inl ⟨rfl,rfl⟩⟩,by simp⟩,
   by rw[<-hW1];have:=World.alloc_heap_new (W0.alloc (.deferred (some []))) (.loop (AnyZI.apRec ρ fn (.func (.func g) #[] lb) w.heap.size W0.heap.size .ready none));rwa [World.size_alloc]at this,
   by rw[<-hW1];exact(Below.heap_alloc _ _ _ (by simp)).trans (World.alloc_heap_new W0 _),hb1⟩
 refine⟨W0.heap.size+1,[{target:=.collected W0.heap.size,args:=#[]}],W1,{target:=.fn (.func g) lb,args:=#[.func (.yield (W0.heap.size+1)) #[] #[]]},W1,g,
  #[.func (.yield (W0.heap.size + 1)) #[] #[]] ++ lb, W1, ?_, ?_, ?_, ?_, fun _ => h1, ?_⟩
 ·rw[<-hW1];exact run_enterLoop_outer _ _ _ _ _
 ·simp[resolve,go_sem]
 ·intro f' hf';simp[Target.leads]at hf';subst hf';exact hFg
 ·simp[invoke,go_sem,eg]
 ·refine(hseq (W0.heap.size+1) (AnyZI.ApAt ρ w fn (.func (.func g) #[] lb) w.heap.size (W0.heap.size+1) W0.heap.size) W1 hb1 (AnyZI.ap_abides ρ _ _ _ _ _ _ _ hb1.size) (λpre W h=>h.below)
   (λpre x W hJ hl=>AnyZI.apYield {L with} F (n-1-1) w fn hfn _ w.heap.size (W0.heap.size+1) W0.heap.size (by omega) (by omega) (by omega) (Av _) (by omega) N hN hNb pre x W hJ hl) hM).mono ?_
  rintro e W2 ⟨⟨v0,rfl⟩,ss,hS,h2⟩
  obtain⟨v,hv,hrow,hnil⟩:=h2.box
  have hend:=run_endLoop (P:=P) h2.L (by simp[AnyZI.apRec])
  obtain⟨W3,hW3⟩:∃W3,W2.putObj (W0.heap.size+1) (.loop {AnyZI.apRec ρ fn (.func (.func g) #[] lb) w.heap.size W0.heap.size .ready none with state:=.exhausted})=W3:=⟨_,rfl⟩
  rw[hW3]at hend
  have hg3:W2.grownBy W3 (some (W0.heap.size+1)):=by rw[<-hW3];exact grownBy_putObj_a _ _ _
  have hv3:W3.heap[w.heap.size]? =some (.cells #[v] (ρ.t 24) (0,0)):=by rw[<-hW3];exact(World.putObj_heap_other (by omega)).trans hv
  have hK3:W3.heap[W0.heap.size]? =some (.deferred (some [])):=by rw[<-hW3];exact(World.putObj_heap_other (by omega)).trans h2.K
  have hrow3:=hrow.kept hg3 (ownsRow_ne_a hrow h2.L (λcur e=>by first|cases e|exact hne (Obj.cells.inj e).2.1))
  have hb3:Below w.heap.size w W3:=h2.below.grown hg3 h2.below.size (λk e=>by cases e;omega)
  obtain⟨hc3,hf3⟩:=cell_of_box_a hv3
  clear hW3
  refine⟨none,W3,hend,?_⟩
  gi_wp2
  rw[<-hs0]
  refine⟨by simp,.inl ⟨_,_,rfl,run_takeDeferred hK3,?_⟩⟩
  exact⟨_,results_tmp rfl _ _ _,v,ss,rfl,hS,hrow3.kept (grownBy_putObj_a _ _ _) (ownsRow_ne_a hrow3 hK3 (λcur e=>by first|cases e|exact hne (Obj.cells.inj e).2.1)),hnil,hb3.grown (grownBy_putObj_a _ _ _) hb3.size (λk e=>by cases e;omega)⟩
set_option maxHeartbeats 1000000 in
theorem V8(L:SlLaysZI.n8 P ρ)(F:Fence)(n:Nat)(h8:F.fn (ρ.f 8))(h11:F.fn (ρ.f 11))(hro:F.round=none)(hn:3<=n)(g:Nat)(lb:Array Value)(hFg:F.fn g)(eg:∀args w,(callFunc g args).run P w=.ok (.enter g args) w)
  (S:List Int->Prop) (N:Nat) (hN:N<=maxLen) (hNb:N*8<=140737488355328) (w:World) (hseq:jC F (n-1-1) P g lb S N w):
  CallsIn F n P (ρ.f 8) #[.func (.func g) #[] lb] w λe w'=>∃(v:Value) (ss:List Int),e=.returned v/\S ss/\w'.ownsRow w.heap.size (ρ.t 26) 1 v ss.length (ss.map encZ)/\(v=.slice none 0 0↔ss=[])/\Below w.heap.size w w':=by
 have h1:1<=n:=by omega
 have e11:∀args w,(callFunc (ρ.f 11) args).run P w=.ok (.enter (ρ.f 11) args) w:=L.f11.enters rfl
 have mixed:=L.mixed;have t0:=L.t0;have a0:=L.a0;have z0:=L.z0;have v0:=L.v0;have t24:=L.t24;have a24:=L.a24;have z24:=L.z24;have v24:=L.v24;have t26:=L.t26;have a26:=L.a26;have z26:=L.z26;have v26:=L.v26;have t28:=L.t28;have a28:=L.a28;have z28:=L.z28;have v28:=L.v28
 have u0:=run_underlying L.t0;have u24:=run_underlying L.t24;have u26:=run_underlying L.t26;have u28:=run_underlying L.t28
 obtain⟨_,_,FG⟩:=L.f8
 refine callsIn_of_wp FG rfl h8 ?_ hro
 simp only[SlBodyZ.n8_ntmps ρ,Ch,Ax,Cf,Nat.reduceAdd,Nat.reduceSub,O6,O5,VZ,QF,CN,Bo]
 gi_wp2_with (gi_at_fn (ρ.f 11);refine(QQ {L with} F (n-1) h11 hro (by omega) g lb hFg eg S N hN hNb _ hseq).mono ?_;rintro e w' ⟨v,ss,rfl,hS,hrow,hnil,hb⟩)
 go_ret
 exact⟨v,ss,rfl,hS,hrow,hnil,hb⟩
set_option maxRecDepth 100000 in
set_option maxHeartbeats 2000000 in
theorem Pm(L:SlLaysZI.n6 P ρ)(F:Fence)(n:Nat)(h6:F.fn (ρ.f 6))(h8:F.fn (ρ.f 8))(h9:F.fn (ρ.f 9))(h11:F.fn (ρ.f 11))(hro:F.round=none)(hn:4<=n)(hsort:AnyZI.SortsIn P ρ F (n-1))(e9:∀args w,(callFunc (ρ.f 9) args).run P w=.ok (.enter (ρ.f 9) args) w)(g:Nat)(lb:Array Value)(hFg:F.fn g)(eg:∀args w,(callFunc g args).run P w=.ok (.enter g args) w)
  (S:List Int->Prop) (N:Nat) (hN:N<=maxLen) (hNb:N*8<=140737488355328) (w:World) (hSN:∀ss,S ss->ss.length<=N) (hseq:jC F (n-1-1-1) P g lb S N w):
  CallsIn F n P (ρ.f 6) #[.func (.func g) #[] lb] w λe w'=>∃(v:Value) (ss:List Int),e=.returned v/\S ss/\
   w'.ownsRow w.heap.size (ρ.t 26) 1 v ss.length ((ss.mergeSort (λx y=>decide (x<=y))).map encZ)/\(v=.slice none 0 0↔ss=[])/\Below w.heap.size w w':=by
 have h1:1<=n:=by omega
 have e8:∀args w,(callFunc (ρ.f 8) args).run P w=.ok (.enter (ρ.f 8) args) w:=L.f8.enters rfl
 have mixed:=L.mixed;have t0:=L.t0;have a0:=L.a0;have z0:=L.z0;have v0:=L.v0;have t24:=L.t24;have a24:=L.a24;have z24:=L.z24;have v24:=L.v24;have t26:=L.t26;have a26:=L.a26;have z26:=L.z26;have v26:=L.v26;have t28:=L.t28;have a28:=L.a28;have z28:=L.z28;have v28:=L.v28
 have u0:=run_underlying L.t0;have u24:=run_underlying L.t24;have u26:=run_underlying L.t26;have u28:=run_underlying L.t28
 obtain⟨_,_,FG⟩:=L.f6
 refine callsIn_of_wp FG rfl h6 ?_ hro
 simp only[SlBodyZ.n6_ntmps ρ,Ch,Ax,Cf,Nat.reduceAdd,Nat.reduceSub,O6,O5,VZ,QF,CN,Bo]
 gi_wp2_with (gi_at_fn (ρ.f 8);refine(V8 {L with} F (n-1) h8 h11 hro (by omega) g lb hFg eg _ N hN hNb _ hseq).mono ?_;rintro e W ⟨v,ss,rfl,hS,hrow,hnil,hb⟩;have hlen:=hSN ss hS)
 rcases hrow.2 with⟨rfl,hz⟩|⟨gb,cap,cur,rfl,hbase,hgb,r1,r2,r3,r4⟩
 ·
  have hss:ss=[]:=AE hz
  subst hss
  gi_wp2_with (gi_at_fn (ρ.f 9);refine(hsort.2 none 0 W).mono ?_;rintro e w' ⟨rfl,rfl⟩)
  go_ret
  exact⟨.slice none 0 0,[],rfl,hS,by simpa using hrow,by simp,hb⟩
 ·have hH:Holds encZ W gb 0 ss.toArray:=holds_of_block_i hgb (by simpa using r4)
  have hgl:gb<W.heap.size:=(A6.1 hgb).1
  have hsz:ss.length<4611686018427387904:=by omega
  have cS:=hsort.1 gb 0 cap ss W hH hgl hsz
  gi_wp2_with (gi_at_fn (ρ.f 9);refine cS.mono ?_;rintro e w' ⟨rfl,nn,os,rfl⟩)
  go_ret
  exact⟨_,ss,rfl,hS,ownsRow_sorted_i (by simp) hbase hgb r1 r2 r3,hnil,hb.grown (grownBy_sorted_i _) hb.size (λj hj=>by cases hj;exact hbase)⟩
end Go.Proofs.YtjejpdfldmempaaGreatDoor
end
section
namespace Go.Proofs
open Go.Shelf
def Tryz.sortedI_ren:Go.Shelf.Ren:=⟨λ|6=>160|8=>220|9=>221|11=>252|13=>104|12=>253|23=>153|24=>154|14=>263|15=>264|16=>265|17=>266|18=>267|19=>268|20=>269|21=>270|22=>271|25=>280|26=>211|27=>212|28=>281|29=>282|30=>143|31=>287|n=>n,λ|26=>3|28=>237|24=>28|0=>0|3=>3|37=>177|48=>184|50=>186|4=>4|40=>218|39=>217|45=>222|5=>5|9=>9|51=>281|55=>285|57=>313|58=>138|33=>215|n=>n,λ|n=>n⟩
theorem Tryz.sortedI:Go.Proofs.SlLaysZI.n6 Tryz.prog Tryz.sortedI_ren:={
 mixed:=by kernel_rfl
 f6:=⟨Tryz.f160.name,by decide,Tryz.func160.trans (congrArg some (by kernel_rfl))⟩
 f8:=⟨Tryz.f220.name,by decide,Tryz.func220.trans (congrArg some (by kernel_rfl))⟩
 f11:=⟨Tryz.f252.name,by decide,Tryz.func252.trans (congrArg some (by kernel_rfl))⟩
 t0:=Tryz.underlying0
 a0:=Tryz.isAgg0
 z0:=Tryz.sizeOf0
 v0:=Tryz.zeroValue0
 t24:=Tryz.underlying28
 a24:=Tryz.isAgg28
 z24:=Tryz.sizeOf28
 v24:=Tryz.zeroValue28
 t26:=Tryz.underlying3
 a26:=Tryz.isAgg3
 z26:=Tryz.sizeOf3
 v26:=Tryz.zeroValue3
 t28:=Tryz.underlying237
 a28:=Tryz.isAgg237
 z28:=Tryz.sizeOf237
 v28:=Tryz.zeroValue237
 i26:=by kernel_rfl}
def Tryz.sortI_ren:Go.Shelf.Ren:=⟨λ|5=>221|8=>104|7=>253|19=>153|20=>154|10=>263|11=>264|12=>265|13=>266|14=>267|15=>268|16=>269|17=>270|18=>271|30=>280|31=>211|32=>212|33=>281|34=>282|35=>143|40=>287|n=>n,λ|23=>28|25=>3|3=>3|32=>177|22=>28|0=>0|44=>184|46=>186|4=>4|36=>218|35=>217|41=>222|5=>5|9=>9|53=>281|57=>285|63=>313|64=>138|n=>n,λ|n=>n⟩
theorem Tryz.sortI:Go.Proofs.SlLaysM.n5 Tryz.prog Tryz.sortI_ren:={
 mixed:=by kernel_rfl
 f5:=⟨Tryz.f221.name,by decide,Tryz.func221.trans (congrArg some (by kernel_rfl))⟩
 f7:=⟨Tryz.f253.name,by decide,Tryz.func253.trans (congrArg some (by kernel_rfl))⟩
 f8:=Tryz.func104.trans (congrArg some (by kernel_rfl))
 f10:=⟨Tryz.f263.name,by decide,Tryz.func263.trans (congrArg some (by kernel_rfl))⟩
 f11:=⟨Tryz.f264.name,by decide,Tryz.func264.trans (congrArg some (by kernel_rfl))⟩
 f12:=⟨Tryz.f265.name,by decide,Tryz.func265.trans (congrArg some (by kernel_rfl))⟩
 f13:=⟨Tryz.f266.name,by decide,Tryz.func266.trans (congrArg some (by kernel_rfl))⟩
 f14:=⟨Tryz.f267.name,by decide,Tryz.func267.trans (congrArg some (by kernel_rfl))⟩
 f15:=⟨Tryz.f268.name,by decide,Tryz.func268.trans (congrArg some (by kernel_rfl))⟩
 f16:=⟨Tryz.f269.name,by decide,Tryz.func269.trans (congrArg some (by kernel_rfl))⟩
 f17:=⟨Tryz.f270.name,by decide,Tryz.func270.trans (congrArg some (by kernel_rfl))⟩
 f18:=⟨Tryz.f271.name,by decide,Tryz.func271.trans (congrArg some (by kernel_rfl))⟩
 f19:=Tryz.func153.trans (congrArg some (by kernel_rfl))
 f20:=Tryz.func154.trans (congrArg some (by kernel_rfl))
 f30:=⟨Tryz.f280.name,by decide,Tryz.func280.trans (congrArg some (by kernel_rfl))⟩
 f31:=Tryz.func211.trans (congrArg some (by kernel_rfl))
 f32:=Tryz.func212.trans (congrArg some (by kernel_rfl))
 f33:=⟨Tryz.f281.name,by decide,Tryz.func281.trans (congrArg some (by kernel_rfl))⟩
 f34:=⟨Tryz.f282.name,by decide,Tryz.func282.trans (congrArg some (by kernel_rfl))⟩
 f35:=⟨Tryz.f143.name,by decide,Tryz.func143.trans (congrArg some (by kernel_rfl))⟩
 f40:=⟨Tryz.f287.name,by decide,Tryz.func287.trans (congrArg some (by kernel_rfl))⟩
 t0:=Tryz.underlying0
 a0:=Tryz.isAgg0
 z0:=Tryz.sizeOf0
 v0:=Tryz.zeroValue0
 t3:=Tryz.underlying3
 a3:=Tryz.isAgg3
 z3:=Tryz.sizeOf3
 v3:=Tryz.zeroValue3
 t4:=Tryz.underlying4
 a4:=Tryz.isAgg4
 z4:=Tryz.sizeOf4
 v4:=Tryz.zeroValue4
 t5:=Tryz.underlying5
 a5:=Tryz.isAgg5
 z5:=Tryz.sizeOf5
 v5:=Tryz.zeroValue5
 t9:=Tryz.underlying9
 a9:=Tryz.isAgg9
 z9:=Tryz.sizeOf9
 v9:=Tryz.zeroValue9
 t22:=Tryz.underlying28
 a22:=Tryz.isAgg28
 z22:=Tryz.sizeOf28
 v22:=Tryz.zeroValue28
 t23:=Tryz.underlying28
 a23:=Tryz.isAgg28
 z23:=Tryz.sizeOf28
 v23:=Tryz.zeroValue28
 t25:=Tryz.underlying3
 a25:=Tryz.isAgg3
 z25:=Tryz.sizeOf3
 v25:=Tryz.zeroValue3
 t32:=Tryz.underlying177
 a32:=Tryz.isAgg177
 z32:=Tryz.sizeOf177
 v32:=Tryz.zeroValue177
 t35:=Tryz.underlying217
 a35:=Tryz.isAgg217
 z35:=Tryz.sizeOf217
 v35:=Tryz.zeroValue217
 t36:=Tryz.underlying218
 a36:=Tryz.isAgg218
 z36:=Tryz.sizeOf218
 v36:=Tryz.zeroValue218
 t41:=Tryz.underlying222
 a41:=Tryz.isAgg222
 z41:=Tryz.sizeOf222
 v41:=Tryz.zeroValue222
 t44:=Tryz.underlying184
 a44:=Tryz.isAgg184
 z44:=Tryz.sizeOf184
 v44:=Tryz.zeroValue184
 t46:=Tryz.underlying186
 a46:=Tryz.isAgg186
 z46:=Tryz.sizeOf186
 v46:=Tryz.zeroValue186
 t53:=Tryz.underlying281
 a53:=Tryz.isAgg281
 z53:=Tryz.sizeOf281
 v53:=Tryz.zeroValue281
 t57:=Tryz.underlying285
 a57:=Tryz.isAgg285
 z57:=Tryz.sizeOf285
 v57:=Tryz.zeroValue285
 t63:=Tryz.underlying313
 a63:=Tryz.isAgg313
 z63:=Tryz.sizeOf313
 v63:=Tryz.zeroValue313
 t64:=Tryz.underlying138
 a64:=Tryz.isAgg138
 z64:=Tryz.sizeOf138
 v64:=Tryz.zeroValue138}
end Go.Proofs
end
section
namespace Go.Proofs.YtjejpdfldmempaaGreatDoor
open Go.RowKit Go.Shelf Go.Sx Go.Reg Go.Maps Go.Sort Go.Gr
set_option maxRecDepth 100000
theorem cL {zs:List Int} {k:Nat}(h:k<=zs.length):(zs.take k).length=k:=by rw[Aw];omega
theorem Zm {zs:List Int} {k:Nat}(h:k<zs.length):zs.take k++[zs[k]?.getD 0]=zs.take (k+1):=by
 rw[A2,Ab h];rfl
set_option maxHeartbeats 2000000 in
theorem T5(F:Fence)(n:Nat)(h7:F.fn 222)(hro:F.round=none)(hn:1<=n)(l Bs bo n₀ b off cap:Nat)(zs:List Int)(hreach:zs.length*8<=140737488351232)(hb:b<n₀)(w:World)(J:List Int->World->Prop)
  (hJb:∀pre W1,J pre W1->Below n₀ w W1)
  (hY:∀pre x W1,J pre W1->pre.length<zs.length->YieldAt F (n-1) Tryz.prog l #[encZ x] W1 λe W'=>e=.returned (.bool true)/\J (pre++[x]) W'/\KeepsWalks W1 W')
  (W:World) (hBs:W.cell? ⟨Bs,bo,none⟩=some (.slice (some ⟨b,off,none⟩) zs.length cap)) (hc:∀j,j<zs.length->w.cell? ⟨b,off+j,none⟩=some (.int .i64 (zs[j]?.getD 0))) (h0:J [] W):
  CallsIn F n Tryz.prog 222 #[.func (.yield l) #[] #[],.pointer (some ⟨Bs,bo,none⟩)] W λe W'=>(∃v,e=.returned v)/\∃xs,xs=zs/\J xs W':=by
 refine callsIn_of_wp Tryz.func222 rfl h7 ?_ hro
 simp only[Tryz.ntmps222,Ch,Ax,Cf,Nat.reduceAdd,Nat.reduceSub,O6,O5,VZ,QF,CN,Bo]
 gi_wp2
 gi_loopw [7] (λi wr=>∃k:Nat,k<=zs.length/\i=.int .i64 k/\J (zs.take k) wr)
  (λi _=>zs.length- (intOf i).toNat)
 case atStart=>exact⟨0,As _,rfl,h0⟩
 case round=>
  obtain⟨k,hk,rfl,hJs⟩:=hrel
  have hcx:k<zs.length->wr.cell? ⟨b,off+k,none⟩=some (.int .i64 (zs[k]?.getD 0)):=λh=>((hJb _ _ hJs).cell (p:=⟨b,off+k,none⟩) hb).trans (hc k h)
  by_cases hlt:k<zs.length
  ·have hcx':=hcx hlt
   have htn:=Zm hlt
   generalize zs[k]?.getD 0=x at hcx' htn
   obtain⟨fn,tmps,assign,body,hy,hR⟩:=hY _ x wr hJs (by rw[cL hk];exact hlt)
   rw[htn]at hR
   clear hcx hc htn
   gi_wp2
   refine hR.mono ?_
   rintro e W3 ⟨rfl,hJ3,hk3⟩
   gi_wp2
   go_roundw
   case rel=>exact⟨k+1,by omega,by simp,hJ3⟩
   case measure=>simp[intOf];omega
  ·obtain rfl:k=zs.length:=by omega
   rw[Dr]at hJs
   gi_wp2
   go_end0
   exact⟨⟨_,rfl⟩,zs,rfl,hJs⟩
set_option maxHeartbeats 1000000 in
theorem L9(F:Fence)(n:Nat)(h7:F.fn 222)(hro:F.round=none)(l Bs bo cap:Nat)(p:Option Addr)(J:List Int->World->Prop)(W:World)(hBs:W.cell? ⟨Bs,bo,none⟩=some (.slice p 0 cap))(h0:J [] W):
  CallsIn F n Tryz.prog 222 #[.func (.yield l) #[] #[],.pointer (some ⟨Bs,bo,none⟩)] W λe W'=>(∃v,e=.returned v)/\∃xs,xs=[]/\J xs W':=by
 refine callsIn_of_wp Tryz.func222 rfl h7 ?_ hro
 simp only[Tryz.ntmps222,Ch,Ax,Cf,Nat.reduceAdd,Nat.reduceSub,O6,O5,VZ,QF,CN,Bo]
 gi_wp2
 gi_loopw [7] (λi wr=>i=.int .i64 0/\J [] wr) (λ_ _=>0)
 case atStart=>exact⟨rfl,h0⟩
 case round=>
  obtain⟨rfl,hJs⟩:=hrel
  gi_wp2
  go_end0
  exact⟨⟨_,rfl⟩,[],rfl,hJs⟩
theorem UJ {w:World} {base E:Nat} {v:Value} {ss:List Int} {O:List Nat}(hO:∀b∈O,b<base)(h:w.ownsRow base E 1 v ss.length (ss.map encZ)):Rep O w (Bx ss) v:=by
 have h1:Al O w (ss.map dI) (ss.map λn=>[Value.int .i64 n]):=by
  clear h
  induction ss with
  |nil=>simp[Al]
  |cons x ss ih=>exact⟨_,_,rfl,by simp[RepC,dI],ih⟩
 have h2:∀x∈ss.map (λn=>[Value.int .i64 n]),DS 1 x:=by
  intro x hx
  obtain⟨n,_,rfl⟩:=Aq.1 hx
  exact⟨rfl,by simp[Value.oneCell']⟩
 have h3:(ss.map λn=>[Value.int .i64 n]).flatten=ss.map encZ:=by
  clear h h1 h2
  induction ss with
  |nil=>rfl
  |cons x ss ih=>simp only[Ap,Ci,ih];rfl
 rcases h.2 with⟨rfl,hn⟩|⟨g,cap,cur,rfl,hb,hg,g1,g2,g3,g4⟩
 ·have:ss=[]:=AE hn
  subst this
  exact⟨[.slice none 0 0],by simp only[Bx,RepC];exact⟨none,0,[],rfl,by simp,by unfold maxLen;omega,by simp[Al],by simp,.inl rfl⟩,rfl⟩
 ·refine⟨[.slice (some ⟨g,0,none⟩) ss.length cap],?_,rfl⟩
  simp only[Bx,RepC]
  refine⟨_,cap,_,by rw[Ac],by rw[Ac];exact g1,g2,h1,h2,.inr ⟨g,0,rfl,λhm=>by have:=hO g hm;omega,(A6.1 hg).1,?_⟩⟩
  rw[h3,<-g4]
  intro j u hj
  simp only[EA]at hj
  rw[Cy]at hj
  split at hj
  ·simp only[World.cell?,hg,E7]
   simpa using hj
  ·cases hj
theorem LF(m:Nat):AnyZI.SortsIn Tryz.prog Tryz.sortedI_ren Fence.wide m:=
 ⟨λblk off cap ss W hH hblk hsz=>callsIn_wide.2 (AnyM.slices_Sort_int Tryz.sortI blk off cap ss W hH hblk hsz),
  λp cap W=>callsIn_wide.2 (AnyM.slices_Sort_int_none Tryz.sortI p cap W)⟩
theorem TL(l:List Int)(hl:l.length<=4294967296):Pure C1 160 [.func (.func 222) [] [.ref (Bx l)]] (λy=>y=Bx (l.mergeSort λx y=>decide (x<=y))):=by
 intro O w us hO hg hr
 obtain⟨v,vs,rfl,h1,h2⟩:=Cb hr
 obtain rfl:=ED h2
 obtain⟨cs,r,rfl⟩:=h1
 simp only[RepC,Al]at r
 obtain⟨fs,cs',rfl,⟨c1,c2,rfl,⟨b,o,c,rfl,hb,hbl,hc,hcell⟩,rfl⟩,rfl⟩:=r
 simp only[Bx,RepC]at hc
 obtain⟨a,cap,css,rfl,hlc,hcm,hcs,hrow,hd⟩:=hc
 have hv:w.cell? ⟨b,o,none⟩=some (.slice a l.length cap):=by have:=hcell 0 _ rfl;simpa using this
 refine⟨by kernel_rfl,?_⟩
 show Calls _ _ #[.func (.func 222) #[] #[.pointer (some ⟨b,o,none⟩)]] w _
 have hseq:jC Fence.wide 3 Tryz.prog 222 #[.pointer (some ⟨b,o,none⟩)] (λys=>ys=l) l.length w:=by
  intro k J W hW hJ hJb hY h0
  have hc':W.cell? ⟨b,o,none⟩=some (.slice a l.length cap):=(hW.cell (p:=⟨b,o,none⟩) hbl).trans hv
  rcases hd with hd|⟨b2,o2,rfl,hb2,hbl2,hcell2⟩
  ·have:l=[]:=by simpa using hd
   subst this
   exact L9 Fence.wide 3 trivial rfl k b o cap a J W hc' h0
  ·refine T5 Fence.wide 3 trivial rfl (by omega) k b o w.heap.size b2 o2 cap l (by omega) hbl2 w J hJb hY W hc' ?_ h0
   intro j hj
   have hf:∀(l:List Int) (css:List (List Value)),Al O w (l.map dI) css->css.flatten=l.map (Value.int .i64):=by
    intro l
    induction l with
    |nil=>intro css h;simp only[B4,Al]at h;subst h;rfl
    |
     cons x l ih=>
     intro css h
     simp only[Ap,Al,dI,RepC]at h
     obtain⟨_,c2,rfl,rfl,h⟩:=h
     simp only[Ci,ih c2 h];rfl
   exact hcell2 j _ (by rw[hf l css hcs,Af,Ab hj];rfl)
 have:=Pm Tryz.sortedI Fence.wide 6 trivial trivial trivial trivial rfl (by omega) (LF _) (enters_of Tryz.func221 (by kernel_rfl) rfl) 222 #[.pointer (some ⟨b,o,none⟩)] trivial (enters_of Tryz.func222 (by kernel_rfl) rfl)
  (λys=>ys=l) l.length (by unfold maxLen;omega) (by omega) w (λss h=>Nat.le_of_eq (by rw[h])) hseq
 refine(callsIn_wide.1 this).mono ?_
 rintro e w' ⟨v,ss,rfl,rfl,hown,_,hbel⟩
 refine⟨v,_,rfl,rfl,?_,⟨hbel.os,hbel.tape,hbel.output,hbel.size,λk hk _=>hbel.block k hk⟩⟩
 rw[<-ML (le:=λx y=>decide (x<=y))]at hown
 exact UJ hO hown
end Go.Proofs.YtjejpdfldmempaaGreatDoor
end
section
namespace Go.Proofs.YtjejpdfldmempaaGreatDoor
open Go.RowKit Go.Shelf Go.Sx Go.Reg Go.Maps Go.Sort Go.Gr
set_option maxRecDepth 100000
theorem M6 {O:List Nat} {w:World}:∀ss:List Int,Al O w (ss.map dI) (ss.map λn=>[Value.int .i64 n])
 |[]=>by simp[Al]
 |x::ss=>⟨_,_,rfl,by simp[RepC,dI],M6 ss⟩
theorem To(ss:List Int):∀x∈ss.map (λn=>[Value.int .i64 n]),DS 1 x:=by
 intro x hx
 obtain⟨n,_,rfl⟩:=Aq.1 hx
 exact⟨rfl,by simp[Value.oneCell']⟩
theorem iL(ss:List Int):(ss.map λn=>[Value.int .i64 n]).flatMap id=ss.map encZ:=by
 induction ss with
 |nil=>rfl
 |cons x ss ih=>simp only[Ap,AZ,ih];rfl
theorem Zv {w:World} {base E:Nat} {v:Value} {ss:List Int}(h:w.ownsRow base E 1 v ss.length (ss.map encZ)):Sl E 1 id w v (ss.map λn=>[Value.int .i64 n])/\∀b,v.ownBlock=some b->base<=b:=by
 unfold Sl
 rw[iL,Ac]
 rcases h with⟨h0,⟨rfl,hn⟩|⟨g,cap,cur,rfl,hb,hg,r⟩⟩
 ·exact⟨⟨h0,.inl ⟨rfl,hn⟩⟩,λb hb=>by cases hb⟩
 ·exact⟨⟨h0,.inr ⟨g,cap,cur,rfl,As _,hg,r⟩⟩,λb hb'=>by simp only[Value.ownBlock,Au]at hb';subst hb';exact hb⟩
theorem NS(l:List Int)(hl:l.length<=4294967296):D4 C1 160 [.func (.func 222) [] [.ref (Bx l)]] 3 1 (λds=>ds=(l.mergeSort λx y=>decide (x<=y)).map dI):=by
 intro O w us hO hg hr
 obtain⟨v,vs,rfl,h1,h2⟩:=Cb hr
 obtain rfl:=ED h2
 obtain⟨cs,r,rfl⟩:=h1
 simp only[RepC,Al]at r
 obtain⟨fs,cs',rfl,⟨c1,c2,rfl,⟨b,o,c,rfl,hb,hbl,hc,hcell⟩,rfl⟩,rfl⟩:=r
 simp only[Bx,RepC]at hc
 obtain⟨a,cap,css,rfl,hlc,hcm,hcs,hrow,hd⟩:=hc
 have hv:w.cell? ⟨b,o,none⟩=some (.slice a l.length cap):=by have:=hcell 0 _ rfl;simpa using this
 refine⟨by kernel_rfl,?_⟩
 show Calls _ _ #[.func (.func 222) #[] #[.pointer (some ⟨b,o,none⟩)]] w _
 have hseq:jC Fence.wide 3 Tryz.prog 222 #[.pointer (some ⟨b,o,none⟩)] (λys=>ys=l) l.length w:=by
  intro k J W hW hJ hJb hY h0
  have hc':W.cell? ⟨b,o,none⟩=some (.slice a l.length cap):=(hW.cell (p:=⟨b,o,none⟩) hbl).trans hv
  rcases hd with hd|⟨b2,o2,rfl,hb2,hbl2,hcell2⟩
  ·have:l=[]:=by simpa using hd
   subst this
   exact L9 Fence.wide 3 trivial rfl k b o cap a J W hc' h0
  ·refine T5 Fence.wide 3 trivial rfl (by omega) k b o w.heap.size b2 o2 cap l (by omega) hbl2 w J hJb hY W hc' ?_ h0
   intro j hj
   have hf:∀(l:List Int) (css:List (List Value)),Al O w (l.map dI) css->css.flatten=l.map (Value.int .i64):=by
    intro l
    induction l with
    |nil=>intro css h;simp only[B4,Al]at h;subst h;rfl
    |
     cons x l ih=>
     intro css h
     simp only[Ap,Al,dI,RepC]at h
     obtain⟨_,c2,rfl,rfl,h⟩:=h
     simp only[Ci,ih c2 h];rfl
   exact hcell2 j _ (by rw[hf l css hcs,Af,Ab hj];rfl)
 have:=Pm Tryz.sortedI Fence.wide 6 trivial trivial trivial trivial rfl (by omega) (LF _) (enters_of Tryz.func221 (by kernel_rfl) rfl) 222 #[.pointer (some ⟨b,o,none⟩)] trivial (enters_of Tryz.func222 (by kernel_rfl) rfl)
  (λys=>ys=l) l.length (by unfold maxLen;omega) (by omega) w (λss h=>Nat.le_of_eq (by rw[h])) hseq
 refine(callsIn_wide.1 this).mono ?_
 rintro e w' ⟨v,ss,rfl,rfl,hown,_,hbel⟩
 rw[<-ML (le:=λx y=>decide (x<=y))]at hown
 obtain⟨g1,g2⟩:=Zv hown
 exact⟨v,_,_,rfl,rfl,g1,g2,M6 _,To _,⟨hbel.os,hbel.tape,hbel.output,hbel.size,λk hk _=>hbel.block k hk⟩⟩
end Go.Proofs.YtjejpdfldmempaaGreatDoor
end
section
namespace Go.Proofs
open Go.Shelf
def Tryz.compactI_ren:Go.Shelf.Ren:=⟨λ|43=>241|n=>n,λ|22=>28|23=>3|3=>3|4=>4|0=>0|n=>n,λ|n=>n⟩
theorem Tryz.compactI:Go.Proofs.SlLaysN.n43 Tryz.prog Tryz.compactI_ren:={
 mixed:=by kernel_rfl
 f43:=⟨Tryz.f241.name,by decide,Tryz.func241.trans (congrArg some (by kernel_rfl))⟩
 t0:=Tryz.underlying0
 a0:=Tryz.isAgg0
 z0:=Tryz.sizeOf0
 v0:=Tryz.zeroValue0
 t3:=Tryz.underlying3
 a3:=Tryz.isAgg3
 z3:=Tryz.sizeOf3
 v3:=Tryz.zeroValue3
 t4:=Tryz.underlying4
 a4:=Tryz.isAgg4
 z4:=Tryz.sizeOf4
 v4:=Tryz.zeroValue4
 t22:=Tryz.underlying28
 a22:=Tryz.isAgg28
 z22:=Tryz.sizeOf28
 v22:=Tryz.zeroValue28
 t23:=Tryz.underlying3
 a23:=Tryz.isAgg3
 z23:=Tryz.sizeOf3
 v23:=Tryz.zeroValue3
 i23:=by kernel_rfl}
end Go.Proofs
end
