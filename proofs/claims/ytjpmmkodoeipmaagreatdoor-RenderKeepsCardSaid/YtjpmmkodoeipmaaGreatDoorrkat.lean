/- Merged: Cpb Cpc Cpd Cpe Agp Txi Lsr Agc Srr Trw Atk Lso Ats Atm Lsc Grg. -/
import Derived.Test.YtjpmmkodoeipmaaGreatDoorrkas
import Derived.Test.YtjpmmkodoeipmaaGreatDoorrkar
import Derived.Shelf.SlSortCmp.WholeK
import Derived.Test.YtjpmmkodoeipmaaGreatDoorRows
import Derived.Shelf.SlIterI.Sorted
import Derived.RangeFuncBox
import Derived.RangeFuncLeaves
import Derived.Shelf.Abstract
import Derived.WalkKit
import Derived.OwnWalkIn
import Derived.TacticsInMore
import Derived.LoopNIn
import Derived.LoopIn
import Derived.Shelf.SortM.Plain
import Derived.Shelf.SortM.SortNone
import Derived.Test.YtjpmmkodoeipmaaGreatDoorrkaq
import Derived.Test.YtjpmmkodoeipmaaGreatDoorrkan
import Derived.Shelf.SlicesG.CompactI
section
namespace Go.Gr
open Go.Proofs.YtjpmmkodoeipmaaGreatDoor
structure TOrd {α:Type}(f:α->α->Int):Prop where
 eq0:∀x y,f x y=0↔x=y
 anti:∀x y,f y x<0↔0<f x y
 trans:∀x y z,f x y<0->f y z<0->f x z<0
theorem X1:TOrd Db:=⟨JL,λx y=>by rw[tO];omega,λx y z=>by rw[Nx,Nx,Nx];omega⟩
theorem YX {α:Type} {f:α->α->Int}(h:TOrd f):TOrd (Ef f):=by
 refine⟨λx=>?_,λx=>?_,λx=>?_⟩
 ·induction x with
  |nil=>intro y;cases y<;>simp[Ef]
  |
   cons a x ih=>
   intro y
   cases y with
   |nil=>simp[Ef]
   |
    cons b y=>
    rw[Dt]
    by_cases e:f a b=0
    ·rw[if_pos e,ih y]
     have:=(h.eq0 a b).1 e
     subst this;simp
    ·rw[if_neg e]
     have:a≠b:=λhh=>e ((h.eq0 a b).2 hh)
     simp[e,this]
 ·induction x with
  |nil=>intro y;cases y<;>simp[Ef]
  |
   cons a x ih=>
   intro y
   cases y with
   |nil=>simp[Ef]
   |
    cons b y=>
    rw[Dt,Dt]
    by_cases e:f a b=0
    ·have:=(h.eq0 a b).1 e
     subst this
     rw[if_pos e,if_pos e];exact ih y
    ·have e2:f b a≠0:=λhh=>e ((h.eq0 a b).2 ((h.eq0 b a).1 hh).symm)
     rw[if_neg e,if_neg e2];exact h.anti a b
 ·induction x with
  |nil=>intro y z;cases y<;>cases z<;>simp[Ef]
  |
   cons a x ih=>
   intro y z
   cases y with
   |nil=>simp[Ef]
   |
    cons b y=>
    cases z with
    |nil=>simp[Ef]
    |
     cons c z=>
     rw[Dt,Dt,Dt]
     by_cases e1:f a b=0
     ·have:=(h.eq0 a b).1 e1
      subst this
      rw[if_pos e1]
      by_cases e2:f a c=0
      ·rw[if_pos e2,if_pos e2];exact ih y z
      ·rw[if_neg e2,if_neg e2];exactλ_ h=>h
     ·rw[if_neg e1]
      by_cases e2:f b c=0
      ·have:=(h.eq0 b c).1 e2
       subst this
       rw[if_pos e2,if_neg e1];exactλh _=>h
      ·rw[if_neg e2]
       intro h1 h2
       have h3:=h.trans _ _ _ h1 h2
       rw[if_neg (by omega)];exact h3
theorem S9 {α:Type} {f:α->α->Int}(h:TOrd f):∀{a b:List α} (c d:List α),a.length=b.length->Ef f (a++c) (b++d)=if Ef f a b=0 then Ef f c d else Ef f a b
 |[],[],c,d,_=>by simp[Ef]
 |
  x::a,y::b,c,d,hl=>by
  rw[AT,AT,Dt,Dt,S9 h (a:=a) (b:=b) c d (by simpa using hl)]
  by_cases e:f x y=0
  ·simp[e]
  ·simp[e]
 |[],_::_,_,_,hl=>by simp at hl
 |_::_,[],_,_,hl=>by simp at hl
def rZ(p:Pt):List Int:=(p.labels.length:Int)::(p.labels++(p.edges.length:Int)::p.edges.flatMap λe=>[e.a,e.b])
theorem Vs:∀E F:List Edg,Ef Cy E F=Ef Db (E.flatMap λe=>[e.a,e.b]) (F.flatMap λe=>[e.a,e.b])
 |[],[]=>rfl
 |[],_::_=>rfl
 |_::_,[]=>rfl
 |
  x::E,y::F=>by
  simp only[BD,AT,BB,Dt]
  rw[Vs E F]
  unfold Cy
  by_cases h:Db x.a y.a=0
  ·simp[h]
  ·simp[h]
theorem KI(p q:Pt):Dw p q=Ef Db (rZ p) (rZ q):=by
 unfold Dw rZ O9
 rw[Dt]
 by_cases h1:Db (p.labels.length:Int) (q.labels.length:Int)=0
 ·rw[if_pos h1,if_pos h1,S9 X1 _ _ (by have:=(JL _ _).1 h1;omega)]
  unfold O9
  by_cases h2:Ef Db p.labels q.labels=0
  ·rw[if_pos h2,if_pos h2,Dt,<-Vs]
   unfold O9
   by_cases h3:Db (p.edges.length:Int) (q.edges.length:Int)=0
   ·rw[if_pos h3,if_pos h3];unfold O9
    by_cases h4:Ef Cy p.edges q.edges=0
    ·rw[if_pos h4,h4];rfl
    ·rw[if_neg h4]
   ·rw[if_neg h3,if_neg h3]
  ·rw[if_neg h2,if_neg h2]
 ·rw[if_neg h1,if_neg h1]
theorem cF:∀{E F:List Edg},(E.flatMap λe=>[e.a,e.b])=(F.flatMap λe=>[e.a,e.b])->E=F
 |[],[],_=>rfl
 |[],_::_,h=>by simp at h
 |_::_,[],h=>by simp at h
 |
  x::E,y::F,h=>by
  simp only[BD,AT,BB,D2]at h
  rw[cF h.2.2]
  cases x;cases y;simp only at h;simp[h.1,h.2.1]
theorem zE {p q:Pt}(h:rZ p=rZ q):p=q:=by
 unfold rZ at h
 rw[D2]at h
 obtain⟨h1,h2⟩:=List.append_inj h.2 (by have:=h.1;omega)
 rw[D2]at h2
 cases p;cases q
 simp only at h1 h2
 simp[h1,cF h2.2]
theorem Hl:TOrd Dw:=⟨λx y=>by
  rw[KI,(YX X1).eq0];exact⟨zE,λh=>by rw[h]⟩,λx y=>by
  rw[KI,KI];exact(YX X1).anti _ _,λx y z=>by
  rw[KI,KI,KI];exact(YX X1).trans _ _ _⟩
instance:DecidableEq Pt:=λp q=>decidable_of_iff (Dw p q=0) (Hl.eq0 p q)
section
variable {α:Type} {f:α->α->Int}(h:TOrd f)
 include h
theorem TOrd.not_lt {x y:α}:¬f x y<0↔f y x<=0:=by
 rw[h.anti y x];omega
theorem TOrd.le_of {x y:α}(hxy:f x y<=0):f x y<0\/x=y:=by
 rcases Int.lt_or_eq_of_le hxy with h1|h1
 ·exact .inl h1
 ·exact .inr ((h.eq0 _ _).1 h1)
theorem TOrd.self(x:α):f x x=0:=(h.eq0 x x).2 rfl
theorem TOrd.le_trans {x y z:α}(h1:f x y<=0)(h2:f y z<=0):f x z<=0:=by
 rcases h.le_of h1 with h1|rfl
 ·rcases h.le_of h2 with h2|rfl
  ·exact Int.le_of_lt (h.trans _ _ _ h1 h2)
  ·omega
 ·exact h2
theorem TOrd.antisymm {x y:α}(h1:f x y<=0)(h2:f y x<=0):x=y:=by
 rcases h.le_of h1 with h1|rfl
 ·have:=(h.anti y x).1 h1;omega
 ·rfl
end
theorem IB:∀{S T:List Int},S.Pairwise (· <= ·)->T.Perm S->Ef Db S T<=0
 |[],T,_,hp=>by rw[hp.eq_nil];exact Int.le_refl _
 |s::S,[],_,hp=>by have:=hp.length_eq;simp at this
 |
  s::S,t::T,hs,hp=>by
  obtain⟨h1,h2⟩:=BZ.1 hs
  rw[Dt]
  by_cases e:s=t
  ·subst e
   rw[if_pos ((JL s s).2 rfl)]
   exact IB h2 ((List.perm_cons s).1 hp)
  ·have:t∈S:=by
    have:=hp.mem_iff.1 (MV (a:=t) (l:=T))
    rcases Ai.1 this with h|h
    ·exact absurd h.symm e
    ·exact h
   have hlt:s<t:=by have:=h1 t this;omega
   rw[if_neg (by rw[JL];exact e)]
   have:=(Nx s t).2 hlt;omega
theorem dW {p q:Pt}(hl:p.labels.length=q.labels.length)(h:Ef Db p.labels q.labels<0):Dw p q<0:=by
 unfold Dw
 rw[show Db (p.labels.length:Int) (q.labels.length:Int)=0 from(JL _ _).2 (by omega)]
 unfold O9;rw[if_pos rfl];unfold O9
 rw[if_neg (by omega)];exact h
theorem M4(fr to:List Int):∀(k:Nat) (ah:List Nat) (o:List Int),o∈GU fr to k ah↔∃t:List Nat,t.length=k/\o=(ah++t).map (λj:Nat=>(j:Int))/\
  ∀i j,t[i]? =some j->j∉ah++t.take i/\j<to.length/\to[j]? =fr[ah.length+i]?
 |
  0,ah,o=>by
  simp only[GU,As]
  constructor
  ·rintro rfl;exact⟨[],rfl,by simp,by simp⟩
  ·rintro⟨t,ht,rfl,_⟩
   rw[AJ ht];simp
 |
  k+1,ah,o=>by
  simp only[GU,AL,Az,AM,Ap,decide_eq_true_eq,Cm]
  constructor
  ·rintro⟨j,⟨hj,hc,he⟩,ho⟩
   obtain⟨t,ht,rfl,hh⟩:=(M4 fr to k (ah++[j]) o).1 ho
   refine⟨j::t,by simp[ht],by simp,λi j' hi=>?_⟩
   cases i with
   |
    zero=>
    simp at hi;subst hi
    refine⟨by simpa using hc,hj,by simpa using he⟩
   |
    succ i=>
    have:=hh i j' (by simpa using hi)
    refine⟨by simpa using this.1,this.2.1,?_⟩
    rw[this.2.2,Ah,BE,Hv,AAD 1 i]
  ·rintro⟨t,ht,rfl,hh⟩
   cases t with
   |nil=>simp at ht
   |
    cons j t=>
    have h0:=hh 0 j rfl
    refine⟨j,⟨h0.2.1,by simpa using h0.1,by simpa using h0.2.2⟩,(M4 fr to k (ah++[j]) _).2 ⟨t,by simpa using ht,by simp,λi j' hi=>?_⟩⟩
    have:=hh (i+1) j' (by simpa using hi)
    refine⟨by simpa using this.1,this.2.1,?_⟩
    rw[this.2.2,Ah,BE,Hv,AAD 1 i]
theorem M1 {fr to:List Int} {n:Nat}(ht:to.length=n) {o:List Int}:o∈GU fr to n []↔C2 n o/\∀i,i<n->to[pl o i]? =fr[i]? :=by
 rw[M4]
 constructor
 ·rintro⟨t,hl,rfl,hh⟩
  simp only[BB,Bt,DT]at hh⊢
  refine⟨⟨by simp[hl],λx hx=>?_,?_⟩,λi hi=>?_⟩
  ·obtain⟨j,hj,rfl⟩:=An.1 hx
   obtain⟨i,hi,rfl⟩:=C4.1 hj
   have:=(hh i _ (Ab hi)).2.1
   omega
  ·refine B7.2 ?_
   rw[AO]
   intro i j hi hj hij e
   have:=(hh j _ (Ab hj)).1
   refine this (Bd.2 ⟨i,by omega,?_⟩)
   omega
  ·have hx:=Ab (l:=t) (i:=i) (by omega)
   have:=(hh i _ hx).2.2
   rw[<-this]
   congr 1
   unfold pl
   rw[Ad,hx];simp
 ·rintro⟨ho,hh⟩
  refine⟨o.map Int.toNat,by simp[ho.1],?_,λi j hi=>?_⟩
  ·rw[BB,EE]
   refine(List.map_id _).symm.trans (FY λx hx=>?_)
   have:=ho.2.1 x hx
   simp only[Function.comp_apply,id];omega
  ·have hin:i<n:=by
    have:=(Ae.1 hi).1
    rw[Ac,ho.1]at this;exact this
   rw[Ad,JB ho hin]at hi
   simp only[CA,AY,AB]at hi
   subst hi
   refine⟨?_,by rw[ht];exact GZ ho hin,by simpa using hh i hin⟩
   rw[BB]
   intro hm
   obtain⟨k,hk,e⟩:=Bd.1 hm
   rw[List.getElem_map]at e
   have hkn:k<n:=by omega
   have:=JB ho hkn
   have hkl:k<o.length:=by rw[ho.1];exact hkn
   rw[Ab hkl]at this
   have e2:pl o k=pl o i:=by
    rw[Ce this]at e
    simpa using e
   have:=O2 ho hkn hin e2;omega
theorem O8(fr to:List Int):∀(k:Nat) (ah:List Nat),(GU fr to k ah).Nodup
 |0,ah=>by simp[GU]
 |
  k+1,ah=>by
  simp only[GU]
  refine ACD.2 ⟨λj _=>O8 fr to k _,?_⟩
  refine Pp ?_ (List.nodup_range.filter _)
  intro i j hij x hx y hy e
  subst e
  obtain⟨t1,_,e1,_⟩:=(M4 fr to k _ _).1 hx
  obtain⟨t2,_,e2,_⟩:=(M4 fr to k _ _).1 hy
  rw[e1]at e2
  have e3:((ah++[i])++t1).map (λj:Nat=>(j:Int))=((ah++[j])++t2).map (λj:Nat=>(j:Int)):=e2
  have e4:=congrArg (λl:List Int=>l[ah.length]?) e3
  simp at e4
  omega
def Y0:Nat->Nat
 |0=>1
 |n+1=>(n+1)*Y0 n
theorem MI {α β:Type} {l:List α} {f:α->List β} {k:Nat}(h:∀x∈l,(f x).length=k):(l.flatMap f).length=l.length*k:=by
 induction l with
 |nil=>simp
 |
  cons x l ih=>
  rw[BD,Ah,h x (by simp),ih λy hy=>h y (by simp[hy]),Aw,CV];omega
theorem ML {α:Type}(p:α->Bool):∀l:List α,l.length=(l.filter p).length+(l.filter λx=>!p x).length
 |[]=>rfl
 |
  x::l=>by
  have:=ML p l
  cases h:p x with
  |true=>rw[HY h,N3 (by simp[h]),Aw,Aw];omega
  |false=>rw[N3 (by simp[h]),HY (by simp[h]),Aw,Aw];omega
theorem zO {n:Nat} {ah:List Nat}(hn:ah.Nodup)(h:∀j∈ah,j<n):((List.range n).filter λj=>!(ah.contains j)).length+ah.length=n:=by
 have h1:((List.range n).filter λj=>ah.contains j).Perm ah:=by
  refine EN (List.nodup_range.filter _) (λx hx=>by simpa using(Az.1 hx).2) ?_
  exact Ff hn λx hx=>Az.2 ⟨AM.2 (h x hx),by simpa using hx⟩
 have h2:=ML (λj=>ah.contains j) (List.range n)
 rw[D9,h1.length_eq]at h2
 omega
theorem ZW(n:Nat):∀(k:Nat) (ah:List Nat),ah.Nodup->(∀j∈ah,j<n)->ah.length+k=n->(GU (List.replicate n 0) (List.replicate n 0) k ah).length=Y0 k
 |0,ah,_,_,_=>rfl
 |
  k+1,ah,hn,hj,hk=>by
  simp only[GU,B8]
  have hf:((List.range n).filter λj=>!(ah.contains j)&&decide ((List.replicate n (0:Int))[j]? =(List.replicate n (0:Int))[ah.length]?))=(List.range n).filter λj=>!(ah.contains j):=by
   refine List.filter_congr λj hj'=>?_
   have:j<n:=AM.1 hj'
   simp[this,show ah.length<n by omega]
  rw[hf,MI (k:=Y0 k)]
  ·have:=zO hn hj
   rw[show((List.range n).filter λj=>!(ah.contains j)).length=k+1 by omega];rfl
  ·intro j hjm
   obtain⟨h1,h2⟩:=Az.1 hjm
   have h1':=AM.1 h1
   refine ZW n k (ah++[j]) ?_ ?_ (by simp;omega)
   ·exact Dm.2 ⟨hn,by simp,λa ha b hb e=>by simp at hb;subst hb;subst e;simp at h2;exact h2 ha⟩
   ·intro x hx
    rcases Ag.1 hx with hx|hx
    ·exact hj x hx
    ·simp at hx;subst hx;exact h1'
def lP(n:Nat):List (List Int):=GU (List.replicate n 0) (List.replicate n 0) n []
theorem Qa {n:Nat} {o:List Int}:o∈lP n↔C2 n o:=by
 unfold lP
 rw[M1 (by simp)]
 refine⟨λh=>h.1,λh=>⟨h,λi hi=>?_⟩⟩
 simp[hi,GZ h hi]
theorem eY(n:Nat):(lP n).length=Y0 n:=ZW n n [] (by simp) (by simp) (by simp)
theorem lO(n:Nat):(lP n).Nodup:=O8 _ _ _ _
theorem oC {α β:Type} [DecidableEq β](f:α->β)(k:Nat):∀(m:Nat) (l:List α),l.length<=m->(∀y∈l,(l.filter λx=>decide (f x=f y)).length=k)->∃c:List β,c.Nodup/\(∀b,b∈c↔∃x∈l,f x=b)/\l.length=c.length*k
 |_,[],_,_=>⟨[],by simp,by simp,by simp⟩
 |0,x::l,h,_=>by simp at h
 |
  m+1,x::l,h,hk=>by
  have h2:=ML (λy=>decide (f y=f x)) (x::l)
  have hx:=hk x (by simp)
  have hlt:((x::l).filter λy=>!decide (f y=f x)).length<=m:=by
   have:1<=((x::l).filter λy=>decide (f y=f x)).length:=by
    rw[HY (by simp)];simp
   simp only[Aw]at h h2
   omega
  obtain⟨c,h3,h4,h5⟩:=oC f k m ((x::l).filter λy=>!decide (f y=f x)) hlt (λy hy=>by
   obtain⟨hy1,hy2⟩:=Az.1 hy
   rw[<-hk y hy1,List.filter_filter]
   congr 1
   refine List.filter_congr λz _=>?_
   simp only[Cm,decide_eq_false_iff_not]at hy2
   by_cases e:f z=f y
   ·rw[e];simp[hy2]
   ·simp[e])
  refine⟨f x::c,Cs.2 ⟨λhm=>?_,h3⟩,λb=>?_,?_⟩
  ·obtain⟨y,hy,e⟩:=(h4 _).1 hm
   have:=(Az.1 hy).2
   simp[e]at this
  ·rw[Ai,h4]
   constructor
   ·rintro(rfl|⟨y,hy,rfl⟩)
    ·exact⟨x,by simp,rfl⟩
    ·exact⟨y,(Az.1 hy).1,rfl⟩
   ·rintro⟨y,hy,rfl⟩
    by_cases e:f y=f x
    ·exact .inl e
    ·exact .inr ⟨y,Az.2 ⟨hy,by simpa using e⟩,rfl⟩
  ·rw[h2,hx,h5,Aw,CV];omega
theorem nN {α β:Type} [DecidableEq α] [DecidableEq β] {l:List α} {m:List β}(hl:l.Nodup)(hm:m.Nodup)(f:α->β)(g:β->α)(hf:∀x∈l,f x∈m/\g (f x)=x)(hg:∀y∈m,g y∈l/\f (g y)=y):l.length=m.length:=by
 have key:∀{α β:Type} [DecidableEq α] [DecidableEq β] {l:List α} {m:List β} (f:α->β) (g:β->α),l.Nodup->(∀x∈l,f x∈m/\g (f x)=x)->l.length<=m.length:=λ{_ _} _ _ {l m} f g hl hf=>by
  have:(l.map f).Nodup:=by
   refine B7.2 (Er ?_ hl)
   intro x y hx hy hne e
   exact hne (by rw[<-(hf x hx).2,<-(hf y hy).2,e])
  have:=Ff this (m:=m) λy hy=>by
   obtain⟨x,hx,rfl⟩:=An.1 hy;exact(hf x hx).1
  simpa using this
 exact Nat.le_antisymm (key f g hl hf) (key g f hm hg)
end Go.Gr
end
section
namespace Go.Gr
open Go.Proofs.YtjpmmkodoeipmaaGreatDoor
def sortI(l:List Int):List Int:=l.mergeSort λx y=>decide (x<=y)
theorem IZ(l:List Int):(sortI l).Perm l:=H9 _ _
theorem Zk(l:List Int):(sortI l).Pairwise (· <= ·):=by
 have h:=N2 (le:=λx y:Int=>decide (x<=y)) (λa b c h1 h2=>by simp at*;omega) (λa b=>by simp;omega) l
 exact h.imp λh=>by simpa using h
theorem QS(l:List Int):(sortI l).length=l.length:=(IZ l).length_eq
def Kj(p:Pt)(s:Option (Pt×List Int))(o:List Int):Option (Pt×List Int):=match s with
 |none=>some (Bl p o,o)
 |some (q,b)=>if Dw (Bl p o) q<0 then some (Bl p o,o)else some (q,b)
def Oi(p:Pt):List (List Int):=GU p.labels (sortI p.labels) p.labels.length []
def Xa(p:Pt):Option (Pt×List Int):=(Oi p).foldl (Kj p) none
def Cc(p:Pt):Pt:=((Xa p).getD (⟨[],[]⟩,[])).1
def LM(p:Pt):List Int:=((Xa p).getD (⟨[],[]⟩,[])).2
theorem RL(p:Pt):∀(xs:List (List Int)) (b:List Int),∃b',xs.foldl (Kj p) (some (Bl p b,b))=some (Bl p b',b')/\(b'=b\/b'∈xs)/\Dw (Bl p b') (Bl p b)<=0/\∀o∈xs,Dw (Bl p b') (Bl p o)<=0
 |[],b=>⟨b,rfl,.inl rfl,Int.le_of_eq (Hl.self _),by simp⟩
 |
  x::xs,b=>by
  rw[AAX]
  by_cases h:Dw (Bl p x) (Bl p b)<0
  ·obtain⟨b',h1,h2,h3,h4⟩:=RL p xs x
   refine⟨b',by rw[<-h1];simp only[Kj];rw[if_pos h],.inr (by rcases h2 with rfl|h2<;>simp[*]),Hl.le_trans h3 (Int.le_of_lt h),λo ho=>?_⟩
   rcases Ai.1 ho with rfl|ho
   ·exact h3
   ·exact h4 o ho
  ·obtain⟨b',h1,h2,h3,h4⟩:=RL p xs b
   refine⟨b',by rw[<-h1];simp only[Kj];rw[if_neg h],by rcases h2 with rfl|h2<;>simp[*],h3,λo ho=>?_⟩
   rcases Ai.1 ho with rfl|ho
   ·exact Hl.le_trans h3 (Hl.not_lt.1 h)
   ·exact h4 o ho
theorem AC2(p:Pt) {xs:List (List Int)}(h:xs≠[]):∃b,xs.foldl (Kj p) none=some (Bl p b,b)/\b∈xs/\∀o∈xs,Dw (Bl p b) (Bl p o)<=0:=by
 cases xs with
 |nil=>exact absurd rfl h
 |
  cons x xs=>
  obtain⟨b,h1,h2,h3,h4⟩:=RL p xs x
  refine⟨b,h1,by rcases h2 with rfl|h2<;>simp[*],λo ho=>?_⟩
  rcases Ai.1 ho with rfl|ho
  ·exact h3
  ·exact h4 o ho
theorem Ru {n:Nat} {p:Pt}(hp:PtOk n p) {o:List Int}:o∈Oi p↔C2 n o/\∀i,i<n->(sortI p.labels)[pl o i]? =p.labels[i]? :=by
 unfold Oi
 rw[hp.len]
 exact M1 (by rw[QS,hp.len])
theorem UB {n:Nat} {p:Pt}(hp:PtOk n p) {o:List Int}:o∈Oi p↔C2 n o/\(Bl p o).labels=sortI p.labels:=by
 rw[Ru hp]
 refine and_congr_right λho=>⟨λh=>?_,λh i hi=>?_⟩
 ·apply Cb
  intro k
  by_cases hk:k<n
  ·obtain⟨i,hi,rfl⟩:=Lk ho hk
   rw[Ik ho hp hi,h i hi]
  ·have:=hp.len
   rw[AI (by rw[Fb];omega),AI (by rw[QS];omega)]
 ·rw[<-h,Ik ho hp hi]
theorem P0 {n:Nat} {p:Pt}(hp:PtOk n p) {o:List Int}(ho:C2 n o):(Bl p o).labels.Perm p.labels:=by
 have h1:(Bl p o).labels=(List.range n).map λk=>((Bl p o).labels[k]?).getD 0:=by
  apply Cb
  intro k
  by_cases hk:k<n
  ·have hl:k<(Bl p o).labels.length:=by rw[Fb,hp.len];exact hk
   rw[Ad,CN hk];simp[hl]
  ·rw[AI (by rw[Fb,hp.len];omega),AI (by simp;omega)]
 have h2:p.labels=(List.range n).map λi=>((Bl p o).labels[pl o i]?).getD 0:=by
  apply Cb
  intro i
  by_cases hi:i<n
  ·rw[Ad,CN hi,CA,Ik ho hp hi,Ab (by rw[hp.len];exact hi)];rfl
  ·rw[AI (by rw[hp.len];omega),AI (by simp;omega)]
 have h3:((List.range n).map (pl o)).Perm (List.range n):=by
  refine EN ?_ (λx hx=>?_) (by simp)
  ·refine B7.2 (Er ?_ List.nodup_range)
   intro i j hi hj hne e
   exact hne (O2 ho (AM.1 hi) (AM.1 hj) e)
  ·obtain⟨i,hi,rfl⟩:=An.1 hx
   exact AM.2 (GZ ho (AM.1 hi))
 have h4:=h3.map λk=>((Bl p o).labels[k]?).getD 0
 rw[EE]at h4
 rw[<-h1]at h4
 refine h4.symm.trans ?_
 rw[show((λk=>((Bl p o).labels[k]?).getD 0)∘pl o)=λi=>((Bl p o).labels[pl o i]?).getD 0 from rfl,<-h2]
theorem zP {n:Nat} {p:Pt}(hp:PtOk n p):Oi p≠[]:=by
 have key:∀{l m:List Int},m.Perm l->∃f:Nat->Nat,(∀i,i<l.length->f i<l.length)/\(∀i j,i<l.length->j<l.length->f i=f j->i=j)/\∀i,i<l.length->m[f i]? =l[i]? :=by
  intro l
  induction l with
  |nil=>intro m h;exact⟨id,by simp,by simp,by simp⟩
  |
   cons x l ih=>
   intro m h
   have hx:x∈m:=h.mem_iff.2 (by simp)
   obtain⟨k,hk,e⟩:=C4.1 hx
   have hml:=h.length_eq
   simp only[Aw]at hml
   have hp1:(m.eraseIdx k).Perm l:=by
    have h1:m.Perm (m[k]::m.eraseIdx k):=by
     conv=>lhs;rw[<-Cf k m,BR hk]
     rw[List.eraseIdx_eq_take_drop_succ]
     exact List.perm_middle
    rw[e]at h1
    exact(List.perm_cons x).1 (h1.symm.trans h)
   obtain⟨f,f1,f2,f3⟩:=ih hp1
   refine⟨λi=>match i with
    |0=>k
    |i+1=>if f i<k then f i else f i+1,λi hi=>?_,λi j hi hj hij=>?_,λi hi=>?_⟩
   ·cases i with
    |zero=>simp only[Aw];omega
    |
     succ i=>
     have:=f1 i (by simpa using hi)
     simp only[Aw];split<;>omega
   ·cases i with
    |
     zero=>
     cases j with
     |zero=>rfl
     |succ j=>simp only at hij;split at hij<;>omega
    |
     succ i=>
     cases j with
     |zero=>simp only at hij;split at hij<;>omega
     |
      succ j=>
      simp only at hij
      have:f i=f j:=by split at hij<;>split at hij<;>omega
      have:=f2 i j (by simpa using hi) (by simpa using hj) this
      omega
   ·cases i with
    |zero=>simp only;rw[Ab hk,e];rfl
    |
     succ i=>
     have:=f3 i (by simpa using hi)
     rw[List.getElem?_cons_succ,<-this,List.getElem?_eraseIdx]
     simp only
     split
     ·rfl
     ·rfl
 obtain⟨f,f1,f2,f3⟩:=key (IZ p.labels)
 rw[hp.len]at f1 f2 f3
 have:((List.range n).map λi=>(f i:Int))∈Oi p:=(Ru hp).2 ⟨Yb f1 f2,λi hi=>by rw[xF hi];exact f3 i hi⟩
 exact List.ne_nil_of_mem this
theorem Hb {n:Nat} {p:Pt}(hp:PtOk n p):Xa p=some (Cc p,LM p)/\C2 n (LM p)/\Cc p=Bl p (LM p)/\(Cc p).labels=sortI p.labels/\∀o,C2 n o->Dw (Cc p) (Bl p o)<=0:=by
 obtain⟨b,h1,h2,h3⟩:=AC2 p (zP hp)
 have hb:Xa p=some (Bl p b,b):=h1
 have e1:Cc p=Bl p b:=by unfold Cc;rw[hb];rfl
 have e2:LM p=b:=by unfold LM;rw[hb];rfl
 obtain⟨g1,g2⟩:=(UB hp).1 h2
 rw[e1,e2]
 refine⟨hb,g1,rfl,g2,λo ho=>?_⟩
 have hl:=IB (Zk p.labels) ((P0 hp ho).trans (IZ p.labels).symm)
 rcases(YX X1).le_of hl with h|h
 ·exact Int.le_of_lt (dW (by rw[Fb,Fb]) (by rw[g2];exact h))
 ·exact h3 o ((UB hp).2 ⟨ho,h.symm⟩)
theorem sN {n:Nat} {p:Pt}(hp:PtOk n p) {o:List Int}(ho:C2 n o):Cc (Bl p o)=Cc p:=by
 have hq:=Ij ho hp
 obtain⟨_,a1,a2,_,a3⟩:=Hb hp
 obtain⟨_,b1,b2,_,b3⟩:=Hb hq
 refine Hl.antisymm ?_ ?_
 ·have:=b3 (Gc (Iv o) (LM p)) (D4 (Gm ho) a1)
  rw[<-Kf (Gm ho) a1 hq,VU ho hp,<-a2]at this
  exact this
 ·have:=a3 (Gc o (LM (Bl p o))) (D4 ho b1)
  rw[<-Kf ho b1 hp,<-b2]at this
  exact this
def Es(p q:Pt):List (List Int):=(GU p.labels q.labels p.labels.length []).filter λo=>decide (Dw (Bl p o) q=0)
section
variable {n:Nat} {p q:Pt}
theorem Jl(hp:PtOk n p)(hq:PtOk n q) {o:List Int}:o∈Es p q↔C2 n o/\Bl p o=q:=by
 unfold Es
 rw[hp.len,Az,M1 hq.len,decide_eq_true_eq,Hl.eq0]
 constructor
 ·exactλh=>⟨h.1.1,h.2⟩
 ·rintro⟨ho,rfl⟩
  exact⟨⟨ho,λi hi=>Ik ho hp hi⟩,rfl⟩
theorem Lq(p q:Pt):(Es p q).Nodup:=(O8 _ _ _ _).filter _
theorem yT(hp:PtOk n p) {m:List Int}(hm:C2 n m):(Es p (Bl p m)).length=(Es p p).length:=by
 have hq:=Ij hm hp
 refine nN (Lq _ _) (Lq _ _) (λo=>Gc o (Iv m)) (λo=>Gc o m) (λo ho=>?_) (λo ho=>?_)
 ·obtain⟨h1,h2⟩:=(Jl hp hq).1 ho
  refine⟨(Jl hp hp).2 ⟨D4 h1 (Gm hm),by rw[<-Kf h1 (Gm hm) hp,h2,VU hm hp]⟩,?_⟩
  show Gc (Gc o (Iv m)) m=o
  rw[Ts h1 (Gm hm) hm,tY hm,mB h1]
 ·obtain⟨h1,h2⟩:=(Jl hp hp).1 ho
  refine⟨(Jl hp hq).2 ⟨D4 h1 hm,by rw[<-Kf h1 hm hp,h2]⟩,?_⟩
  show Gc (Gc o m) (Iv m)=o
  rw[Ts h1 hm (Gm hm),VV hm,mB h1]
theorem AB7(hp:PtOk n p):∃c,Y0 n=c*(Es p p).length:=by
 obtain⟨c,_,_,h⟩:=oC (Bl p) (Es p p).length (lP n).length (lP n) (Ax _) (λy hy=>by
  have hy:=Qa.1 hy
  rw[<-yT hp hy]
  have hq:=Ij hy hp
  exact nN ((lO n).filter _) (Lq _ _) id id (λo ho=>by
   obtain⟨h1,h2⟩:=Az.1 ho
   exact⟨(Jl hp hq).2 ⟨Qa.1 h1,by simpa using h2⟩,rfl⟩) (λo ho=>by
   obtain⟨h1,h2⟩:=(Jl hp hq).1 ho
   exact⟨Az.2 ⟨Qa.2 h1,by simpa using h2⟩,rfl⟩))
 rw[eY]at h
 exact⟨_,h⟩
end
end Go.Gr
end
section
namespace Go.Gr
open Go.Proofs.YtjpmmkodoeipmaaGreatDoor
def SK(E:List Edg)(v:Int):Nat:=E.countP λe=>decide (e.a=v\/e.b=v)
section
variable {n:Nat} {p q:Pt} {b:List Int}
theorem AB6(hp:PtOk n p) {o:List Int}(h:o∈Es p p):C2 n o:=((Jl hp hp).1 h).1
end
end Go.Gr
end
section
namespace Go.Gr
open Go.Proofs.YtjpmmkodoeipmaaGreatDoor
open Go
theorem nO {c:UInt8} {sep:List UInt8}(hs:c∉sep):∀{xs:List (List UInt8)},(∀x∈xs,c∉x)->c∉Lib.join xs sep
 |[],_=>by rw[Lib.join_nil];simp
 |[x],h=>by rw[Lib.join_one];exact h x (by simp)
 |
  x::y::r,h=>by
  rw[Io]
  simp only[Ag,not_or]
  exact⟨h x (by simp),hs,nO hs λz hz=>h z (by simp[hz])⟩
theorem UK {c:UInt8}:∀{xs ys:List (List UInt8)},(∀x∈xs,c∉x/\x≠[])->(∀x∈ys,c∉x/\x≠[])->Lib.join xs [c]=Lib.join ys [c]->xs=ys
 |[],[],_,_,_=>rfl
 |[],[y],_,h,e=>by rw[Lib.join_nil,Lib.join_one]at e;exact absurd e.symm (h y (by simp)).2
 |[],y::z::r,_,h,e=>by rw[Lib.join_nil,Io]at e;simp at e
 |[x],[],h,_,e=>by rw[Lib.join_nil,Lib.join_one]at e;exact absurd e (h x (by simp)).2
 |x::z::r,[],h,_,e=>by rw[Lib.join_nil,Io]at e;simp at e
 |[x],[y],_,_,e=>by rw[Lib.join_one,Lib.join_one]at e;rw[e]
 |
  [x],y::z::r,h,_,e=>by
  rw[Lib.join_one,Io]at e
  exact absurd (show c∈x by rw[e];simp) (h x (by simp)).1
 |
  x::z::r,[y],_,h,e=>by
  rw[Lib.join_one,Io]at e
  exact absurd (show c∈y by rw[<-e];simp) (h y (by simp)).1
 |
  x::z::r,y::w::s,h,h',e=>by
  rw[Io,Io]at e
  obtain⟨e1,e2⟩:=TN (h x (by simp)).1 (h' y (by simp)).1 e
  rw[e1,UK (λu hu=>h u (by simp[hu])) (λu hu=>h' u (by simp[hu])) e2]
theorem jT {x:Int}(h:0<=x) {c:UInt8}(hc:c∈Lib.itoa x):48<=c.toNat/\c.toNat<=57:=by
 obtain⟨k,rfl⟩:=A6 h
 rw[Ip]at hc
 exact AAi k c hc
theorem UL {x y:Int}(hx:0<=x)(hy:0<=y)(h:Lib.itoa x=Lib.itoa y):x=y:=by
 obtain⟨k,rfl⟩:=A6 hx
 obtain⟨j,rfl⟩:=A6 hy
 rw[Ip,Ip]at h
 have:=congrArg val h
 rw[uN,uN]at this
 rw[this]
theorem ABL {x:Int}(h:0<=x):Lib.itoa x≠[]:=by
 obtain⟨k,rfl⟩:=A6 h
 rw[Ip];exact AEM k
theorem Nq {x:Int}(h:0<=x) {c:UInt8}(hc:c.toNat<48\/57<c.toNat):c∉Lib.itoa x:=λhm=>by have:=jT h hm;omega
theorem OD {α β:Type} {f:α->β}:∀{l m:List α},(∀x∈l,∀y∈m,f x=f y->x=y)->l.map f=m.map f->l=m
 |[],[],_,_=>rfl
 |[],_::_,_,h=>by simp at h
 |_::_,[],_,h=>by simp at h
 |
  x::l,y::m,hf,h=>by
  simp only[Ar,D2]at h
  rw[hf x (by simp) y (by simp) h.1,OD (λa ha b hb=>hf a (by simp[ha]) b (by simp[hb])) h.2]
def AA9(p:Pt):Prop:=(∀x∈p.labels,0<=x)/\∀e∈p.edges,0<=e.a/\0<=e.b
theorem ACd {e:Edg}(h:0<=e.a/\0<=e.b):(44:UInt8)∉JW e/\JW e≠[]:=by
 unfold JW
 refine⟨?_,by simp⟩
 simp only[Ag,Ai,not_or]
 exact⟨Nq h.1 (by decide),by decide,Nq h.2 (by decide)⟩
theorem AAa {e f:Edg}(h:0<=e.a/\0<=e.b)(h':0<=f.a/\0<=f.b)(hh:JW e=JW f):e=f:=by
 unfold JW at hh
 obtain⟨h1,h2⟩:=TN (Nq h.1 (by decide)) (Nq h'.1 (by decide)) hh
 cases e;cases f
 simp only[Edg.mk.injEq]
 exact⟨UL h.1 h'.1 h1,UL h.2 h'.2 h2⟩
theorem Ut {p q:Pt}(hp:AA9 p)(hq:AA9 q)(h:DW p=DW q):p=q:=by
 unfold DW at h
 have no:∀{l:List Int},(∀x∈l,0<=x)->(124:UInt8)∉Lib.join (l.map Lib.itoa) [44]:=λhl=>nO (by decide) λx hx=>by
  obtain⟨y,hy,rfl⟩:=An.1 hx
  exact Nq (hl y hy) (by decide)
 have no2:∀{l:List Int},(∀x∈l,0<=x)->∀x∈l.map Lib.itoa,(44:UInt8)∉x/\x≠[]:=λhl x hx=>by
  obtain⟨y,hy,rfl⟩:=An.1 hx
  exact⟨Nq (hl y hy) (by decide),ABL (hl y hy)⟩
 have no3:∀{l:List Edg},(∀e∈l,0<=e.a/\0<=e.b)->∀x∈l.map JW,(44:UInt8)∉x/\x≠[]:=λhl x hx=>by
  obtain⟨y,hy,rfl⟩:=An.1 hx
  exact ACd (hl y hy)
 obtain⟨h1,h2⟩:=TN (no hp.1) (no hq.1) h
 have e1:=OD (λx hx y hy=>UL (hp.1 x hx) (hq.1 y hy)) (UK (no2 hp.1) (no2 hq.1) h1)
 have e2:=OD (λx hx y hy=>AAa (hp.2 x hx) (hq.2 y hy)) (UK (no3 hp.2) (no3 hq.2) h2)
 cases p;cases q
 simp only at e1 e2
 rw[e1,e2]
end Go.Gr
end
section
namespace Go.Gr
open Go.Reg
section
variable {α:Type} {f:α->α->Int}
def Dq(f:α->α->Int):List (α×Int)->α->Int->List (α×Int)
 |[],p,n=>[(p,n)]
 |(q,m)::l,p,n=>if f q p<0 then(q,m)::Dq f l p n else if f q p=0 then(p,m+n)::l else(p,n)::(q,m)::l
def GA(f:α->α->Int)(l:List (α×Int)):Prop:=l.Pairwise (λa b=>f a.1 b.1<0)
theorem QB {l:List (α×Int)} {p:α} {n:Int}:∀x∈Dq f l p n,x.1=p\/x∈l:=by
 induction l with
 |nil=>intro x hx;simp only[Dq,As]at hx;exact .inl (by rw[hx])
 |
  cons y l ih=>
  obtain⟨q,m⟩:=y
  intro x hx
  simp only[Dq]at hx
  split at hx
  ·rcases Ai.1 hx with rfl|hx
   ·exact .inr (by simp)
   ·exact(ih x hx).imp id λh=>by simp[h]
  ·split at hx
   ·rcases Ai.1 hx with rfl|hx
    ·exact .inl rfl
    ·exact .inr (by simp[hx])
   ·rcases Ai.1 hx with rfl|hx
    ·exact .inl rfl
    ·exact .inr hx
theorem N1(h:TOrd f) {l:List (α×Int)} {p:α} {n:Int}(hs:GA f l):GA f (Dq f l p n):=by
 unfold GA at hs⊢
 induction l with
 |nil=>exact List.pairwise_singleton _ _
 |
  cons y l ih=>
  obtain⟨q,m⟩:=y
  obtain⟨h1,h2⟩:=BZ.1 hs
  simp only[Dq]
  split
  ·rename_i hq
   refine BZ.2 ⟨λx hx=>?_,ih h2⟩
   rcases QB x hx with e|hx
   ·rw[e];exact hq
   ·exact h1 x hx
  ·split
   ·rename_i hq0
    have e:=(h.eq0 q p).1 hq0
    subst e
    exact BZ.2 ⟨h1,h2⟩
   ·rename_i hq hq0
    have hpq:f p q<0:=by have:=h.anti q p;omega
    refine BZ.2 ⟨λx hx=>?_,hs⟩
    rcases Ai.1 hx with rfl|hx
    ·exact hpq
    ·exact h.trans _ _ _ hpq (h1 x hx)
theorem AA6(h:TOrd f) {l:List (α×Int)} {p:α} {n:Int}(hp:∀x∈l,x.1≠p):(Dq f l p n).Perm ((p,n)::l):=by
 induction l with
 |nil=>exact .refl _
 |
  cons y l ih=>
  obtain⟨q,m⟩:=y
  simp only[Dq]
  split
  ·exact((ih λx hx=>hp x (by simp[hx])).cons _).trans (.swap _ _ _)
  ·split
   ·rename_i hq0
    exact absurd ((h.eq0 q p).1 hq0) (hp (q,m) (by simp))
   ·exact .refl _
theorem AA5 [DecidableEq α](h:TOrd f) {l:List (α×Int)} {p:α} {n s:Int}(hs:GA f l)(hp:(p,s)∈l):(Dq f l p n).Perm ((p,s+n)::l.erase (p,s)):=by
 unfold GA at hs
 induction l with
 |nil=>cases hp
 |
  cons y l ih=>
  obtain⟨q,m⟩:=y
  obtain⟨h1,h2⟩:=BZ.1 hs
  simp only[Dq]
  rcases Ai.1 hp with e|hp
  ·cases e
   have h0:=h.self p
   rw[if_neg (by omega),if_pos h0]
   simp
  ·have hq:=h1 _ hp
   simp only at hq
   have hne:(q,m)≠(p,s):=λe=>by
    cases e
    have:=h.self p
    omega
   rw[if_pos hq,List.erase_cons_tail (by simpa using hne)]
   exact((ih h2 hp).cons _).trans (.swap _ _ _)
theorem Wg(h:TOrd f) {l out:List (α×Int)}(hp:out.Perm l)(hs:GA f l)(ho:out.Pairwise (λa b=>¬f b.1 a.1<0)):out=l:=by
 unfold GA at hs
 refine hp.eq_of_pairwise (le:=λa b=>¬f b.1 a.1<0) (λa b ha hb h1 h2=>?_) ho (hs.imp λ{a b} hab hba=>?_)
 ·have e:a.1=b.1:=by
   have:=h.anti a.1 b.1
   exact(h.eq0 _ _).1 (by omega)
  have ha':=hp.mem_iff.1 ha
  by_cases hab:a=b
  ·exact hab
  ·exfalso
   obtain⟨i,hi⟩:=SM ha'
   obtain⟨j,hj⟩:=SM hb
   obtain⟨hi',ei⟩:=Ae.1 hi
   obtain⟨hj',ej⟩:=Ae.1 hj
   have h0:=h.self b.1
   rcases fJ i j with hlt|heq|hgt
   ·have:=AO.1 hs i j hi' hj' hlt
    rw[ei,ej,e]at this;omega
   ·subst heq;exact hab (ei.symm.trans ej)
   ·have:=AO.1 hs j i hj' hi' hgt
    rw[ei,ej,e]at this;omega
 ·have:=h.anti a.1 b.1;omega
structure TabIs {κ:Type} [DecidableEq κ](f:α->α->Int)(key:α->κ)(ok:α->Prop)(m:List (κ×(α×Int)))(l:List (α×Int)):Prop where
 sort:GA f l
 perm:(m.map (·.2)).Perm l
 keys:∀x∈m,x.1=key x.2.1/\ok x.2.1
 nodup:(m.map (·.1)).Nodup
theorem TabIs.nil {κ:Type} [DecidableEq κ] {key:α->κ} {ok:α->Prop}:TabIs f key ok [] []:=⟨.nil,.refl _,by simp,by simp⟩
theorem mU {β:Type}:∀{l:List β} {i:Nat} {x:β},l[i]? =some x->l.Perm (x::l.eraseIdx i)
 |[],i,x,h=>by simp at h
 |y::l,0,x,h=>by simp at h;subst h;exact .refl _
 |
  y::l,i+1,x,h=>by
  have:=mU (l:=l) (i:=i) (x:=x) (by simpa using h)
  exact(this.cons y).trans (.swap _ _ _)
theorem vP {β:Type}:∀{l:List β} {i:Nat} (y:β),i<l.length->(l.set i y).Perm (y::l.eraseIdx i)
 |[],i,y,h=>by simp at h
 |x::l,0,y,h=>by simp
 |
  x::l,i+1,y,h=>by
  have:=vP (l:=l) (i:=i) y (by simpa using h)
  exact(this.cons x).trans (.swap _ _ _)
theorem TabIs.add [DecidableEq α] {κ:Type} [DecidableEq κ] {key:α->κ} {ok:α->Prop}(h:TOrd f)(hk:∀p q,ok p->ok q->key p=key q->p=q) {m:List (κ×(α×Int))} {l:List (α×Int)}(t:TabIs f key ok m l) {p:α}(hp:ok p)(n:Int):
  (∀r,get m (key p)=some r->r.1=p/\TabIs f key ok (put m (key p) (p,r.2+n)) (Dq f l p n))/\(get m (key p)=none->TabIs f key ok (put m (key p) (p,n)) (Dq f l p n)):=by
 have hkeys:∀v:Int,∀x∈put m (key p) (p,v),x.1=key x.2.1/\ok x.2.1:=λv x hx=>by
  unfold put at hx
  split at hx
  ·rcases KP hx with hx|rfl
   ·exact t.keys x hx
   ·exact⟨rfl,hp⟩
  ·rcases Ag.1 hx with hx|hx
   ·exact t.keys x hx
   ·rw[As.1 hx];exact⟨rfl,hp⟩
 have hnod:∀v:Int,((put m (key p) (p,v)).map (·.1)).Nodup:=λv=>by
  unfold put
  cases hf:(m.map (·.1)).findIdx? (· ==key p)with
  |
   some i=>
   obtain⟨q,hq,hqk,_⟩:=Ft m (key p) i hf
   simp only[Dz]
   rw[P6 (by rw[Ad,hq];simp[hqk])]
   exact t.nodup
  |
   none=>
   simp only[A7,Ar,Bu]
   refine Dm.2 ⟨t.nodup,by simp,λa ha b hb=>?_⟩
   simp at hb;subst hb
   rw[Be]at hf
   have:=hf a ha
   simpa using this
 constructor
 ·intro r hr
  cases hf:(m.map (·.1)).findIdx? (· ==key p)with
  |none=>rw[(IH m (key p) hf).1]at hr;cases hr
  |
   some i=>
   obtain⟨q,hq,hqk,hg⟩:=Ft m (key p) i hf
   rw[hr]at hg
   have hrq:r=q.2:=Ce hg
   have hmem:=A8 hq
   obtain⟨k1,k2⟩:=t.keys q hmem
   have e:r.1=p:=by rw[hrq];exact hk _ _ k2 hp (by rw[<-k1,hqk])
   refine⟨e,N1 h t.sort,?_,hkeys _,hnod _⟩
   have hq2:(m.map (·.2))[i]? =some (p,r.2):=by rw[Ad,hq];simp[<-hrq,<-e]
   have h1:=mU hq2
   have hil:i<(m.map (·.2)).length:=(Ae.1 hq2).1
   have hput:(put m (key p) (p,r.2+n)).map (·.2)=(m.map (·.2)).set i (p,r.2+n):=by unfold put;rw[hf];simp
   rw[hput]
   have hin:(p,r.2)∈l:=t.perm.mem_iff.1 (A8 hq2)
   refine(vP _ hil).trans (.trans ?_ (AA5 h t.sort hin).symm)
   refine .cons _ ?_
   have h2:l.Perm ((p,r.2)::(m.map (·.2)).eraseIdx i):=t.perm.symm.trans h1
   have h3:=h2.erase (p,r.2)
   rw[List.erase_cons_head]at h3
   exact h3.symm
 ·intro hr
  cases hf:(m.map (·.1)).findIdx? (· ==key p)with
  |
   some i=>
   obtain⟨q,hq,hqk,hg⟩:=Ft m (key p) i hf
   rw[hr]at hg;cases hg
  |
   none=>
   refine⟨N1 h t.sort,?_,hkeys _,hnod _⟩
   have hput:(put m (key p) (p,n)).map (·.2)=m.map (·.2)++[(p,n)]:=by unfold put;rw[hf];simp
   rw[hput]
   have hne:∀x∈l,x.1≠p:=λx hx e=>by
    obtain⟨y,hy,rfl⟩:=An.1 (t.perm.mem_iff.2 hx)
    have h1:=t.keys y hy
    rw[Be]at hf
    have:=hf y.1 (Co hy)
    rw[h1.1,e]at this
    simp at this
   refine List.Perm.trans ?_ (AA6 h hne).symm
   have hc:([(p,n)]++m.map (·.2)).Perm ((p,n)::l):=List.Perm.cons (p,n) t.perm
   exact List.perm_append_comm.trans hc
def GF(l:List (α×Int)):Int:=(l.map (·.2)).foldr (· + ·) 0
theorem Zd {l:List (α×Int)} {p:α} {n:Int}:GF (Dq f l p n)=GF l+n:=by
 induction l with
 |nil=>simp[Dq,GF]
 |
  cons y l ih=>
  obtain⟨q,m⟩:=y
  unfold GF at ih⊢
  simp only[Dq]
  split
  ·simp only[Ar,List.foldr_cons,ih];omega
  ·split<;>simp only[Ar,List.foldr_cons]<;>omega
end
end Go.Gr
end
section
namespace Go.Gr
open Go
abbrev ACB(p:Pt):Prop:=AA9 p
end Go.Gr
namespace Go.Proofs.YtjpmmkodoeipmaaGreatDoor
open Go Go.Sx Go.RowKit Go.Reg Go.Gr
def LR(m:List (ByteArray×RowV)):List (ByteArray×(Pt×Int)):=m.map λx=>(x.1,(x.2.p,x.2.n))
theorem VY(m:List (ByteArray×RowV))(k:ByteArray):Reg.get (LR m) k=(Reg.get m k).map λr=>(r.p,r.n):=by
 unfold Reg.get LR
 rw[List.find?_map,Option.map_map,Option.map_map]
 rfl
theorem VX(m:List (ByteArray×RowV))(k:ByteArray)(r:RowV):LR (put m k r)=put (LR m) k (r.p,r.n):=by
 have e:(LR m).map (·.1)=m.map (·.1):=by unfold LR;rw[EE];rfl
 unfold put
 rw[e]
 split
 ·unfold LR;rw[Dz]
 ·unfold LR;rw[A7];rfl
def MT(l:List (Pt×Int))(m:List (ByteArray×RowV)):Prop:=TabIs Dw (λp=>bs (DW p)) ACB (LR m) l
theorem Tv:MT [] []:=TabIs.nil
theorem uT {l:List (Pt×Int)} {m:List (ByteArray×RowV)}(t:MT l m) {p:Pt}(hp:ACB p)(n:Int) {r:RowV}(hr:Reg.get m (bs (DW p))=some r):r.p=p/\MT (Dq Dw l p n) (put m (bs (DW p)) {r with n:=r.n+n}):=by
 obtain⟨h1,h2⟩:=(TabIs.add Hl (λp q hp hq e=>Ut hp hq (lH e)) t hp n).1 (r.p,r.n) (by rw[VY,hr];rfl)
 refine⟨h1,?_⟩
 unfold MT
 rw[VX]
 simp only at h1
 rw[h1]
 exact h2
theorem uU {l:List (Pt×Int)} {m:List (ByteArray×RowV)}(t:MT l m) {p:Pt}(hp:ACB p) {r:RowV}(h1:r.p=p)(hr:Reg.get m (bs (DW p))=none):MT (Dq Dw l p r.n) (put m (bs (DW p)) r):=by
 have h2:=(TabIs.add Hl (λp q hp hq e=>Ut hp hq (lH e)) t hp r.n).2 (by rw[VY,hr];rfl)
 unfold MT
 rw[VX,h1]
 exact h2
theorem Za {l:List (Pt×Int)} {m:List (ByteArray×RowV)}(t:MT l m) {x:ByteArray×RowV}(hx:x∈m):(x.2.p,x.2.n)∈l:=t.perm.mem_iff.1 (An.2 ⟨_,Co hx,rfl⟩)
end Go.Proofs.YtjpmmkodoeipmaaGreatDoor
end
section
namespace Go.Proofs
open Go.Shelf
def Tryz.sortR_ren:Go.Shelf.Ren:=⟨λ|6=>118|15=>124|14=>169|28=>180|29=>181|20=>227|21=>228|22=>229|23=>230|24=>231|25=>232|26=>233|27=>234|46=>269|47=>245|48=>246|49=>270|50=>271|57=>286|n=>n,λ|22=>138|24=>140|25=>198|3=>3|39=>202|0=>0|53=>250|55=>215|4=>4|46=>243|45=>242|50=>247|5=>5|9=>9|66=>293|70=>297|76=>318|77=>112|n=>n,λ|n=>n⟩
theorem Tryz.sortR:Go.Proofs.SlLaysF0.n6 Tryz.prog Tryz.sortR_ren:={
 mixed:=by kernel_rfl
 f6:=⟨Tryz.f118.name,by decide,Tryz.func118.trans (congrArg some (by kernel_rfl))⟩
 f14:=⟨Tryz.f169.name,by decide,Tryz.func169.trans (congrArg some (by kernel_rfl))⟩
 f15:=Tryz.func124.trans (congrArg some (by kernel_rfl))
 f20:=⟨Tryz.f227.name,by decide,Tryz.func227.trans (congrArg some (by kernel_rfl))⟩
 f21:=⟨Tryz.f228.name,by decide,Tryz.func228.trans (congrArg some (by kernel_rfl))⟩
 f22:=⟨Tryz.f229.name,by decide,Tryz.func229.trans (congrArg some (by kernel_rfl))⟩
 f23:=⟨Tryz.f230.name,by decide,Tryz.func230.trans (congrArg some (by kernel_rfl))⟩
 f24:=⟨Tryz.f231.name,by decide,Tryz.func231.trans (congrArg some (by kernel_rfl))⟩
 f25:=⟨Tryz.f232.name,by decide,Tryz.func232.trans (congrArg some (by kernel_rfl))⟩
 f26:=⟨Tryz.f233.name,by decide,Tryz.func233.trans (congrArg some (by kernel_rfl))⟩
 f27:=⟨Tryz.f234.name,by decide,Tryz.func234.trans (congrArg some (by kernel_rfl))⟩
 f28:=Tryz.func180.trans (congrArg some (by kernel_rfl))
 f29:=Tryz.func181.trans (congrArg some (by kernel_rfl))
 f46:=⟨Tryz.f269.name,by decide,Tryz.func269.trans (congrArg some (by kernel_rfl))⟩
 f47:=Tryz.func245.trans (congrArg some (by kernel_rfl))
 f48:=Tryz.func246.trans (congrArg some (by kernel_rfl))
 f49:=⟨Tryz.f270.name,by decide,Tryz.func270.trans (congrArg some (by kernel_rfl))⟩
 f50:=⟨Tryz.f271.name,by decide,Tryz.func271.trans (congrArg some (by kernel_rfl))⟩
 f57:=⟨Tryz.f286.name,by decide,Tryz.func286.trans (congrArg some (by kernel_rfl))⟩
 t0:=Tryz.underlying0
 a0:=Tryz.isAgg0
 z0:=Tryz.sizeOf0
 v0:=Tryz.zeroValue0
 t3:=Tryz.underlying3
 a3:=Tryz.isAgg3
 z3:=Tryz.sizeOf3
 v3:=Tryz.zeroValue3
 t4:=Tryz.underlying4
 a4:=Tryz.isAgg4
 z4:=Tryz.sizeOf4
 v4:=Tryz.zeroValue4
 t5:=Tryz.underlying5
 a5:=Tryz.isAgg5
 z5:=Tryz.sizeOf5
 v5:=Tryz.zeroValue5
 t9:=Tryz.underlying9
 a9:=Tryz.isAgg9
 z9:=Tryz.sizeOf9
 v9:=Tryz.zeroValue9
 t22:=Tryz.underlying138
 a22:=Tryz.isAgg138
 z22:=Tryz.sizeOf138
 v22:=Tryz.zeroValue138
 t25:=Tryz.underlying198
 a25:=Tryz.isAgg198
 z25:=Tryz.sizeOf198
 v25:=Tryz.zeroValue198
 t39:=Tryz.underlying202
 a39:=Tryz.isAgg202
 z39:=Tryz.sizeOf202
 v39:=Tryz.zeroValue202
 t45:=Tryz.underlying242
 a45:=Tryz.isAgg242
 z45:=Tryz.sizeOf242
 v45:=Tryz.zeroValue242
 t46:=Tryz.underlying243
 a46:=Tryz.isAgg243
 z46:=Tryz.sizeOf243
 v46:=Tryz.zeroValue243
 t50:=Tryz.underlying247
 a50:=Tryz.isAgg247
 z50:=Tryz.sizeOf247
 v50:=Tryz.zeroValue247
 t53:=Tryz.underlying250
 a53:=Tryz.isAgg250
 z53:=Tryz.sizeOf250
 v53:=Tryz.zeroValue250
 t55:=Tryz.underlying215
 a55:=Tryz.isAgg215
 z55:=Tryz.sizeOf215
 v55:=Tryz.zeroValue215
 t66:=Tryz.underlying293
 a66:=Tryz.isAgg293
 z66:=Tryz.sizeOf293
 v66:=Tryz.zeroValue293
 t70:=Tryz.underlying297
 a70:=Tryz.isAgg297
 z70:=Tryz.sizeOf297
 v70:=Tryz.zeroValue297
 t76:=Tryz.underlying318
 a76:=Tryz.isAgg318
 z76:=Tryz.sizeOf318
 v76:=Tryz.zeroValue318
 t77:=Tryz.underlying112
 a77:=Tryz.isAgg112
 z77:=Tryz.sizeOf112
 v77:=Tryz.zeroValue112}
end Go.Proofs
end
section
namespace Go.Proofs.YtjpmmkodoeipmaaGreatDoor
open Go.RowKit Go.Reg Go.Gr Go.Sort
theorem AE0 {n:Int}(h:-9223372036854775808<=n/\n<=9223372036854775807):wrap64 n=n:=by unfold wrap64;omega
abbrev JI(n:Int):List Value:=[.int .i64 n]
set_option maxRecDepth 100000 in
theorem P3(v1 v2:Value)(l r:List Int)(W:World)(h1:EB 1 JI W v1 l)(h2:EB 1 JI W v2 r):Calls Tryz.prog 32 #[v1,v2] W λe w'=>e=.returned (.int .i64 (Ef Db l r))/\W=w':=by
 obtain⟨a1,c1,rfl,hm1,hc1⟩:=h1
 obtain⟨a2,c2,rfl,hm2,hc2⟩:=h2
 have HC1:=Ga hc1
 have HC2:=Ga hc2
 have HM1:=Ga hm1
 have HM2:=Ga hm2
 clear hc1 hc2 hm1 hm2
 go_enter Tryz.func32,Tryz.ntmps32
 go_wp2_with fail
 go_loopg [11] l.length (λg s11 wr=>Hid (∃i:Nat,s11=.int .i64 i/\g=l.length-i/\(i<=l.length/\i<=r.length)/\W=wr/\Ef Db (l.drop i) (r.drop i)=Ef Db l r))
 case atStart=>exact Ga ⟨0,rfl,rfl,⟨Am _,Am _⟩,rfl,rfl⟩
 case round=>
  obtain⟨i,rfl,rfl,⟨hi,hi2⟩,rfl,hcm⟩:=hrel.out
  clear hrel
  by_cases hlt:i<l.length
  ·have hx:l[i]? =some l[i]:=Ab hlt
   obtain⟨b,o,rfl,hcell⟩:=HC1.out i _ hx
   have g0:=hcell 0 _ rfl
   rw[Et,FA]at g0
   have hlt':decide (i<l.length)=true:=by simpa using hlt
   rw[BR hlt]at hcm
   generalize l[i]=x at g0 hcm
   clear hcell hx
   by_cases hrt:i<r.length
   ·have hge:decide (r.length<=i)=false:=by simpa using hrt
    have hy:r[i]? =some r[i]:=Ab hrt
    obtain⟨b2,o2,rfl,hcell2⟩:=HC2.out i _ hy
    have g1:=hcell2 0 _ rfl
    rw[Et,FA]at g1
    rw[BR hrt]at hcm
    generalize r[i]=y at g1 hcm
    clear hcell2 hy
    rw[Dt]at hcm
    have HCM:=Ga hcm
    have HL:=Ga hlt
    have HR:=Ga hrt
    clear hcm hi hi2 hlt hrt
    by_cases h0:Db x y=0
    ·have hne:(Db x y !=0)=false:=by simp[h0]
     have H0:=Ga h0
     clear h0
     go_wp2_with (go_at_call 31;refine(F5 _ _ _).mono ?_;rintro e w' ⟨rfl,rfl⟩)
     go_roundg (l.length- (i+1))
     case measure=>have:=HL.out;omega
     case rel=>
      have hl:=HL.out
      have hr:=HR.out
      have hM:=HM1.out
      refine Ga ⟨i+1,by simp only[maxLen]at hM;rw[AE0 (by omega)];simp,rfl,⟨by omega,by omega⟩,rfl,?_⟩
      have:=HCM.out
      rwa [if_pos H0.out]at this
    ·have hne:(Db x y !=0)=true:=by simpa using h0
     have H0:=Ga h0
     clear h0
     go_wp2_with (go_at_call 31;refine(F5 _ _ _).mono ?_;rintro e w' ⟨rfl,rfl⟩)
     go_ret
     have:=HCM.out
     rw[if_neg H0.out]at this
     rw[<-this]
     exact⟨rfl,rfl⟩
   ·have hge:decide (r.length<=i)=true:=by simpa using hrt
    rw[I4 (show r.length<=i by omega)]at hcm
    have HCM:=Ga hcm
    clear hcm hi hi2 hrt
    go_wp2_with fail
    go_ret
    rw[<-HCM.out]
    exact⟨rfl,rfl⟩
  ·have hlt':decide (i<l.length)=false:=by simpa using hlt
   rw[I4 (show l.length<=i by omega)]at hcm
   by_cases hrt:l.length<r.length
   ·have hlr:decide (l.length<r.length)=true:=by simpa using hrt
    obtain⟨z,t,hz⟩:∃z t,r.drop i=z::t:=by
     have:i<r.length:=by omega
     exact⟨_,_,BR this⟩
    rw[hz]at hcm
    have HCM:=Ga hcm
    clear hcm hi hi2 hlt hrt hz
    go_wp2_with fail
    go_ret
    rw[<-HCM.out]
    exact⟨rfl,rfl⟩
   ·have hlr:decide (l.length<r.length)=false:=by simpa using hrt
    rw[I4 (show r.length<=i by omega)]at hcm
    have HCM:=Ga hcm
    clear hcm hi hi2 hlt hrt
    go_wp2_with fail
    go_ret
    rw[<-HCM.out]
    exact⟨rfl,rfl⟩
theorem pD(W:World)(q:Nat)(os:Array Obj):Tch [] W (grow (W.drewN q) os):=
 ⟨rfl,rfl,rfl,by simp[grow],λk hk _=>by simp[grow,GC hk]⟩
theorem zL {W wr:World} {q:Nat} {os:Array Obj} {o:Obj}(h:wr=grow (W.drewN q) os):∃q' os',wr.alloc o=grow (W.drewN q') os':=
 ⟨q,_,by rw[h,alloc_eq_grow,grow_grow]⟩
theorem zK {W wr:World} {q q':Nat} {os os':Array Obj} {o p:Obj}(h:wr=grow (W.drewN q) os):∃q2 os2,grow (((wr.alloc o).alloc p).drewN q') os'=grow (W.drewN q2) os2:=
 ⟨q+q',_,by
  rw[h,alloc_eq_grow,alloc_eq_grow,grow_grow,grow_grow]
  show grow (grow ((W.drewN q).drewN q') _) os'=_
  rw[grow_grow,World.drewN_drewN]⟩
set_option maxRecDepth 100000 in
set_option maxHeartbeats 1000000 in
theorem XC(v1 v2:Value)(l r:List Edg)(W:World)(h1:EB 2 Ir W v1 l)(h2:EB 2 Ir W v2 r):Calls Tryz.prog 33 #[v1,v2,.func (.func 34) #[] #[]] W λe w'=>e=.returned (.int .i64 (Ef Cy l r))/\∃q os,w'=grow (W.drewN q) os:=by
 obtain⟨a1,c1,rfl,hm1,hc1⟩:=h1
 obtain⟨a2,c2,rfl,hm2,hc2⟩:=h2
 have HC1:=Ga hc1
 have HC2:=Ga hc2
 have HM1:=Ga hm1
 have HM2:=Ga hm2
 clear hc1 hc2 hm1 hm2
 go_enter Tryz.func33,Tryz.ntmps33
 go_wp2_with fail
 go_loopg [13] l.length (λg s13 wr=>Hid (∃i:Nat,s13=.int .i64 i/\g=l.length-i/\(i<=l.length/\i<=r.length)/\(∃q os,wr=grow (W.drewN q) os)/\Ef Cy (l.drop i) (r.drop i)=Ef Cy l r))
 case atStart=>exact Ga ⟨0,rfl,rfl,⟨Am _,Am _⟩,⟨0,#[],by rw[grow_empty];rfl⟩,rfl⟩
 case round=>
  obtain⟨i,rfl,rfl,⟨hi,hi2⟩,⟨q,os,hwr⟩,hcm⟩:=hrel.out
  clear hrel
  have ht:=pD W q os
  by_cases hlt:i<l.length
  ·have hx:l[i]? =some l[i]:=Ab hlt
   obtain⟨b,o,rfl,hcell⟩:=HC1.out i _ hx
   have g0:=HI ht (hcell 0 _ rfl)
   have g1:=HI ht (hcell 1 _ rfl)
   rw[<-hwr]at g0 g1
   rw[Et]at g0
   have hlt':decide (i<l.length)=true:=by simpa using hlt
   rw[BR hlt]at hcm
   generalize l[i]=x at g0 g1 hcm
   clear hcell hx
   by_cases hrt:i<r.length
   ·have hge:decide (r.length<=i)=false:=by simpa using hrt
    have hy:r[i]? =some r[i]:=Ab hrt
    obtain⟨b2,o2,rfl,hcell2⟩:=HC2.out i _ hy
    have g2:=HI ht (hcell2 0 _ rfl)
    have g3:=HI ht (hcell2 1 _ rfl)
    rw[<-hwr]at g2 g3
    rw[Et]at g2
    rw[BR hrt]at hcm
    generalize r[i]=y at g2 g3 hcm
    clear hcell2 hy
    rw[Dt]at hcm
    have HCM:=Ga hcm
    have HL:=Ga hlt
    have HR:=Ga hrt
    have HWR:=Ga hwr
    clear hcm hi hi2 hlt hrt hwr ht
    have g2':=HI (Tch.alloc wr (Obj.cells #[Value.int .i64 x.a,Value.int .i64 x.b] 90) []) g2
    have g3':=HI (Tch.alloc wr (Obj.cells #[Value.int .i64 x.a,Value.int .i64 x.b] 90) []) g3
    by_cases h0:Cy x y=0
    ·have hne:(Cy x y !=0)=false:=by simp[h0]
     have H0:=Ga h0
     clear h0
     go_wp2_with (go_at_call 34;refine(O5 x y _).mono ?_;rintro e w' ⟨rfl,q',os',rfl⟩)
     go_roundg (l.length- (i+1))
     case measure=>have:=HL.out;omega
     case rel=>
      have hl:=HL.out
      have hr:=HR.out
      have hM:=HM1.out
      refine Ga ⟨i+1,by simp only[maxLen]at hM;rw[AE0 (by omega)];simp,rfl,⟨by omega,by omega⟩,zK HWR.out,?_⟩
      have:=HCM.out
      rwa [if_pos H0.out]at this
    ·have hne:(Cy x y !=0)=true:=by simpa using h0
     have H0:=Ga h0
     clear h0
     go_wp2_with (go_at_call 34;refine(O5 x y _).mono ?_;rintro e w' ⟨rfl,q',os',rfl⟩)
     go_ret
     have:=HCM.out
     rw[if_neg H0.out]at this
     rw[<-this]
     exact⟨rfl,zK HWR.out⟩
   ·have hge:decide (r.length<=i)=true:=by simpa using hrt
    rw[I4 (show r.length<=i by omega)]at hcm
    have HCM:=Ga hcm
    have HWR:=Ga hwr
    clear hcm hi hi2 hrt hwr ht
    go_wp2_with fail
    go_ret
    rw[<-HCM.out]
    exact⟨rfl,zL HWR.out⟩
  ·have hlt':decide (i<l.length)=false:=by simpa using hlt
   rw[I4 (show l.length<=i by omega)]at hcm
   by_cases hrt:l.length<r.length
   ·have hlr:decide (l.length<r.length)=true:=by simpa using hrt
    obtain⟨z,t,hz⟩:∃z t,r.drop i=z::t:=by
     have:i<r.length:=by omega
     exact⟨_,_,BR this⟩
    rw[hz]at hcm
    have HCM:=Ga hcm
    have HWR:=Ga hwr
    clear hcm hi hi2 hlt hrt hz hwr ht
    go_wp2_with fail
    go_ret
    rw[<-HCM.out]
    exact⟨rfl,_,_,HWR.out⟩
   ·have hlr:decide (l.length<r.length)=false:=by simpa using hrt
    rw[I4 (show r.length<=i by omega)]at hcm
    have HCM:=Ga hcm
    have HWR:=Ga hwr
    clear hcm hi hi2 hlt hrt hwr ht
    go_wp2_with fail
    go_ret
    rw[<-HCM.out]
    exact⟨rfl,_,_,HWR.out⟩
set_option maxRecDepth 100000 in
theorem ADL(s:Nat)(a b c d:Int)(W:World)(c0:W.cell? ⟨s,0,none⟩=some (.int .i64 a))(c1:W.cell? ⟨s,1,none⟩=some (.int .i64 b))(c2:W.cell? ⟨s,2,none⟩=some (.int .i64 c))(c3:W.cell? ⟨s,3,none⟩=some (.int .i64 d)):
  Calls Tryz.prog 30 #[.slice (some ⟨s,0,none⟩) 4 4] W λe w'=>e=.returned (.int .i64 (O9 [a,b,c,d]))/\W=w':=by
 have hz:((0:Int) !=0)=false:=by simp
 by_cases ha:a=0
 ·subst ha
  by_cases hb:b=0
  ·subst hb
   by_cases hc:c=0
   ·subst hc
    by_cases hd:d=0
    ·subst hd
     go_enter Tryz.func30,Tryz.ntmps30
     go_wp2_with fail
     refine wp_loop_rounds 5 ?_
     rw[rounds_succ]
     go_wp2_with fail
     rw[rounds_succ]
     go_wp2_with fail
     rw[rounds_succ]
     go_wp2_with fail
     rw[rounds_succ]
     go_wp2_with fail
     rw[rounds_succ]
     go_wp2_with fail
     go_ret
     exact⟨rfl,rfl⟩
    ·have hd':(d !=0)=true:=by simpa using hd
     have e1:O9 [0,0,0,d]=d:=by simp[O9,hd]
     rw[e1]
     clear e1 hd
     go_enter Tryz.func30,Tryz.ntmps30
     go_wp2_with fail
     refine wp_loop_rounds 4 ?_
     rw[rounds_succ]
     go_wp2_with fail
     rw[rounds_succ]
     go_wp2_with fail
     rw[rounds_succ]
     go_wp2_with fail
     rw[rounds_succ]
     go_wp2_with fail
     go_ret
     exact⟨rfl,rfl⟩
   ·have hc':(c !=0)=true:=by simpa using hc
    have e1:O9 [0,0,c,d]=c:=by simp[O9,hc]
    rw[e1]
    clear e1 hc
    go_enter Tryz.func30,Tryz.ntmps30
    go_wp2_with fail
    refine wp_loop_rounds 3 ?_
    rw[rounds_succ]
    go_wp2_with fail
    rw[rounds_succ]
    go_wp2_with fail
    rw[rounds_succ]
    go_wp2_with fail
    go_ret
    exact⟨rfl,rfl⟩
  ·have hb':(b !=0)=true:=by simpa using hb
   have e1:O9 [0,b,c,d]=b:=by simp[O9,hb]
   rw[e1]
   clear e1 hb
   go_enter Tryz.func30,Tryz.ntmps30
   go_wp2_with fail
   refine wp_loop_rounds 2 ?_
   rw[rounds_succ]
   go_wp2_with fail
   rw[rounds_succ]
   go_wp2_with fail
   go_ret
   exact⟨rfl,rfl⟩
 ·have ha':(a !=0)=true:=by simpa using ha
  have e1:O9 [a,b,c,d]=a:=by simp[O9,ha]
  rw[e1]
  clear e1 ha
  go_enter Tryz.func30,Tryz.ntmps30
  go_wp2_with fail
  refine wp_loop_rounds 1 ?_
  rw[rounds_succ]
  go_wp2_with fail
  go_ret
  exact⟨rfl,rfl⟩
theorem AEb(W:World)(A B C:Obj)(m:Nat)(os:Array Obj):∃q os',(grow (((W.alloc A).alloc B).drewN m) os).alloc C=grow (W.drewN q) os':=by
 refine⟨m,#[A]++(#[B]++(os++#[C])),?_⟩
 rw[alloc_eq_grow,alloc_eq_grow,alloc_eq_grow]
 show grow (grow (grow (grow (W.drewN m) #[A]) #[B]) os) #[C]=_
 rw[grow_grow,grow_grow,grow_grow]
theorem zJ(W:World)(A B:Obj)(m:Nat)(os:Array Obj):∃q os',grow (((W.alloc A).alloc B).drewN m) os=grow (W.drewN q) os':=by
 refine⟨m,#[A]++(#[B]++os),?_⟩
 rw[alloc_eq_grow,alloc_eq_grow]
 show grow (grow (grow (W.drewN m) #[A]) #[B]) os=_
 rw[grow_grow,grow_grow]
theorem Nz(w:World)(cs:Array Value)(T:TypeId) {s i:Nat} {v:Value}(hs:s=w.heap.size)(h:cs[i]? =some v):(w.alloc (.cells cs T)).cell? ⟨s,i,none⟩=some v:=by
 subst hs
 simp[h]
theorem kP(W:World)(q:Nat)(os:Array Obj):Kb W.drew (grow (W.drewN q) os):=λk hk=>by
 have hk':k<W.heap.size:=hk
 show(W.heap++os)[k]? =W.heap[k]?
 exact GC hk'
theorem D5 {k:Nat} {α:Type} {enc:α->List Value} {W:World} {v:Value} {l:List α}(h:EB k enc W v l):∃a c,v=.slice a l.length c:=by
 obtain⟨a,c,h,_⟩:=h
 exact⟨a,c,h⟩
open Go.Proofs in
set_option maxRecDepth 100000 in
set_option maxHeartbeats 2000000 in
theorem Sj(s1 s2 r1 r2:Value)(p q:Pt)(W:World)(h1:EB 1 JI W s1 p.labels)(h2:EB 2 Ir W s2 p.edges)(h3:EB 1 JI W r1 q.labels)(h4:EB 2 Ir W r2 q.edges):
  Calls Tryz.prog 10 #[.agg #[s1,s2],.agg #[r1,r2]] W λe w'=>e=.returned (.int .i64 (Dw p q))/\∃n os,w'=grow (W.drewN n) os:=by
 have ht:∀A B,Tch [] W ((W.alloc A).alloc B).drew:=λA B=>((Tch.alloc W A []).trans0 ((Tch.alloc _ B []).trans0 (Tch.drew _ [])))
 obtain⟨a1,c1,rfl⟩:=D5 h1
 obtain⟨a2,c2,rfl⟩:=D5 h2
 obtain⟨a3,c3,rfl⟩:=D5 h3
 obtain⟨a4,c4,rfl⟩:=D5 h4
 have H1:=Ga h1
 have H2:=Ga h2
 have H3:=Ga h3
 have H4:=Ga h4
 have HT:=Ga ht
 clear h1 h2 h3 h4 ht
 go_enter Tryz.func10,Tryz.ntmps10
 go_wp2_with fail
 refine J6 [31,32,33,30] [0,1,0,0,1,0,2,0,1,0,1,2,0,1,0,0,1,0,2,0,1,0,1,2,6,2,0] [0,3,7,9,12,15,19,21,1,2,4,5,8,10,13,14,16,17,20,22,6,11,18,23,24,25,26] [0,1,3,0,8,24,63,0,128,0,512,2047,0,4096,12288,0,32768,98304,262143,0,524288,0,2097152,8388607,16777215,33554431,67108863] (by kernel_rfl) (by kernel_rfl) ?_
 go_wp2_with (first|(refine Cv rfl rfl rfl rfl (λ_ _=>?_))|(refine Du rfl rfl rfl (λ_ _=>?_)))
 refine EJ rfl rfl rfl (λK1 hK1=>?_)
 go_wp2_with (go_at_call 31;refine(F5 _ _ _).mono ?_;rintro e w' ⟨rfl,rfl⟩)
 refine hK1 _ _ (Kb.refl _) ?_
 go_wp2_with (first|(refine Cv rfl rfl rfl rfl (λ_ _=>?_))|(refine Du rfl rfl rfl (λ_ _=>?_)))
 refine EJ rfl rfl rfl (λK2 hK2=>?_)
 go_wp2_with (go_at_call 32;refine(P3 _ _ _ _ _ (H1.out.keep (HT.out _ _)) (H3.out.keep (HT.out _ _))).mono ?_;rintro e w' ⟨rfl,rfl⟩)
 refine hK2 _ _ (Kb.refl _) ?_
 go_wp2_with (first|(refine Cv rfl rfl rfl rfl (λ_ _=>?_))|(refine Du rfl rfl rfl (λ_ _=>?_)))
 refine EJ rfl rfl rfl (λK3 hK3=>?_)
 go_wp2_with (go_at_call 31;refine(F5 _ _ _).mono ?_;rintro e w' ⟨rfl,rfl⟩)
 refine hK3 _ _ (Kb.refl _) ?_
 go_wp2_with (first|(refine Cv rfl rfl rfl rfl (λ_ _=>?_))|(refine Du rfl rfl rfl (λ_ _=>?_)))
 refine EJ rfl rfl rfl (λK4 hK4=>?_)
 go_wp2_with (go_at_call 33;refine(XC _ _ _ _ _ (H2.out.keep (HT.out _ _)) (H4.out.keep (HT.out _ _))).mono ?_;rintro e w' ⟨rfl,n,os,rfl⟩)
 refine hK4 _ _ (kP _ _ _) ?_
 go_wp2_with (first|(refine Cv rfl rfl rfl rfl (λ_ _=>?_))|(refine Du rfl rfl rfl (λ_ _=>?_)))
 refine EJ rfl rfl rfl (λK5 hK5=>?_)
 go_wp2_with fail
 refine Calls.mono (ADL _ (Db p.labels.length q.labels.length) (Ef Db p.labels q.labels) (Db p.edges.length q.edges.length) (Ef Cy p.edges q.edges) _ ?c0 ?c1 ?c2 ?c3) ?m
 case c0=>exact Nz _ _ _ (by simp[grow]) rfl
 case c1=>exact Nz _ _ _ (by simp[grow]) rfl
 case c2=>exact Nz _ _ _ (by simp[grow]) rfl
 case c3=>exact Nz _ _ _ (by simp[grow]) rfl
 case m=>
  rintro e w' ⟨rfl,rfl⟩
  refine hK5 _ _ (Kb.refl _) ?_
  go_wp2_with (first|(refine Cv rfl rfl rfl rfl (λ_ _=>?_))|(refine Du rfl rfl rfl (λ_ _=>?_))|refine GN ?_)
  go_ret
  exact⟨rfl,AEb _ _ _ _ _ _⟩
set_option maxRecDepth 100000 in
theorem pY(s1 s2 r1 r2:Value)(n m:Int)(p q:Pt)(W:World)(h1:EB 1 JI W s1 p.labels)(h2:EB 2 Ir W s2 p.edges)(h3:EB 1 JI W r1 q.labels)(h4:EB 2 Ir W r2 q.edges):
  Calls Tryz.prog 119 #[.agg #[s1,s2,.int .i64 n],.agg #[r1,r2,.int .i64 m]] W λe w'=>e=.returned (.int .i64 (Dw p q))/\∃n os,w'=grow (W.drewN n) os:=by
 have ht:∀A B,Tch [] W ((W.alloc A).alloc B):=λA B=>((Tch.alloc W A []).trans0 (Tch.alloc _ B []))
 obtain⟨a1,c1,rfl⟩:=D5 h1
 obtain⟨a2,c2,rfl⟩:=D5 h2
 obtain⟨a3,c3,rfl⟩:=D5 h3
 obtain⟨a4,c4,rfl⟩:=D5 h4
 have H1:=Ga h1
 have H2:=Ga h2
 have H3:=Ga h3
 have H4:=Ga h4
 have HT:=Ga ht
 clear h1 h2 h3 h4 ht
 go_enter Tryz.func119,Tryz.ntmps119
 go_wp2_with (go_at_call 10;refine(Sj _ _ _ _ p q _ (H1.out.keep (HT.out _ _)) (H2.out.keep (HT.out _ _)) (H3.out.keep (HT.out _ _)) (H4.out.keep (HT.out _ _))).mono ?_;rintro e w' ⟨rfl,k,os,rfl⟩)
 go_ret
 exact⟨rfl,zJ _ _ _ _ _⟩
end Go.Proofs.YtjpmmkodoeipmaaGreatDoor
end
section
namespace Go.Proofs.YtjpmmkodoeipmaaGreatDoor
open Go.Sx Go.RowKit Go.Reg Go.Gr
def D0(r:Pt×Int):Da:=.agg [FE r.1,.int .i64 r.2]
theorem AEQ {α:Type} [Inhabited α] {d:α->Da} {enc:α->List Value} {k:Nat}(he:∀x,(enc x).length=k)(hd:∀{O:List Nat} {w:World} {l:List α} {css:List (List Value)},Aq O w (l.map d) css->css=l.map enc) {O:List Nat} {w:World} {v:Value} {l:List α}(h:RepC O w (.list k (l.map d)) [v]):EB k enc w v l:=by
 simp only[RepC]at h
 obtain⟨a,c,css,e,hl1,hl2,hr,_,hc⟩:=h
 obtain rfl:=hd hr
 rw[Ac]at e hl1
 simp only[D2,and_true]at e
 subst e
 refine⟨a,c,rfl,BH hl1 hl2,λi x hx=>?_⟩
 rcases hc with h0|⟨b,o,rfl,_,_,hcell⟩
 ·rw[List.map_eq_nil_iff]at h0;subst h0;simp at hx
 ·refine⟨b,o,rfl,λj u hu=>?_⟩
  have hj:j<k:=by rw[<-he x];exact(Ae.1 hu).1
  have hf:=Qp he l i x j hx hj
  have:=hcell (i*k+j) u (by
   rw[show(l.map enc).flatten=l.flatMap enc from by rw[List.flatMap_def],hf]
   rw[Ab (by rw[he];exact hj)]at hu
   first|exact hu|(rw[<-hu];simp))
  rw[Hv];exact this
theorem bK {O:List Nat} {w:World}:∀{l:List Int} {css:List (List Value)},Aq O w (l.map dI) css->css=l.map JI
 |[],css,h=>by simpa only[Bu,Aq]using h
 |
  e::l,css,h=>by
  simp only[Ar,Aq,dI,RepC]at h
  obtain⟨c1,c2,rfl,rfl,h⟩:=h
  rw[bK h];rfl
theorem AC7 {O:List Nat} {w:World} {v:Value} {l:List Int}(h:RepC O w (Bn l) [v]):EB 1 JI w v l:=AEQ (enc:=JI) (k:=1) (λ_=>rfl) bK h
theorem AFE {O:List Nat} {w:World} {v:Value} {l:List Edg}(h:RepC O w (Fa l) [v]):EB 2 Ir w v l:=AEQ MM Qv h
theorem Kn {O:List Nat} {w:World} {r:Pt×Int} {c:List Value}(h:RepC O w (D0 r) c):∃a b,c=[a,b,.int .i64 r.2]/\EB 1 JI w a r.1.labels/\EB 2 Ir w b r.1.edges:=by
 simp only[D0,FE,RepC,RepCs]at h
 obtain⟨_,_,rfl,⟨c1,_,rfl,h1,c2,_,rfl,h2,rfl⟩,_,_,rfl,rfl,rfl⟩:=h
 have l1:=FF _ _ h1
 have l2:=FF _ _ h2
 obtain⟨a,rfl⟩:=Cz.1 (show c1.length=1 from l1)
 obtain⟨b,rfl⟩:=Cz.1 (show c2.length=1 from l2)
 exact⟨a,b,rfl,AC7 h1,AFE h2⟩
open Go.Sort in
theorem AE2 {α:Type} {f:α->Pt}:SWO (ltOf λx y=>Dw (f x) (f y))where
 irrefl x:=by have:=Hl.self (f x);simp[ltOf];omega
 trans x y z h1 h2:=by
  simp only[ltOf,decide_eq_true_eq]at*
  exact Hl.trans _ _ _ h1 h2
 ntrans x y z h1 h2:=by
  simp only[ltOf,decide_eq_false_iff_not]at*
  intro h3
  by_cases h0:Dw (f x) (f y)=0
  ·rw[(Hl.eq0 _ _).1 h0]at h3;exact h2 h3
  ·exact h2 (Hl.trans _ _ _ ((Hl.anti (f x) (f y)).2 (by omega)) h3)
abbrev fF(O:List Nat)(w:World):={c:List Value×(Pt×Int)//RepC O w (D0 c.2) c.1}
def OR {O:List Nat} {w:World}(x:fF O w):List Value:=x.1.1
theorem iX(O:List Nat)(w:World)(k:Nat):RepC O w (.list k []) [.slice none 0 0]:=by
 simp only[RepC]
 exact⟨none,0,[],rfl,by simp,by unfold maxLen;omega,by simp[Aq],by simp,.inl trivial⟩
instance {O:List Nat} {w:World}:Inhabited (fF O w):=⟨⟨([.slice none 0 0,.slice none 0 0,.int .i64 0],(⟨[],[]⟩,0)),by
 simp only[D0,FE,RepC,RepCs]
 exact⟨[.slice none 0 0,.slice none 0 0],_,rfl,⟨[.slice none 0 0],_,rfl,iX O w 1,[.slice none 0 0],_,rfl,iX O w 2,rfl⟩,_,_,rfl,rfl,rfl⟩⟩⟩
theorem GM {O:List Nat} {w:World}(x:fF O w):(OR x).length=3:=FF _ _ x.2
theorem Qs {O:List Nat} {w:World}(x:fF O w):∀u∈OR x,u.oneCell'=true:=by
 obtain⟨a,b,e,h1,h2⟩:=Kn x.2
 obtain⟨_,_,rfl⟩:=D5 h1
 obtain⟨_,_,rfl⟩:=D5 h2
 intro u hu
 unfold OR at hu
 rw[e]at hu
 simp only[Ai,CT,or_false]at hu
 rcases hu with rfl|rfl|rfl<;>rfl
theorem Ub {O:List Nat} {w:World}:∀{R:List (Pt×Int)} {css:List (List Value)},Aq O w (R.map D0) css->∃xs:List (fF O w),xs.map OR=css/\xs.map (λx=>x.1.2)=R
 |[],css,h=>by simp only[Bu,Aq]at h;subst h;exact⟨[],rfl,rfl⟩
 |
  r::R,css,h=>by
  simp only[Ar,Aq]at h
  obtain⟨c1,c2,rfl,h1,h2⟩:=h
  obtain⟨xs,e1,e2⟩:=Ub h2
  exact⟨⟨(c1,r),h1⟩::xs,by rw[Ar,e1];rfl,by rw[Ar,e2]⟩
theorem TG {O:List Nat} {w:World}:∀xs:List (fF O w),Aq O w ((xs.map λx=>x.1.2).map D0) (xs.map OR)
 |[]=>by simp[Aq]
 |
  x::xs=>by
  simp only[Ar,Aq]
  exact⟨_,_,rfl,x.2,TG xs⟩
theorem Hq {S O:List Nat} {w w':World}(t:Tch S w w')(h:∀b∈S,b∈O):Later O w O w':=⟨t.size,λb hb hn=>t.blk b hb (λhm=>hn (h b hm)),λ_ hn _=>hn⟩
open Go.Sort in
theorem pL(R:List (Pt×Int))(hl:R.length<=4294967296):RP C3 118 140 3 (R.map D0) [.func (.func 119) [] []] (λ_ ds=>∃out:List (Pt×Int),ds=out.map D0/\out.Perm R/\out.Pairwise (λa b=>¬Dw b.1 a.1<0)):=by
 intro O w v css us hs hb hO hr hk hg hus
 obtain⟨u,us',rfl,h1,h2⟩:=Cn hus
 obtain rfl:=Ds h2
 obtain⟨cs,r,rfl⟩:=h1
 simp only[RepC,Aq]at r
 obtain⟨_,_,rfl,rfl,rfl⟩:=r
 obtain⟨xs,rfl,rfl⟩:=Ub hr
 have hun:∀w':World,Rep O w' (.tuple []) (.tuple #[]):=λw'=>⟨[.tuple #[]],by simp only[RepC,Aq];exact⟨[],rfl,rfl⟩,rfl⟩
 have hs2:Sl 140 3 OR w v xs:=by
  unfold Sl at hs⊢
  rw[Ac,G0]at hs
  exact hs
 refine⟨by kernel_rfl,?_⟩
 rcases hs2.shape with⟨rfl,rfl⟩|⟨g,cap,rfl,hc⟩
 ·refine(AnyF.slices_SortFunc_none Tryz.sortR none 0 _ w).mono ?_
  rintro e w' ⟨rfl,rfl⟩
  exact⟨.tuple #[],.tuple [],[],[],rfl,⟨[],rfl,.refl _,.nil⟩,hs,by simp[Aq],by simp,hun _,Tch.refl _ _⟩
 ·have hgO:∀b∈[g],b∈O:=λb hb2=>hb b (by rw[As.1 hb2];simp[Value.ownBlock])
  rw[Ac]at hl
  refine(AnyQ.slices_SortFunc Tryz.sortR 3 Tryz.isAgg140 Tryz.sizeOf140 OR GM Qs (λx y=>Dw x.1.2.1 y.1.2.1) (AE2 (f:=λx:fF O w=>x.1.2.1)) 119 #[] g 0 cap xs.toArray w
   (enters_of Tryz.func119 (by kernel_rfl) rfl) (λm os dk hdk x y=>?_) (hs2.holdsK GM (by decide)) (hs2.lt rfl) (by simp;omega)).mono ?_
  ·obtain⟨_,hT⟩:=hs2.sorted GM (by decide) dk (by simpa using hdk) m os
   obtain⟨a,b,e1,h1,h2⟩:=Kn (RepC.later (Hq hT hgO) _ _ x.2)
   obtain⟨a',b',e2,h3,h4⟩:=Kn (RepC.later (Hq hT hgO) _ _ y.2)
   have e1':OR x=_:=e1
   have e2':OR y=_:=e2
   rw[e1',e2']
   exact pY a b a' b' _ _ _ _ _ h1 h2 h3 h4
  ·rintro e w' ⟨rfl,d,n,os,hp,hso,rfl⟩
   obtain⟨hp1,hp2,hp3⟩:=hp
   have hd:d.size=xs.length:=by simpa using hp1
   obtain⟨hS,hT⟩:=hs2.sorted GM (by decide) d hd n os
   have hperm:d.toList.Perm xs:=by
    have e1:d.extract 0 xs.toArray.size=d:=by rw[<-hp1];exact Ex
    have e2:xs.toArray.extract 0 xs.toArray.size=xs.toArray:=Ex
    rw[e1,e2]at hp3
    exact hp3
   refine⟨.tuple #[],.tuple [],(d.toList.map λx=>x.1.2).map D0,d.toList.map OR,rfl,⟨_,rfl,hperm.map _,?_⟩,?_,Aq.later (Hq hT hgO) _ _ (TG _),?_,hun _,?_⟩
   ·rw[B7,AO]
    intro i j hi hj hij
    have hj':j<xs.length:=by rw[<-hd];simpa using hj
    have hi':i<xs.length:=by omega
    have:=hso i j (Am _) hij (by simpa using hj')
    rw[getElem!_pos d j (by omega),getElem!_pos d i (by omega)]at this
    simpa[ltOf]using this
   ·unfold Sl at hS⊢
    rw[Ac,G0]
    exact hS
   ·intro x hx
    obtain⟨e,_,rfl⟩:=An.1 hx
    exact⟨GM e,Qs e⟩
   ·simpa[Value.ownBlock]using hT
end Go.Proofs.YtjpmmkodoeipmaaGreatDoor
end
section
namespace Go.Proofs.YtjpmmkodoeipmaaGreatDoor
open Go.Sx Go.RowKit Go.Reg Go.Gr
set_option maxRecDepth 100000
def Z4(q:ByteArray×RowV):Pt×Int:=(q.2.p,q.2.n)
theorem Tu(m:List (ByteArray×RowV)):(LR m).map (·.2)=m.map Z4:=by unfold LR;rw[EE];rfl
def Uq:List (Nat×Plan):=[(7,.leaf [0,0,1,2,0,0,1,2,0,0,3] [0,1,4,5,2,6,3,7,8,9,10] [0,1,3,7,0,16,48,127,255,511,1023])]
def YJ:List FuncId:=[88,114]
theorem tJ:CH Tryz.prog YJ Uq (Tryz.f69.body.getD .skip)=true:=by kernel_rfl
theorem pV(vs:Array Value)(w:World):(callFunc 69 vs).run C1.P w=.ok (.enter 69 vs) w:=by kernel_rfl
theorem Tr(l:List (Pt×Int))(m:List (ByteArray×RowV))(X:List (Value×Da))(ht:MT l m)(hl:l.length<=1000000)(hp:∀x∈l,x.1.labels.length<=1000/\x.1.edges.length<=1000):
  DZ C3 69 [.own 900] (sT m X) [900] (λd σ=>d=.own 910/\σ=sT m []++[(910,.slice 140 3 (l.map D0))]):=by
 have hml:m.length<=1000000:=by have:=ht.perm.length_eq;rw[Tu,Ac]at this;omega
 have hpm:∀q∈m,q.2.p.labels.length<=1000/\q.2.p.edges.length<=1000:=λq hq=>hp _ (Za ht hq)
 refine Mj I7 (pl:=Uq) (G:=YJ) Tryz.func69 rfl Tryz.ntmps69 pV tJ (by simp) 999 rfl ?_
 intro vs
 (conv=>whnf)
 refine ZX 901 rfl rfl rfl ⟨by decide,by decide,by decide⟩ rfl ?_
 intro r
 (conv=>whnf)
 refine AR (ι:=List (ByteArray×RowV)×List (Pt×Int)) (λx=>(x.2++x.1.map Z4).Perm (m.map Z4)/\∀q∈x.1,q∈m) (λ_=>[(12,.d (.raw (.pointer (some ⟨r,0,none⟩)))),(3,.own 3)])
  (λx=>[(3,.slice 140 3 (x.2.map D0)),(999,.ghost vs [.own 900]),(900,.cells 185 [.own 901]),(901,(Jc N5 m r (.it x.1)).own)]) (λx=>x.1.length) (m,[]) (λ_=>rfl) ⟨.refl _,λq h=>h⟩ (.own 3 3 140 3 rfl rfl (.refl _ _)) ⟨rfl,rfl,trivial⟩ ⟨rfl,rfl,rfl,rfl,trivial⟩ ?_
 rintro⟨todo,done⟩ ⟨hpe,hin⟩
 refine Hf YJ Uq ?_
 (conv=>whnf)
 refine iO 901 r rfl rfl rfl rfl ⟨by decide,by decide,by decide⟩ rfl ?_ ?_
 ·rintro rfl
  rw[Bu,Cg]at hpe
  have hdl:done.length<=1000000:=by rw[hpe.length_eq,Ac];exact hml
  (conv=>whnf)
  refine MR (i:=3) rfl rfl (pL done (by omega)) ?_
  rintro y ds ⟨out,rfl,ho1,ho2⟩
  have e:out=l:=Wg Hl (ho1.trans (hpe.trans (by rw[<-Tu];exact ht.perm))) ht.sort ho2
  subst e
  (conv=>whnf)
  exact⟨_,_,[(3,910)],[(900,_),(901,_),(3,_)],.lo (.refl _ _),rfl,⟨rfl,rfl,rfl,trivial⟩,rfl,rfl,rfl⟩
 ·intro q todo' hq
  have hqm:q∈m:=hin q (hq.symm.subset (.head _))
  obtain⟨hl1,hl2⟩:=hpm q hqm
  have hc1:=E5.up3 (It q.2.p.labels (by omega))
  have hc2:=E5.up3 (RC q.2.p.edges (by omega))
  have hf1:GL (q.2.p.labels.map dI)=true:=HQ dI (λ_=>rfl) _
  have hf2:GL (q.2.p.edges.map dE)=true:=HQ dE (λ_=>rfl) _
  have hdl:done.length<=1000000:=by
   have:=hpe.length_eq
   rw[Ah,Ac,Ac]at this
   simp only at this
   omega
  have hdm:(done.map D0).length=done.length:=Ac _
  (conv=>whnf)
  (repeat' ((first|refine Aj ?_ ?_|refine ZY 901 r rfl rfl rfl ⟨by decide,by decide,by decide⟩ rfl ?_|refine Mt I7 5 rfl rfl rfl rfl rfl rfl rfl q.2.h1 q.2.h2 ⟨by decide,by decide⟩ rfl ?_|refine Vw 20 rfl rfl (λh=>(Wh (M:=N5) (i:=901) (r:=r) (ph:=.it todo') h rfl hqm).1) hc1 hf1 ?_|refine Vw 24 rfl rfl (λh=>(Wh (M:=N5) (i:=901) (r:=r) (ph:=.it todo') h rfl hqm).2) hc2 hf2 ?_|refine nx ?_|refine AD (λ_=>?_) (λ_=>?_)|exact AG)<;>conv=>whnf))
  refine ADN I7 (G:=[]) 28 (.frz 20 rfl (.frz 24 rfl (.refl _ _))) rfl (.inr rfl) ?_
  ((conv=>whnf);repeat' ((first|refine odw ?_|refine nx ?_|refine AD (λ_=>?_) (λ_=>?_))<;>conv=>whnf))
  refine⟨(todo',done++[Z4 q]),_,_,⟨?_,λx hx=>hin x (hq.symm.subset (.tail _ hx))⟩,.refl _ _,⟨rfl,rfl,trivial⟩,⟨by rw[A7];rfl,rfl,rfl,rfl,trivial⟩,?_⟩
  ·refine List.Perm.trans ?_ hpe
   rw[Bj]
   exact((hq.map Z4).symm).append_left done
  ·have:=hq.length_eq
   simp only[Aw]at this⊢
   omega
end Go.Proofs.YtjpmmkodoeipmaaGreatDoor
end
section
namespace Go.Proofs.YtjpmmkodoeipmaaGreatDoor
open Go.RowKit Go.Maps Go.Sort Go.Shelf
variable {P:Program} {ρ:Ren}
def AA8(F:Fence)(n:Nat)(P:Program)(g:Nat)(lb:Array Value)(S:List Int->Prop)(N:Nat)(w:World):Prop:=
 ∀(l:Nat) (J:List Int->World->Prop) (W:World),Below w.heap.size w W->AbidesFrom W.heap.size J->(∀pre W1,J pre W1->Below w.heap.size w W1)->
  (∀pre x W1,J pre W1->pre.length<N->YieldAt F (n-1) P l #[encZ x] W1 λe W'=>e=.returned (.bool true)/\J (pre++[x]) W'/\KeepsWalks W1 W')->
  J [] W->
  CallsIn F n P g (#[.func (.yield l) #[] #[]]++lb) W λe W'=>(∃v,e=.returned v)/\∃xs,S xs/\J xs W'
set_option maxRecDepth 100000 in
set_option maxHeartbeats 2000000 in
theorem VO(L:SlLaysZI.n11 P ρ)(F:Fence)(n:Nat)(h11:F.fn (ρ.f 11))(hro:F.round=none)(hn:2<=n)(g:Nat)(lb:Array Value)(hFg:F.fn g)(eg:∀args w,(callFunc g args).run P w=.ok (.enter g args) w)
  (S:List Int->Prop) (N:Nat) (hN:N<=maxLen) (hNb:N*8<=140737488355328) (w:World) (hseq:AA8 F (n-1) P g lb S N w):
  CallsIn F n P (ρ.f 11) #[.slice none 0 0,.func (.func g) #[] lb] w λe w'=>∃(v:Value) (ss:List Int),e=.returned v/\S ss/\w'.ownsRow w.heap.size (ρ.t 26) 1 v ss.length (ss.map encZ)/\(v=.slice none 0 0↔ss=[])/\Below w.heap.size w w':=by
 have h1:1<=n:=by omega
 have mixed:=L.mixed;have t0:=L.t0;have a0:=L.a0;have z0:=L.z0;have v0:=L.v0;have t24:=L.t24;have a24:=L.a24;have z24:=L.z24;have v24:=L.v24;have t26:=L.t26;have a26:=L.a26;have z26:=L.z26;have v26:=L.v26;have t28:=L.t28;have a28:=L.a28;have z28:=L.z28;have v28:=L.v28
 have hne:ρ.t 24≠ρ.t 26:=λe=>by have h:=L.t24;rw[e,L.t26]at h;cases h
 have u0:=run_underlying L.t0;have u24:=run_underlying L.t24;have u26:=run_underlying L.t26;have u28:=run_underlying L.t28
 obtain⟨_,_,FG⟩:=L.f11
 refine callsIn_of_wp_marks FG rfl h11 ?_ hro
 simp only[SlBodyZ.n11_ntmps ρ,BC,Aw,Bt,Nat.reduceAdd,Nat.reduceSub,CX,CW,D8,Dg,BB,AT]
 gi_wp2
 refine wpIn_rangeFunc ?_
 intro fn hfn
 rw[hro]
 obtain⟨W0,hW0⟩:∃W0,w.alloc (.cells #[.slice none 0 0] (ρ.t 24))=W0:=⟨_,rfl⟩
 have hs0:W0.heap.size=w.heap.size+1:=by rw[<-hW0];simp
 have hv0:W0.heap[w.heap.size]? =some (.cells #[.slice none 0 0] (ρ.t 24) (0,0)):=by rw[<-hW0];exact World.alloc_heap_new w _
 have hb0:Below w.heap.size w W0:=by rw[<-hW0];exact(Below.refl _ w).alloc (Ax _) _
 rw[hW0]
 obtain⟨W1,hW1⟩:∃W1,(W0.alloc (.deferred (some []))).alloc (.loop (AnyZI.apRec ρ fn (.func (.func g) #[] lb) w.heap.size W0.heap.size .ready none))=W1:=⟨_,rfl⟩
 have hold:∀k,k<W0.heap.size->W1.heap[k]? =W0.heap[k]? :=λk hk=>by
  rw[<-hW1];exact(Below.heap_alloc _ _ k (by simp;omega)).trans (Below.heap_alloc _ _ k hk)
 have hb1:Below w.heap.size w W1:=by rw[<-hW1];exact(hb0.alloc hb0.size _).alloc (by have:=hb0.size;simp;omega) _
 have hs1:W1.heap.size=W0.heap.size+2:=by rw[<-hW1];simp
 have hM:AnyZI.ApAt ρ w fn (.func (.func g) #[] lb) w.heap.size (W0.heap.size+1) W0.heap.size [] W1:=
  ⟨⟨_,(hold w.heap.size (by omega)).trans hv0,⟨rfl,.inl ⟨rfl,rfl⟩⟩,by simp⟩,
   by rw[<-hW1];have:=World.alloc_heap_new (W0.alloc (.deferred (some []))) (.loop (AnyZI.apRec ρ fn (.func (.func g) #[] lb) w.heap.size W0.heap.size .ready none));rwa [RO]at this,
   by rw[<-hW1];exact(Below.heap_alloc _ _ _ (by simp)).trans (World.alloc_heap_new W0 _),hb1⟩
 refine⟨W0.heap.size+1,[{target:=.collected W0.heap.size,args:=#[]}],W1,{target:=.fn (.func g) lb,args:=#[.func (.yield (W0.heap.size+1)) #[] #[]]},W1,g,
  #[.func (.yield (W0.heap.size + 1)) #[] #[]] ++ lb, W1, ?_, ?_, ?_, ?_, fun _ => h1, ?_⟩
 ·rw[<-hW1];exact run_enterLoop_outer _ _ _ _ _
 ·simp[resolve,go_sem]
 ·intro f' hf';simp[Target.leads]at hf';subst hf';exact hFg
 ·simp[invoke,go_sem,eg]
 ·refine(hseq (W0.heap.size+1) (AnyZI.ApAt ρ w fn (.func (.func g) #[] lb) w.heap.size (W0.heap.size+1) W0.heap.size) W1 hb1 (AnyZI.ap_abides ρ _ _ _ _ _ _ _ hb1.size) (λpre W h=>h.below)
   (λpre x W hJ hl=>AnyZI.apYield {L with} F (n-1-1) w fn hfn _ w.heap.size (W0.heap.size+1) W0.heap.size (by omega) (by omega) (by omega) (Ax _) (by omega) N hN hNb pre x W hJ hl) hM).mono ?_
  rintro e W2 ⟨⟨v0,rfl⟩,ss,hS,h2⟩
  obtain⟨v,hv,hrow,hnil⟩:=h2.box
  have hend:=run_endLoop (P:=P) h2.L (by simp[AnyZI.apRec])
  obtain⟨W3,hW3⟩:∃W3,W2.putObj (W0.heap.size+1) (.loop {AnyZI.apRec ρ fn (.func (.func g) #[] lb) w.heap.size W0.heap.size .ready none with state:=.exhausted})=W3:=⟨_,rfl⟩
  rw[hW3]at hend
  have hg3:W2.grownBy W3 (some (W0.heap.size+1)):=by rw[<-hW3];exact grownBy_putObj_a _ _ _
  have hv3:W3.heap[w.heap.size]? =some (.cells #[v] (ρ.t 24) (0,0)):=by rw[<-hW3];exact(World.putObj_heap_other (by omega)).trans hv
  have hK3:W3.heap[W0.heap.size]? =some (.deferred (some [])):=by rw[<-hW3];exact(World.putObj_heap_other (by omega)).trans h2.K
  have hrow3:=hrow.kept hg3 (ownsRow_ne_a hrow h2.L (λcur e=>by first|cases e|exact hne (Obj.cells.inj e).2.1))
  have hb3:Below w.heap.size w W3:=h2.below.grown hg3 h2.below.size (λk e=>by cases e;omega)
  obtain⟨hc3,hf3⟩:=cell_of_box_a hv3
  clear hW3
  refine⟨none,W3,hend,?_⟩
  gi_wp2
  rw[<-hs0]
  refine⟨by simp,.inl ⟨_,_,rfl,run_takeDeferred hK3,?_⟩⟩
  exact⟨_,results_tmp rfl _ _ _,v,ss,rfl,hS,hrow3.kept (grownBy_putObj_a _ _ _) (ownsRow_ne_a hrow3 hK3 (λcur e=>by first|cases e|exact hne (Obj.cells.inj e).2.1)),hnil,hb3.grown (grownBy_putObj_a _ _ _) hb3.size (λk e=>by cases e;omega)⟩
set_option maxHeartbeats 1000000 in
theorem dL(L:SlLaysZI.n8 P ρ)(F:Fence)(n:Nat)(h8:F.fn (ρ.f 8))(h11:F.fn (ρ.f 11))(hro:F.round=none)(hn:3<=n)(g:Nat)(lb:Array Value)(hFg:F.fn g)(eg:∀args w,(callFunc g args).run P w=.ok (.enter g args) w)
  (S:List Int->Prop) (N:Nat) (hN:N<=maxLen) (hNb:N*8<=140737488355328) (w:World) (hseq:AA8 F (n-1-1) P g lb S N w):
  CallsIn F n P (ρ.f 8) #[.func (.func g) #[] lb] w λe w'=>∃(v:Value) (ss:List Int),e=.returned v/\S ss/\w'.ownsRow w.heap.size (ρ.t 26) 1 v ss.length (ss.map encZ)/\(v=.slice none 0 0↔ss=[])/\Below w.heap.size w w':=by
 have h1:1<=n:=by omega
 have e11:∀args w,(callFunc (ρ.f 11) args).run P w=.ok (.enter (ρ.f 11) args) w:=L.f11.enters rfl
 have mixed:=L.mixed;have t0:=L.t0;have a0:=L.a0;have z0:=L.z0;have v0:=L.v0;have t24:=L.t24;have a24:=L.a24;have z24:=L.z24;have v24:=L.v24;have t26:=L.t26;have a26:=L.a26;have z26:=L.z26;have v26:=L.v26;have t28:=L.t28;have a28:=L.a28;have z28:=L.z28;have v28:=L.v28
 have u0:=run_underlying L.t0;have u24:=run_underlying L.t24;have u26:=run_underlying L.t26;have u28:=run_underlying L.t28
 obtain⟨_,_,FG⟩:=L.f8
 refine callsIn_of_wp FG rfl h8 ?_ hro
 simp only[SlBodyZ.n8_ntmps ρ,BC,Aw,Bt,Nat.reduceAdd,Nat.reduceSub,CX,CW,D8,Dg,BB,AT]
 gi_wp2_with (gi_at_fn (ρ.f 11);refine(VO {L with} F (n-1) h11 hro (by omega) g lb hFg eg S N hN hNb _ hseq).mono ?_;rintro e w' ⟨v,ss,rfl,hS,hrow,hnil,hb⟩)
 go_ret
 exact⟨v,ss,rfl,hS,hrow,hnil,hb⟩
set_option maxRecDepth 100000 in
set_option maxHeartbeats 2000000 in
theorem TI(L:SlLaysZI.n6 P ρ)(F:Fence)(n:Nat)(h6:F.fn (ρ.f 6))(h8:F.fn (ρ.f 8))(h9:F.fn (ρ.f 9))(h11:F.fn (ρ.f 11))(hro:F.round=none)(hn:4<=n)(hsort:AnyZI.SortsIn P ρ F (n-1))(e9:∀args w,(callFunc (ρ.f 9) args).run P w=.ok (.enter (ρ.f 9) args) w)(g:Nat)(lb:Array Value)(hFg:F.fn g)(eg:∀args w,(callFunc g args).run P w=.ok (.enter g args) w)
  (S:List Int->Prop) (N:Nat) (hN:N<=maxLen) (hNb:N*8<=140737488355328) (w:World) (hSN:∀ss,S ss->ss.length<=N) (hseq:AA8 F (n-1-1-1) P g lb S N w):
  CallsIn F n P (ρ.f 6) #[.func (.func g) #[] lb] w λe w'=>∃(v:Value) (ss:List Int),e=.returned v/\S ss/\
   w'.ownsRow w.heap.size (ρ.t 26) 1 v ss.length ((ss.mergeSort (λx y=>decide (x<=y))).map encZ)/\(v=.slice none 0 0↔ss=[])/\Below w.heap.size w w':=by
 have h1:1<=n:=by omega
 have e8:∀args w,(callFunc (ρ.f 8) args).run P w=.ok (.enter (ρ.f 8) args) w:=L.f8.enters rfl
 have mixed:=L.mixed;have t0:=L.t0;have a0:=L.a0;have z0:=L.z0;have v0:=L.v0;have t24:=L.t24;have a24:=L.a24;have z24:=L.z24;have v24:=L.v24;have t26:=L.t26;have a26:=L.a26;have z26:=L.z26;have v26:=L.v26;have t28:=L.t28;have a28:=L.a28;have z28:=L.z28;have v28:=L.v28
 have u0:=run_underlying L.t0;have u24:=run_underlying L.t24;have u26:=run_underlying L.t26;have u28:=run_underlying L.t28
 obtain⟨_,_,FG⟩:=L.f6
 refine callsIn_of_wp FG rfl h6 ?_ hro
 simp only[SlBodyZ.n6_ntmps ρ,BC,Aw,Bt,Nat.reduceAdd,Nat.reduceSub,CX,CW,D8,Dg,BB,AT]
 gi_wp2_with (gi_at_fn (ρ.f 8);refine(dL {L with} F (n-1) h8 h11 hro (by omega) g lb hFg eg _ N hN hNb _ hseq).mono ?_;rintro e W ⟨v,ss,rfl,hS,hrow,hnil,hb⟩;have hlen:=hSN ss hS)
 rcases hrow.2 with⟨rfl,hz⟩|⟨gb,cap,cur,rfl,hbase,hgb,r1,r2,r3,r4⟩
 ·
  have hss:ss=[]:=AJ hz
  subst hss
  gi_wp2_with (gi_at_fn (ρ.f 9);refine(hsort.2 none 0 W).mono ?_;rintro e w' ⟨rfl,rfl⟩)
  go_ret
  exact⟨.slice none 0 0,[],rfl,hS,by simpa using hrow,by simp,hb⟩
 ·have hH:Holds encZ W gb 0 ss.toArray:=holds_of_block_i hgb (by simpa using r4)
  have hgl:gb<W.heap.size:=(Ak.1 hgb).1
  have hsz:ss.length<4611686018427387904:=by omega
  have cS:=hsort.1 gb 0 cap ss W hH hgl hsz
  gi_wp2_with (gi_at_fn (ρ.f 9);refine cS.mono ?_;rintro e w' ⟨rfl,nn,os,rfl⟩)
  go_ret
  exact⟨_,ss,rfl,hS,ownsRow_sorted_i (by simp) hbase hgb r1 r2 r3,hnil,hb.grown (grownBy_sorted_i _) hb.size (λj hj=>by cases hj;exact hbase)⟩
end Go.Proofs.YtjpmmkodoeipmaaGreatDoor
end
section
namespace Go.Proofs
open Go.Shelf
def Tryz.sortedI_ren:Go.Shelf.Ren:=⟨λ|6=>70|8=>120|9=>121|11=>170|13=>124|12=>171|23=>180|24=>181|14=>235|15=>236|16=>237|17=>238|18=>239|19=>240|20=>241|21=>242|22=>243|25=>272|26=>245|27=>246|28=>273|29=>274|30=>79|31=>287|n=>n,λ|26=>3|28=>143|24=>22|0=>0|3=>3|37=>202|48=>250|50=>215|4=>4|40=>243|39=>242|45=>247|5=>5|9=>9|51=>293|55=>297|57=>318|58=>112|33=>154|n=>n,λ|n=>n⟩
theorem Tryz.sortedI:Go.Proofs.SlLaysZI.n6 Tryz.prog Tryz.sortedI_ren:={
 mixed:=by kernel_rfl
 f6:=⟨Tryz.f70.name,by decide,Tryz.func70.trans (congrArg some (by kernel_rfl))⟩
 f8:=⟨Tryz.f120.name,by decide,Tryz.func120.trans (congrArg some (by kernel_rfl))⟩
 f11:=⟨Tryz.f170.name,by decide,Tryz.func170.trans (congrArg some (by kernel_rfl))⟩
 t0:=Tryz.underlying0
 a0:=Tryz.isAgg0
 z0:=Tryz.sizeOf0
 v0:=Tryz.zeroValue0
 t24:=Tryz.underlying22
 a24:=Tryz.isAgg22
 z24:=Tryz.sizeOf22
 v24:=Tryz.zeroValue22
 t26:=Tryz.underlying3
 a26:=Tryz.isAgg3
 z26:=Tryz.sizeOf3
 v26:=Tryz.zeroValue3
 t28:=Tryz.underlying143
 a28:=Tryz.isAgg143
 z28:=Tryz.sizeOf143
 v28:=Tryz.zeroValue143
 i26:=by kernel_rfl}
def Tryz.sortI_ren:Go.Shelf.Ren:=⟨λ|5=>121|8=>124|7=>171|19=>180|20=>181|10=>235|11=>236|12=>237|13=>238|14=>239|15=>240|16=>241|17=>242|18=>243|30=>272|31=>245|32=>246|33=>273|34=>274|35=>79|40=>287|n=>n,λ|23=>22|25=>3|3=>3|32=>202|22=>22|0=>0|44=>250|46=>215|4=>4|36=>243|35=>242|41=>247|5=>5|9=>9|53=>293|57=>297|63=>318|64=>112|n=>n,λ|n=>n⟩
theorem Tryz.sortI:Go.Proofs.SlLaysM.n5 Tryz.prog Tryz.sortI_ren:={
 mixed:=by kernel_rfl
 f5:=⟨Tryz.f121.name,by decide,Tryz.func121.trans (congrArg some (by kernel_rfl))⟩
 f7:=⟨Tryz.f171.name,by decide,Tryz.func171.trans (congrArg some (by kernel_rfl))⟩
 f8:=Tryz.func124.trans (congrArg some (by kernel_rfl))
 f10:=⟨Tryz.f235.name,by decide,Tryz.func235.trans (congrArg some (by kernel_rfl))⟩
 f11:=⟨Tryz.f236.name,by decide,Tryz.func236.trans (congrArg some (by kernel_rfl))⟩
 f12:=⟨Tryz.f237.name,by decide,Tryz.func237.trans (congrArg some (by kernel_rfl))⟩
 f13:=⟨Tryz.f238.name,by decide,Tryz.func238.trans (congrArg some (by kernel_rfl))⟩
 f14:=⟨Tryz.f239.name,by decide,Tryz.func239.trans (congrArg some (by kernel_rfl))⟩
 f15:=⟨Tryz.f240.name,by decide,Tryz.func240.trans (congrArg some (by kernel_rfl))⟩
 f16:=⟨Tryz.f241.name,by decide,Tryz.func241.trans (congrArg some (by kernel_rfl))⟩
 f17:=⟨Tryz.f242.name,by decide,Tryz.func242.trans (congrArg some (by kernel_rfl))⟩
 f18:=⟨Tryz.f243.name,by decide,Tryz.func243.trans (congrArg some (by kernel_rfl))⟩
 f19:=Tryz.func180.trans (congrArg some (by kernel_rfl))
 f20:=Tryz.func181.trans (congrArg some (by kernel_rfl))
 f30:=⟨Tryz.f272.name,by decide,Tryz.func272.trans (congrArg some (by kernel_rfl))⟩
 f31:=Tryz.func245.trans (congrArg some (by kernel_rfl))
 f32:=Tryz.func246.trans (congrArg some (by kernel_rfl))
 f33:=⟨Tryz.f273.name,by decide,Tryz.func273.trans (congrArg some (by kernel_rfl))⟩
 f34:=⟨Tryz.f274.name,by decide,Tryz.func274.trans (congrArg some (by kernel_rfl))⟩
 f35:=⟨Tryz.f79.name,by decide,Tryz.func79.trans (congrArg some (by kernel_rfl))⟩
 f40:=⟨Tryz.f287.name,by decide,Tryz.func287.trans (congrArg some (by kernel_rfl))⟩
 t0:=Tryz.underlying0
 a0:=Tryz.isAgg0
 z0:=Tryz.sizeOf0
 v0:=Tryz.zeroValue0
 t3:=Tryz.underlying3
 a3:=Tryz.isAgg3
 z3:=Tryz.sizeOf3
 v3:=Tryz.zeroValue3
 t4:=Tryz.underlying4
 a4:=Tryz.isAgg4
 z4:=Tryz.sizeOf4
 v4:=Tryz.zeroValue4
 t5:=Tryz.underlying5
 a5:=Tryz.isAgg5
 z5:=Tryz.sizeOf5
 v5:=Tryz.zeroValue5
 t9:=Tryz.underlying9
 a9:=Tryz.isAgg9
 z9:=Tryz.sizeOf9
 v9:=Tryz.zeroValue9
 t22:=Tryz.underlying22
 a22:=Tryz.isAgg22
 z22:=Tryz.sizeOf22
 v22:=Tryz.zeroValue22
 t23:=Tryz.underlying22
 a23:=Tryz.isAgg22
 z23:=Tryz.sizeOf22
 v23:=Tryz.zeroValue22
 t25:=Tryz.underlying3
 a25:=Tryz.isAgg3
 z25:=Tryz.sizeOf3
 v25:=Tryz.zeroValue3
 t32:=Tryz.underlying202
 a32:=Tryz.isAgg202
 z32:=Tryz.sizeOf202
 v32:=Tryz.zeroValue202
 t35:=Tryz.underlying242
 a35:=Tryz.isAgg242
 z35:=Tryz.sizeOf242
 v35:=Tryz.zeroValue242
 t36:=Tryz.underlying243
 a36:=Tryz.isAgg243
 z36:=Tryz.sizeOf243
 v36:=Tryz.zeroValue243
 t41:=Tryz.underlying247
 a41:=Tryz.isAgg247
 z41:=Tryz.sizeOf247
 v41:=Tryz.zeroValue247
 t44:=Tryz.underlying250
 a44:=Tryz.isAgg250
 z44:=Tryz.sizeOf250
 v44:=Tryz.zeroValue250
 t46:=Tryz.underlying215
 a46:=Tryz.isAgg215
 z46:=Tryz.sizeOf215
 v46:=Tryz.zeroValue215
 t53:=Tryz.underlying293
 a53:=Tryz.isAgg293
 z53:=Tryz.sizeOf293
 v53:=Tryz.zeroValue293
 t57:=Tryz.underlying297
 a57:=Tryz.isAgg297
 z57:=Tryz.sizeOf297
 v57:=Tryz.zeroValue297
 t63:=Tryz.underlying318
 a63:=Tryz.isAgg318
 z63:=Tryz.sizeOf318
 v63:=Tryz.zeroValue318
 t64:=Tryz.underlying112
 a64:=Tryz.isAgg112
 z64:=Tryz.sizeOf112
 v64:=Tryz.zeroValue112}
end Go.Proofs
end
section
namespace Go.Proofs.YtjpmmkodoeipmaaGreatDoor
open Go.RowKit Go.Shelf Go.Sx Go.Reg Go.Maps Go.Sort Go.Gr
set_option maxRecDepth 100000
theorem uP {zs:List Int} {k:Nat}(h:k<=zs.length):(zs.take k).length=k:=by rw[AA];omega
theorem pF {zs:List Int} {k:Nat}(h:k<zs.length):zs.take k++[zs[k]?.getD 0]=zs.take (k+1):=by
 rw[Ay,Ab h];rfl
set_option maxHeartbeats 2000000 in
theorem YS(F:Fence)(n:Nat)(h7:F.fn 122)(hro:F.round=none)(hn:1<=n)(l Bs bo n₀ b off cap:Nat)(zs:List Int)(hreach:zs.length*8<=140737488351232)(hb:b<n₀)(w:World)(J:List Int->World->Prop)
  (hJb:∀pre W1,J pre W1->Below n₀ w W1)
  (hY:∀pre x W1,J pre W1->pre.length<zs.length->YieldAt F (n-1) Tryz.prog l #[encZ x] W1 λe W'=>e=.returned (.bool true)/\J (pre++[x]) W'/\KeepsWalks W1 W')
  (W:World) (hBs:W.cell? ⟨Bs,bo,none⟩=some (.slice (some ⟨b,off,none⟩) zs.length cap)) (hc:∀j,j<zs.length->w.cell? ⟨b,off+j,none⟩=some (.int .i64 (zs[j]?.getD 0))) (h0:J [] W):
  CallsIn F n Tryz.prog 122 #[.func (.yield l) #[] #[],.pointer (some ⟨Bs,bo,none⟩)] W λe W'=>(∃v,e=.returned v)/\∃xs,xs=zs/\J xs W':=by
 refine callsIn_of_wp Tryz.func122 rfl h7 ?_ hro
 simp only[Tryz.ntmps122,BC,Aw,Bt,Nat.reduceAdd,Nat.reduceSub,CX,CW,D8,Dg,BB,AT]
 gi_wp2
 gi_loopw [7] (λi wr=>∃k:Nat,k<=zs.length/\i=.int .i64 k/\J (zs.take k) wr)
  (λi _=>zs.length- (intOf i).toNat)
 case atStart=>exact⟨0,Am _,rfl,h0⟩
 case round=>
  obtain⟨k,hk,rfl,hJs⟩:=hrel
  have hcx:k<zs.length->wr.cell? ⟨b,off+k,none⟩=some (.int .i64 (zs[k]?.getD 0)):=λh=>((hJb _ _ hJs).cell (p:=⟨b,off+k,none⟩) hb).trans (hc k h)
  by_cases hlt:k<zs.length
  ·have hcx':=hcx hlt
   have htn:=pF hlt
   generalize zs[k]?.getD 0=x at hcx' htn
   obtain⟨fn,tmps,assign,body,hy,hR⟩:=hY _ x wr hJs (by rw[uP hk];exact hlt)
   rw[htn]at hR
   clear hcx hc htn
   gi_wp2
   refine hR.mono ?_
   rintro e W3 ⟨rfl,hJ3,hk3⟩
   gi_wp2
   go_roundw
   case rel=>exact⟨k+1,by omega,by simp,hJ3⟩
   case measure=>simp[intOf];omega
  ·obtain rfl:k=zs.length:=by omega
   rw[Ez]at hJs
   gi_wp2
   go_end0
   exact⟨⟨_,rfl⟩,zs,rfl,hJs⟩
set_option maxHeartbeats 1000000 in
theorem Px(F:Fence)(n:Nat)(h7:F.fn 122)(hro:F.round=none)(l Bs bo cap:Nat)(p:Option Addr)(J:List Int->World->Prop)(W:World)(hBs:W.cell? ⟨Bs,bo,none⟩=some (.slice p 0 cap))(h0:J [] W):
  CallsIn F n Tryz.prog 122 #[.func (.yield l) #[] #[],.pointer (some ⟨Bs,bo,none⟩)] W λe W'=>(∃v,e=.returned v)/\∃xs,xs=[]/\J xs W':=by
 refine callsIn_of_wp Tryz.func122 rfl h7 ?_ hro
 simp only[Tryz.ntmps122,BC,Aw,Bt,Nat.reduceAdd,Nat.reduceSub,CX,CW,D8,Dg,BB,AT]
 gi_wp2
 gi_loopw [7] (λi wr=>i=.int .i64 0/\J [] wr) (λ_ _=>0)
 case atStart=>exact⟨rfl,h0⟩
 case round=>
  obtain⟨rfl,hJs⟩:=hrel
  gi_wp2
  go_end0
  exact⟨⟨_,rfl⟩,[],rfl,hJs⟩
theorem aX {w:World} {base E:Nat} {v:Value} {ss:List Int} {O:List Nat}(hO:∀b∈O,b<base)(h:w.ownsRow base E 1 v ss.length (ss.map encZ)):Rep O w (Bn ss) v:=by
 have h1:Aq O w (ss.map dI) (ss.map λn=>[Value.int .i64 n]):=by
  clear h
  induction ss with
  |nil=>simp[Aq]
  |cons x ss ih=>exact⟨_,_,rfl,by simp[RepC,dI],ih⟩
 have h2:∀x∈ss.map (λn=>[Value.int .i64 n]),ER 1 x:=by
  intro x hx
  obtain⟨n,_,rfl⟩:=An.1 hx
  exact⟨rfl,by simp[Value.oneCell']⟩
 have h3:(ss.map λn=>[Value.int .i64 n]).flatten=ss.map encZ:=by
  clear h h1 h2
  induction ss with
  |nil=>rfl
  |cons x ss ih=>simp only[Ar,CI,ih];rfl
 rcases h.2 with⟨rfl,hn⟩|⟨g,cap,cur,rfl,hb,hg,g1,g2,g3,g4⟩
 ·have:ss=[]:=AJ hn
  subst this
  exact⟨[.slice none 0 0],by simp only[Bn,RepC];exact⟨none,0,[],rfl,by simp,by unfold maxLen;omega,by simp[Aq],by simp,.inl rfl⟩,rfl⟩
 ·refine⟨[.slice (some ⟨g,0,none⟩) ss.length cap],?_,rfl⟩
  simp only[Bn,RepC]
  refine⟨_,cap,_,by rw[Ac],by rw[Ac];exact g1,g2,h1,h2,.inr ⟨g,0,rfl,λhm=>by have:=hO g hm;omega,(Ak.1 hg).1,?_⟩⟩
  rw[h3,<-g4]
  intro j u hj
  simp only[FA]at hj
  rw[CY]at hj
  split at hj
  ·simp only[World.cell?,hg,DT]
   simpa using hj
  ·cases hj
theorem P2(m:Nat):AnyZI.SortsIn Tryz.prog Tryz.sortedI_ren Fence.wide m:=
 ⟨λblk off cap ss W hH hblk hsz=>callsIn_wide.2 (AnyM.slices_Sort_int Tryz.sortI blk off cap ss W hH hblk hsz),
  λp cap W=>callsIn_wide.2 (AnyM.slices_Sort_int_none Tryz.sortI p cap W)⟩
theorem Ma(l:List Int)(hl:l.length<=4294967296):Pure C1 70 [.func (.func 122) [] [.ref (Bn l)]] (λy=>y=Bn (l.mergeSort λx y=>decide (x<=y))):=by
 intro O w us hO hg hr
 obtain⟨v,vs,rfl,h1,h2⟩:=Cn hr
 obtain rfl:=Ds h2
 obtain⟨cs,r,rfl⟩:=h1
 simp only[RepC,Aq]at r
 obtain⟨fs,cs',rfl,⟨c1,c2,rfl,⟨b,o,c,rfl,hb,hbl,hc,hcell⟩,rfl⟩,rfl⟩:=r
 simp only[Bn,RepC]at hc
 obtain⟨a,cap,css,rfl,hlc,hcm,hcs,hrow,hd⟩:=hc
 have hv:w.cell? ⟨b,o,none⟩=some (.slice a l.length cap):=by have:=hcell 0 _ rfl;simpa using this
 refine⟨by kernel_rfl,?_⟩
 show Calls _ _ #[.func (.func 122) #[] #[.pointer (some ⟨b,o,none⟩)]] w _
 have hseq:AA8 Fence.wide 3 Tryz.prog 122 #[.pointer (some ⟨b,o,none⟩)] (λys=>ys=l) l.length w:=by
  intro k J W hW hJ hJb hY h0
  have hc':W.cell? ⟨b,o,none⟩=some (.slice a l.length cap):=(hW.cell (p:=⟨b,o,none⟩) hbl).trans hv
  rcases hd with hd|⟨b2,o2,rfl,hb2,hbl2,hcell2⟩
  ·have:l=[]:=by simpa using hd
   subst this
   exact Px Fence.wide 3 trivial rfl k b o cap a J W hc' h0
  ·refine YS Fence.wide 3 trivial rfl (by omega) k b o w.heap.size b2 o2 cap l (by omega) hbl2 w J hJb hY W hc' ?_ h0
   intro j hj
   have hf:∀(l:List Int) (css:List (List Value)),Aq O w (l.map dI) css->css.flatten=l.map (Value.int .i64):=by
    intro l
    induction l with
    |nil=>intro css h;simp only[Bu,Aq]at h;subst h;rfl
    |
     cons x l ih=>
     intro css h
     simp only[Ar,Aq,dI,RepC]at h
     obtain⟨_,c2,rfl,rfl,h⟩:=h
     simp only[CI,ih c2 h];rfl
   exact hcell2 j _ (by rw[hf l css hcs,Ad,Ab hj];rfl)
 have:=TI Tryz.sortedI Fence.wide 6 trivial trivial trivial trivial rfl (by omega) (P2 _) (enters_of Tryz.func121 (by kernel_rfl) rfl) 122 #[.pointer (some ⟨b,o,none⟩)] trivial (enters_of Tryz.func122 (by kernel_rfl) rfl)
  (λys=>ys=l) l.length (by unfold maxLen;omega) (by omega) w (λss h=>Nat.le_of_eq (by rw[h])) hseq
 refine(callsIn_wide.1 this).mono ?_
 rintro e w' ⟨v,ss,rfl,rfl,hown,_,hbel⟩
 refine⟨v,_,rfl,rfl,?_,⟨hbel.os,hbel.tape,hbel.output,hbel.size,λk hk _=>hbel.block k hk⟩⟩
 rw[<-QI (le:=λx y=>decide (x<=y))]at hown
 exact aX hO hown
end Go.Proofs.YtjpmmkodoeipmaaGreatDoor
end
section
namespace Go.Proofs.YtjpmmkodoeipmaaGreatDoor
open Go.RowKit Go.Shelf Go.Sx Go.Reg Go.Maps Go.Sort Go.Gr
set_option maxRecDepth 100000
theorem Q1 {O:List Nat} {w:World}:∀ss:List Int,Aq O w (ss.map dI) (ss.map λn=>[Value.int .i64 n])
 |[]=>by simp[Aq]
 |x::ss=>⟨_,_,rfl,by simp[RepC,dI],Q1 ss⟩
theorem Y7(ss:List Int):∀x∈ss.map (λn=>[Value.int .i64 n]),ER 1 x:=by
 intro x hx
 obtain⟨n,_,rfl⟩:=An.1 hx
 exact⟨rfl,by simp[Value.oneCell']⟩
theorem AAk(ss:List Int):(ss.map λn=>[Value.int .i64 n]).flatMap id=ss.map encZ:=by
 induction ss with
 |nil=>rfl
 |cons x ss ih=>simp only[Ar,BD,ih];rfl
theorem pP {w:World} {base E:Nat} {v:Value} {ss:List Int}(h:w.ownsRow base E 1 v ss.length (ss.map encZ)):Sl E 1 id w v (ss.map λn=>[Value.int .i64 n])/\∀b,v.ownBlock=some b->base<=b:=by
 unfold Sl
 rw[AAk,Ac]
 rcases h with⟨h0,⟨rfl,hn⟩|⟨g,cap,cur,rfl,hb,hg,r⟩⟩
 ·exact⟨⟨h0,.inl ⟨rfl,hn⟩⟩,λb hb=>by cases hb⟩
 ·exact⟨⟨h0,.inr ⟨g,cap,cur,rfl,Am _,hg,r⟩⟩,λb hb'=>by simp only[Value.ownBlock,AB]at hb';subst hb';exact hb⟩
theorem RZ(l:List Int)(hl:l.length<=4294967296):E5 C1 70 [.func (.func 122) [] [.ref (Bn l)]] 3 1 (λds=>ds=(l.mergeSort λx y=>decide (x<=y)).map dI):=by
 intro O w us hO hg hr
 obtain⟨v,vs,rfl,h1,h2⟩:=Cn hr
 obtain rfl:=Ds h2
 obtain⟨cs,r,rfl⟩:=h1
 simp only[RepC,Aq]at r
 obtain⟨fs,cs',rfl,⟨c1,c2,rfl,⟨b,o,c,rfl,hb,hbl,hc,hcell⟩,rfl⟩,rfl⟩:=r
 simp only[Bn,RepC]at hc
 obtain⟨a,cap,css,rfl,hlc,hcm,hcs,hrow,hd⟩:=hc
 have hv:w.cell? ⟨b,o,none⟩=some (.slice a l.length cap):=by have:=hcell 0 _ rfl;simpa using this
 refine⟨by kernel_rfl,?_⟩
 show Calls _ _ #[.func (.func 122) #[] #[.pointer (some ⟨b,o,none⟩)]] w _
 have hseq:AA8 Fence.wide 3 Tryz.prog 122 #[.pointer (some ⟨b,o,none⟩)] (λys=>ys=l) l.length w:=by
  intro k J W hW hJ hJb hY h0
  have hc':W.cell? ⟨b,o,none⟩=some (.slice a l.length cap):=(hW.cell (p:=⟨b,o,none⟩) hbl).trans hv
  rcases hd with hd|⟨b2,o2,rfl,hb2,hbl2,hcell2⟩
  ·have:l=[]:=by simpa using hd
   subst this
   exact Px Fence.wide 3 trivial rfl k b o cap a J W hc' h0
  ·refine YS Fence.wide 3 trivial rfl (by omega) k b o w.heap.size b2 o2 cap l (by omega) hbl2 w J hJb hY W hc' ?_ h0
   intro j hj
   have hf:∀(l:List Int) (css:List (List Value)),Aq O w (l.map dI) css->css.flatten=l.map (Value.int .i64):=by
    intro l
    induction l with
    |nil=>intro css h;simp only[Bu,Aq]at h;subst h;rfl
    |
     cons x l ih=>
     intro css h
     simp only[Ar,Aq,dI,RepC]at h
     obtain⟨_,c2,rfl,rfl,h⟩:=h
     simp only[CI,ih c2 h];rfl
   exact hcell2 j _ (by rw[hf l css hcs,Ad,Ab hj];rfl)
 have:=TI Tryz.sortedI Fence.wide 6 trivial trivial trivial trivial rfl (by omega) (P2 _) (enters_of Tryz.func121 (by kernel_rfl) rfl) 122 #[.pointer (some ⟨b,o,none⟩)] trivial (enters_of Tryz.func122 (by kernel_rfl) rfl)
  (λys=>ys=l) l.length (by unfold maxLen;omega) (by omega) w (λss h=>Nat.le_of_eq (by rw[h])) hseq
 refine(callsIn_wide.1 this).mono ?_
 rintro e w' ⟨v,ss,rfl,rfl,hown,_,hbel⟩
 rw[<-QI (le:=λx y=>decide (x<=y))]at hown
 obtain⟨g1,g2⟩:=pP hown
 exact⟨v,_,_,rfl,rfl,g1,g2,Q1 _,Y7 _,⟨hbel.os,hbel.tape,hbel.output,hbel.size,λk hk _=>hbel.block k hk⟩⟩
end Go.Proofs.YtjpmmkodoeipmaaGreatDoor
end
section
namespace Go.Proofs
open Go.Shelf
def Tryz.compactI_ren:Go.Shelf.Ren:=⟨λ|43=>214|n=>n,λ|22=>22|23=>3|3=>3|4=>4|0=>0|n=>n,λ|n=>n⟩
theorem Tryz.compactI:Go.Proofs.SlLaysN.n43 Tryz.prog Tryz.compactI_ren:={
 mixed:=by kernel_rfl
 f43:=⟨Tryz.f214.name,by decide,Tryz.func214.trans (congrArg some (by kernel_rfl))⟩
 t0:=Tryz.underlying0
 a0:=Tryz.isAgg0
 z0:=Tryz.sizeOf0
 v0:=Tryz.zeroValue0
 t3:=Tryz.underlying3
 a3:=Tryz.isAgg3
 z3:=Tryz.sizeOf3
 v3:=Tryz.zeroValue3
 t4:=Tryz.underlying4
 a4:=Tryz.isAgg4
 z4:=Tryz.sizeOf4
 v4:=Tryz.zeroValue4
 t22:=Tryz.underlying22
 a22:=Tryz.isAgg22
 z22:=Tryz.sizeOf22
 v22:=Tryz.zeroValue22
 t23:=Tryz.underlying3
 a23:=Tryz.isAgg3
 z23:=Tryz.sizeOf3
 v23:=Tryz.zeroValue3
 i23:=by kernel_rfl}
end Go.Proofs
end
section
namespace Go.Proofs.YtjpmmkodoeipmaaGreatDoor
open Go.Sx Go.RowKit Go.Reg Go.Gr
set_option maxRecDepth 100000
theorem qU(cs:Array Value)(i:Nat)(v:Value)(h:cs[i]? =some v)(w:World):(part 3 cs i).run Tryz.prog w=.ok v w:=by
 have e:(isAgg 3).run Tryz.prog w=.ok false w:=by kernel_rfl
 simp[part,e,h]
theorem jU(n:Nat)(a b:Int)(w:World):(Op.equalIn (n+1) 3 (.int .i64 a) (.int .i64 b)).run Tryz.prog w=.ok (a==b) w:=by
 simp[Op.equalIn,run_underlying Tryz.underlying3]
theorem Y2(n:Nat)(k k':Edg)(w:World):(Op.equalIn (n+2) 90 (Oo k) (Oo k')).run Tryz.prog w=.ok (decide (k=k')) w:=by
 obtain⟨a,b⟩:=k
 obtain⟨c,d⟩:=k'
 unfold Op.equalIn
 simp[run_underlying Tryz.underlying90,Oo,program,Sem.run,qU]
 simp only[jU,AF]
 by_cases h1:a=c<;>by_cases h2:b=d<;>simp[h1,h2]
theorem kT(k k':Edg)(w:World):(Op.equal 90 (Oo k) (Oo k')).run Tryz.prog w=.ok (decide (k=k')) w:=Y2 9998 k k' w
theorem kU(em:Bool)(k:Edg)(w:World):(Instr.checkKey em 10000 90 (Oo k)).run Tryz.prog w=.ok () w:=by
 obtain⟨a,b⟩:=k;kernel_rfl
theorem AEc:KeyOk Tryz.prog 90 Oo:=
 KeyOk.of_equal Tryz.underlying90 (λ_ _=>rfl) kU (λk k' w=>kT k k' w) (λ⟨a,b⟩=>by simp[Oo,Instr.sameBits])
def sU:MapE C1.P Edg Bool where
 t:=161
 kt:=90
 et:=4
 encK:=Oo
 encV:=.bool
 dK:=dE
 dV:=.bool
 z:=false
 ht:=Tryz.underlying161
 hk:=AEc
 hz:=by intro w;kernel_rfl
 repK:=by
  rintro O w k v ⟨cs,h,rfl⟩
  simp only[dE,RepC,RepCs]at h
  obtain⟨_,_,rfl,rfl,_,_,rfl,rfl,rfl⟩:=h
  rfl
 repV:=by
  rintro O w x v ⟨cs,h,rfl⟩
  simp only[RepC]at h
  subst h;rfl
 ofV:=λO w x=>⟨[.bool x],by simp[RepC],rfl⟩
def JP(l:List Edg):List (Edg×Bool):=l.foldl (λm e=>Reg.put m e true) []
theorem Sd(l:List Edg)(e:Edg):JP (l++[e])=Reg.put (JP l) e true:=by simp[JP]
theorem fW {E:List Edg} {i:Nat} {e:Edg}(h:E[i]? =some e):E.take (i+1)=E.take i++[e]:=Fc h
theorem vQ(l:List Edg)(q:Edg):(Reg.get (JP l) q).getD false=decide (q∈l):=by
 have key:∀l:List Edg,Reg.get (JP l.reverse) q=if q∈l then some true else none:=by
  intro l
  induction l with
  |nil=>rfl
  |
   cons e l ih=>
   rw[FK,Sd,Reg.get_put,ih]
   by_cases h:e=q
   ·simp[h]
   ·have h':¬q=e:=λx=>h x.symm
    simp[h,h']
 have:=key l.reverse
 rw[E0]at this
 rw[this]
 by_cases h:q∈l<;>simp[h]
theorem Wd(l:List Edg)(q:Edg):(Reg.get (JP l) q).getD sU.z=decide (q∈l):=vQ l q
def OM:ByteArray:=⟨#[103,114,97,112,104]⟩
def jP:ByteArray:=⟨#[108,97,98,101,108]⟩
def JJ:ByteArray:=⟨#[101,100,103,101]⟩
def dG(G:Gr):Da:=.ref (.agg [Bn G.labels,Fa G.edges,Bn (Ht G.labels.length G.edges),Bn (U4 G.labels.length G.edges),Bn (jZ G.labels.length G.edges)])
def AEK:Int×Int×Bool->Da
 |(c,a,true)=>dS JJ (dF c a JJ)
 |(c,a,false)=>dF c a (if c=6 then OM else jP)
def yH(labels:List Int)(edges:List Edg):Da:=match Eo labels edges with
 |some x=>.tuple [.nilp,AEK x]
 |none=>.tuple [dG ⟨labels,Hu edges⟩,.nili]
theorem Gu {labels:List Int} {edges:List Edg} {x:Int×Int×Bool}(h:Eo labels edges=some x):yH labels edges=.tuple [.nilp,AEK x]:=by
 unfold yH;rw[h]
theorem Rn {labels:List Int} {edges:List Edg}(h:Eo labels edges=none):yH labels edges=.tuple [dG ⟨labels,Hu edges⟩,.nili]:=by
 unfold yH;rw[h]
def iG:List (Nat×Plan):=[(18,.leaf [0,0,0,0,1,1,2,6,3,0,0,3] [0,1,2,3,4,5,6,7,8,9,10,11] [0,0,2,6,14,0,32,96,254,511,1023,2047])]
def AAN:List FuncId:=[90]
def ZO:List (Nat×Plan):=[]
def oQ:List FuncId:=[]
theorem tL:CH Tryz.prog oQ ZO (Tryz.f89.body.getD .skip)=true:=by kernel_rfl
theorem pX(vs:Array Value)(w:World):(callFunc 89 vs).run C1.P w=.ok (.enter 89 vs) w:=by kernel_rfl
set_option maxHeartbeats 4000000 in
theorem U2(labels:List Int)(edges:List Edg):Pure C1 47 [Bn labels,Fa edges] (λy=>y=yH labels edges):=by
 have hll:(labels.map dI).length=labels.length:=Ac _
 have hel:(edges.map dE).length=edges.length:=Ac _
 refine AW Tryz.func47 Tryz.ntmps47 AAN iG ?_
 by_cases h1:4096<labels.length
 ·rw[Gu (ID (.inl h1))]
  ((conv=>whnf);repeat' ((first|refine odw ?_|refine nx ?_|refine AD (λ_=>?_) (λ_=>?_))<;>conv=>whnf))
  refine AS rfl (CG 6 0 OM) ?_;rintro y rfl
  ((conv=>whnf);repeat' ((first|refine odw ?_|refine nx ?_|refine AD (λ_=>?_) (λ_=>?_))<;>conv=>whnf))
  exact rfl
 by_cases h2:16384<edges.length
 ·rw[Gu (ID (.inr h2))]
  ((conv=>whnf);repeat' ((first|refine odw ?_|refine nx ?_|refine AD (λ_=>?_) (λ_=>?_))<;>conv=>whnf))
  refine AS rfl (CG 6 0 OM) ?_;rintro y rfl
  ((conv=>whnf);repeat' ((first|refine odw ?_|refine nx ?_|refine AD (λ_=>?_) (λ_=>?_))<;>conv=>whnf))
  exact rfl
 have h0:¬(4096<labels.length\/16384<edges.length):=by omega
 ((conv=>whnf);repeat' ((first|refine odw ?_|refine nx ?_|refine AD (λ_=>?_) (λ_=>?_))<;>conv=>whnf))
 refine AR (ι:=Nat) (λv=>v<=labels.length/\∀x∈labels.take v,BX x=false) (λv=>[(24,.d (.int .i64 v)),(23,.d (.int .i64 (labels.map dI).length)),(22,.d (Bn labels)),(1,.d (Fa edges)),(0,.d (Bn labels))])
  (λ_=>[]) (λv=>labels.length-v) 0 (λ_=>rfl) ⟨Am _,by simp⟩ (.refl _ _) ⟨rfl,rfl,rfl,rfl,rfl,trivial⟩ trivial ?_
 rintro v ⟨hv,hgood⟩
 refine Cd AAN iG ?_
 by_cases hlt:v<labels.length
 ·have hx:=Ab hlt
  generalize labels[v]=x at hx
  have hxd:(labels.map dI)[v]? =some (.int .i64 x):=by rw[Ad,hx];rfl
  by_cases b1:x<0
  ·have hb:BX x=true:=by simp[BX,b1]
   rw[Gu (IE h0 hx hb hgood)]
   (repeat' ((first|refine Aj ?_ ?_|refine AP hxd (by omega) ?_|refine nx ?_|refine AD (λ_=>?_) (λ_=>?_)|exact AG)<;>conv=>whnf))
   refine AS rfl (CG 3 v jP) ?_;rintro y rfl
   ((conv=>whnf);repeat' ((first|refine odw ?_|refine nx ?_|refine AD (λ_=>?_) (λ_=>?_))<;>conv=>whnf))
   exact rfl
  by_cases b2:255<x
  ·have hb:BX x=true:=by simp[BX,b2]
   rw[Gu (IE h0 hx hb hgood)]
   (repeat' ((first|refine Aj ?_ ?_|refine AP hxd (by omega) ?_|refine nx ?_|refine AD (λ_=>?_) (λ_=>?_)|exact AG)<;>conv=>whnf))
   refine AS rfl (CG 3 v jP) ?_;rintro y rfl
   ((conv=>whnf);repeat' ((first|refine odw ?_|refine nx ?_|refine AD (λ_=>?_) (λ_=>?_))<;>conv=>whnf))
   exact rfl
  ·have hb:BX x=false:=by simp[BX];omega
   (repeat' ((first|refine Aj ?_ ?_|refine AP hxd (by omega) ?_|refine nx ?_|refine AD (λ_=>?_) (λ_=>?_)|exact AG)<;>conv=>whnf))
   refine⟨v+1,_,_,⟨hlt,?_⟩,.refl _ _,⟨rfl,rfl,rfl,rfl,rfl,trivial⟩,trivial,by omega⟩
   intro z hz
   rw[Ay,hx]at hz
   rcases Ag.1 hz with hz|hz
   ·exact hgood z hz
   ·simp at hz;subst hz;exact hb
 ·have hve:labels.take v=labels:=Al (by omega)
  rw[hve]at hgood
  have hvn:v=labels.length:=by omega
  subst hvn
  clear hve hv hlt
  ((conv=>whnf);repeat' ((first|refine odw ?_|refine nx ?_|refine AD (λ_=>?_) (λ_=>?_))<;>conv=>whnf))
  refine iQ sU 38 rfl rfl (.inr rfl) rfl ?_
  ((conv=>whnf);repeat' ((first|refine odw ?_|refine nx ?_|refine AD (λ_=>?_) (λ_=>?_))<;>conv=>whnf))
  refine EH 40 rfl rfl (It labels (by omega)) ?_;rintro ds rfl
  ((conv=>whnf);repeat' ((first|refine odw ?_|refine nx ?_|refine AD (λ_=>?_) (λ_=>?_))<;>conv=>whnf))
  refine AR (ι:=Nat) (λi=>i<=edges.length/\∀j,j<i->Dl labels.length edges j=0) (λi=>[(45,.d (.int .i64 i)),(44,.d (.int .i64 (edges.map dE).length)),(43,.d (Fa edges)),(9,.own 42),(8,.own 38),(0,.d (Bn labels))])
   (λi=>[(38,(sU.obj (JP ((edges.take i).map turn))).own),(42,.cells 163 [.d (Bn labels),.own 300,.d .nils,.d .nils,.d .nils]),(300,.slice 90 2 (((edges.take i).map turn).map dE))])
   (λi=>edges.length-i) 0 (λ_=>rfl) ⟨Am _,λj hj=>absurd hj (Nat.not_lt_zero j)⟩ (.frz 40 rfl (.ownc 42 300 90 2 rfl rfl (.there _ (.here _)) (.refl _ _))) ⟨rfl,rfl,rfl,rfl,rfl,rfl,trivial⟩ ⟨rfl,rfl,rfl,trivial⟩ ?_
  rintro i ⟨hi,hcode⟩
  refine Cd AAN iG ?_
  by_cases hlt:i<edges.length
  ·have hx:=Ab hlt
   have htl:(((edges.take i).map turn).map dE).length=i:=by rw[Ac,Ac,AA];omega
   have hec:Dl labels.length edges i=Jr labels.length ((edges.take i).map turn) edges[i]:=by unfold Dl;rw[hx]
   generalize edges[i]=e at hx hec
   have hxd:(edges.map dE)[i]? =some (.agg [.int .i64 e.a,.int .i64 e.b]):=by rw[Ad,hx];rfl
   have hSl:((edges.take i).map turn).length=i:=by rw[Ac,AA];omega
   generalize hS:(edges.take i).map turn=S at hec htl hSl⊢
   (repeat' ((first|refine Aj ?_ ?_|refine AP hxd (by omega) ?_|refine nx ?_|refine AD (λ_=>?_) (λ_=>?_)|exact AG)<;>conv=>whnf))
   refine MS 200 [(45,.d (.int .i64 i)),(44,.d (.int .i64 (edges.map dE).length)),(43,.d (Fa edges)),(10,.d (.int .i64 i)),(11,.own 11),(9,.own 42),(8,.own 38),(0,.d (Bn labels))] EO (pl:=ZO) (G:=oQ) Tryz.func89 rfl Tryz.ntmps89 pX tL (QH rfl) rfl ⟨rfl,rfl,rfl,rfl,rfl,rfl,rfl,rfl,trivial⟩ rfl ?_
   intro us
   by_cases c1:min e.a e.b<0
   ·have hc:Dl labels.length edges i=3:=by rw[hec];unfold Jr;rw[if_pos (.inl c1)]
    rw[Gu (Fs h0 hgood hlt (by rw[hc];decide) hcode),hc]
    ((conv=>whnf);repeat' ((first|refine odw ?_|refine nx ?_|refine AD (λ_=>?_) (λ_=>?_))<;>conv=>whnf))
    refine AS rfl (CG 3 i JJ) ?_;rintro y rfl
    ((conv=>whnf);repeat' ((first|refine odw ?_|refine nx ?_|refine AD (λ_=>?_) (λ_=>?_))<;>conv=>whnf))
    refine AS rfl (K0 JJ 3 i JJ) ?_;rintro y rfl
    (repeat' ((first|refine Aj ?_ ?_|refine Lb ?_|refine nx ?_|refine AD (λ_=>?_) (λ_=>?_)|exact AG)<;>conv=>whnf))
    exact rfl
   by_cases c2:(labels.length:Int)<=max e.a e.b
   ·have hc:Dl labels.length edges i=3:=by rw[hec];unfold Jr;rw[if_pos (.inr c2)]
    rw[Gu (Fs h0 hgood hlt (by rw[hc];decide) hcode),hc]
    ((conv=>whnf);repeat' ((first|refine odw ?_|refine nx ?_|refine AD (λ_=>?_) (λ_=>?_))<;>conv=>whnf))
    refine AS rfl (CG 3 i JJ) ?_;rintro y rfl
    ((conv=>whnf);repeat' ((first|refine odw ?_|refine nx ?_|refine AD (λ_=>?_) (λ_=>?_))<;>conv=>whnf))
    refine AS rfl (K0 JJ 3 i JJ) ?_;rintro y rfl
    (repeat' ((first|refine Aj ?_ ?_|refine Lb ?_|refine nx ?_|refine AD (λ_=>?_) (λ_=>?_)|exact AG)<;>conv=>whnf))
    exact rfl
   by_cases c3:e.a=e.b
   ·have hc:Dl labels.length edges i=1:=by rw[hec];unfold Jr;rw[if_neg (by omega),if_pos c3]
    rw[Gu (Fs h0 hgood hlt (by rw[hc];decide) hcode),hc]
    ((conv=>whnf);repeat' ((first|refine odw ?_|refine nx ?_|refine AD (λ_=>?_) (λ_=>?_))<;>conv=>whnf))
    refine AS rfl (CG 1 i JJ) ?_;rintro y rfl
    ((conv=>whnf);repeat' ((first|refine odw ?_|refine nx ?_|refine AD (λ_=>?_) (λ_=>?_))<;>conv=>whnf))
    refine AS rfl (K0 JJ 1 i JJ) ?_;rintro y rfl
    (repeat' ((first|refine Aj ?_ ?_|refine Lb ?_|refine nx ?_|refine AD (λ_=>?_) (λ_=>?_)|exact AG)<;>conv=>whnf))
    exact rfl
   by_cases c4:turn e∈S
   ·have hc:Dl labels.length edges i=4:=by rw[hec];unfold Jr;rw[if_neg (by omega),if_neg c3,if_pos c4]
    rw[Gu (Fs h0 hgood hlt (by rw[hc];decide) hcode),hc]
    ((conv=>whnf);repeat' ((first|refine odw ?_|refine nx ?_|refine AD (λ_=>?_) (λ_=>?_))<;>conv=>whnf))
    refine AS rfl (Ih e) ?_;rintro y rfl
    ((conv=>whnf);repeat' ((first|refine odw ?_|refine nx ?_|refine AD (λ_=>?_) (λ_=>?_))<;>conv=>whnf))
    refine W8 sU (JP S) 38 (turn e) rfl rfl rfl rfl (.inr rfl) rfl ?_
    rw[Wd,show decide (turn e∈S)=true from decide_eq_true c4]
    ((conv=>whnf);repeat' ((first|refine odw ?_|refine nx ?_|refine AD (λ_=>?_) (λ_=>?_))<;>conv=>whnf))
    refine AS rfl (CG 4 i JJ) ?_;rintro y rfl
    ((conv=>whnf);repeat' ((first|refine odw ?_|refine nx ?_|refine AD (λ_=>?_) (λ_=>?_))<;>conv=>whnf))
    refine AS rfl (K0 JJ 4 i JJ) ?_;rintro y rfl
    (repeat' ((first|refine Aj ?_ ?_|refine Lb ?_|refine nx ?_|refine AD (λ_=>?_) (λ_=>?_)|exact AG)<;>conv=>whnf))
    exact rfl
   ·have hc:Dl labels.length edges i=0:=by rw[hec];unfold Jr;rw[if_neg (by omega),if_neg c3,if_neg c4]
    have hsn:(edges.take (i+1)).map turn=S++[turn e]:=by rw[fW hx,A7,hS];rfl
    ((conv=>whnf);repeat' ((first|refine odw ?_|refine nx ?_|refine AD (λ_=>?_) (λ_=>?_))<;>conv=>whnf))
    refine AS rfl (Ih e) ?_;rintro y rfl
    ((conv=>whnf);repeat' ((first|refine odw ?_|refine nx ?_|refine AD (λ_=>?_) (λ_=>?_))<;>conv=>whnf))
    refine W8 sU (JP S) 38 (turn e) rfl rfl rfl rfl (.inr rfl) rfl ?_
    rw[Wd,show decide (turn e∈S)=false from decide_eq_false c4]
    (repeat' ((first|refine Aj ?_ ?_|refine Lb ?_|refine nx ?_|refine AD (λ_=>?_) (λ_=>?_)|exact AG)<;>conv=>whnf))
    refine AS rfl (Ih e) ?_;rintro y rfl
    ((conv=>whnf);repeat' ((first|refine odw ?_|refine nx ?_|refine AD (λ_=>?_) (λ_=>?_))<;>conv=>whnf))
    refine qY sU (JP S) 38 (turn e) true rfl rfl rfl rfl rfl rfl rfl ?_
    rw[<-Sd,<-hsn]
    ((conv=>whnf);repeat' ((first|refine odw ?_|refine nx ?_|refine AD (λ_=>?_) (λ_=>?_))<;>conv=>whnf))
    refine AS rfl (Ih e) ?_;rintro y rfl
    ((conv=>whnf);repeat' ((first|refine odw ?_|refine nx ?_|refine AD (λ_=>?_) (λ_=>?_))<;>conv=>whnf))
    have hfin:S.map dE++[dE (turn e)]=((edges.take (i+1)).map turn).map dE:=by rw[hsn,A7];rfl
    refine⟨i+1,_,_,⟨hlt,?_⟩,.refl _ _,⟨rfl,rfl,rfl,rfl,rfl,rfl,trivial⟩,⟨rfl,rfl,Bk hfin,trivial⟩,by omega⟩
    intro j hj
    rcases Nat.lt_succ_iff_lt_or_eq.1 hj with h|h
    ·exact hcode j h
    ·rw[h];exact hc
  ·have hie:edges.take i=edges:=Al (by omega)
   rw[hie]
   have hin:i=edges.length:=by omega
   subst hin
   rw[Rn (JD h0 hgood hcode)]
   ((conv=>whnf);repeat' ((first|refine odw ?_|refine nx ?_|refine AD (λ_=>?_) (λ_=>?_))<;>conv=>whnf))
   have hnd:=(cV hcode).1
   have hok:=Q5 (JD h0 hgood hcode)
   refine MR (i:=300) rfl rfl (vJ (edges.map turn) (by rw[Ac];omega)) ?_
   rintro y ds ⟨out,rfl,hp,ho⟩
   obtain rfl:=Vu hnd hp ho
   ((conv=>whnf);repeat' ((first|refine odw ?_|refine nx ?_|refine AD (λ_=>?_) (λ_=>?_))<;>conv=>whnf))
   refine Dx 300 rfl ?_
   refine lG (i:=42) rfl rfl rfl (gP labels (Hu edges) (by omega) (by rw[RI];omega) hok.edge) ?_
   rintro y ys rfl
   ((conv=>whnf);repeat' ((first|refine odw ?_|refine nx ?_|refine AD (λ_=>?_) (λ_=>?_))<;>conv=>whnf))
   exact rfl
end Go.Proofs.YtjpmmkodoeipmaaGreatDoor
end
