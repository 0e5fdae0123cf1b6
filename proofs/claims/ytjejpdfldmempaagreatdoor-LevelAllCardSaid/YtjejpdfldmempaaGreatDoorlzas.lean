/- Merged: Ptu Ptv Itr Sea Cpa Cpb Cpc Cpd Atk Lso Ats Atm Lsc Grg Grh Grk Srp Lna. -/
import Derived.Test.YtjejpdfldmempaaGreatDoorlzar
import Derived.RangeFuncNested
import Derived.Test.YtjejpdfldmempaaGreatDoorlzan
import Derived.Test.YtjejpdfldmempaaGreatDoorlzaq
import Derived.Shelf.SlIterI.Sorted
import Derived.RangeFuncBox
import Derived.RangeFuncLeaves
import Derived.Shelf.Abstract
import Derived.WalkKit
import Derived.OwnWalkIn
import Derived.TacticsInMore
import Derived.LoopNIn
import Derived.LoopIn
import Derived.Shelf.SortM.Plain
import Derived.Shelf.SortM.SortNone
import Derived.Test.YtjejpdfldmempaaGreatDoorRows
import Derived.Shelf.SlicesG.CompactI
import Derived.Shelf.SlicesG.Delete
section
namespace Go.Gr
theorem GA {p:Pt}(h:FI p=none):Ik p.labels=none/\(∀e∈p.edges,0<=e.a/\e.a<e.b/\e.b<p.labels.length)/\Cl p.edges:=by
 unfold FI at h
 cases hl:Ik p.labels with
 |some x=>rw[hl]at h;cases h
 |
  none=>
  rw[hl]at h
  obtain⟨h1,h2⟩:=dY h
  refine⟨rfl,h1,?_⟩
  unfold Cl
  rw[AH]
  intro i j hi hj hij
  obtain⟨d,rfl⟩:∃d,j=i+1+d:=⟨j- (i+1),by omega⟩
  induction d with
  |zero=>exact h2 i _ _ (Aa hi) (Aa hj)
  |
   succ d ih=>
   have hj':i+1+d<p.edges.length:=by omega
   exact Fm (ih hj' (by omega)) (h2 (i+1+d) _ _ (Aa hj') (Aa hj))
end Go.Gr
namespace Go.Proofs.YtjejpdfldmempaaGreatDoor
open Go.Sx Go.RowKit Go.Reg Go.Gr
set_option maxRecDepth 100000
theorem RA(e:Edg):turn (turn e)=turn e:=by unfold turn;simp only[Edg.mk.injEq];omega
end Go.Proofs.YtjejpdfldmempaaGreatDoor
end
section
namespace Go.Gr
def EJ {α:Type}(f:α->α->Int):List α->List α->Int
 |[],[]=>0
 |[],_::_=>-1
 |_::_,[]=>1
 |x::a,y::b=>if f x y=0 then EJ f a b else f x y
theorem Dr {α:Type}(f:α->α->Int)(x y:α)(a b:List α):EJ f (x::a) (y::b)=if f x y=0 then EJ f a b else f x y:=rfl
def XM:List Int->Int
 |[]=>0
 |x::l=>if x=0 then XM l else x
def G6(p q:Pt):Int:=XM [CF p.labels.length q.labels.length,EJ CF p.labels q.labels,CF p.edges.length q.edges.length,EJ Ce p.edges q.edges]
end Go.Gr
end
section
namespace Go.Sx
open Go Go.RowKit Go.Reg
structure Grow(S:List Nat)(A:World)(S':List Nat)(B:World):Prop where
 tch:Tch S A B
 sub:∀b∈S,b∈S'
 new:∀b∈S',b∈S\/A.heap.size<=b
 lt:∀b∈S',b<B.heap.size
theorem Grow.refl {S:List Nat} {A:World}(h:∀b∈S,b<A.heap.size):Grow S A S A:=⟨Tch.refl _ _,λ_ h=>h,λ_ h=>.inl h,h⟩
theorem Grow.same {S:List Nat} {A B:World}(t:Tch S A B)(h:∀b∈S,b<A.heap.size):Grow S A S B:=⟨t,λ_ h=>h,λ_ h=>.inl h,λb hb=>CS (h b hb) t.size⟩
theorem Grow.trans {S S' S2:List Nat} {A B C:World}(h:Grow S A S' B)(k:Grow S' B S2 C):Grow S A S2 C:=
 ⟨h.tch.trans k.tch (λ_ h=>h) (λb hb=>h.new b hb),λb hb=>k.sub b (h.sub b hb),λb hb=>(k.new b hb).elim (λhb=>h.new b hb) (λhb=>.inr (BE h.tch.size hb)),k.lt⟩
theorem Grow.later {S S':List Nat} {A B:World}(h:Grow S A S' B):Later S A S' B:=⟨h.tch.size,λb hb hn=>h.tch.blk b hb hn,λb hn hb hm=>(h.new b hm).elim hn (λh=>by omega)⟩
end Go.Sx
end
section
namespace Go.Gr
open Go.Proofs.YtjejpdfldmempaaGreatDoor
theorem Ht {α:Type} [DecidableEq α]:∀{l m:List α},l.Nodup->(∀x∈l,x∈m)->m.length<=l.length->l.Perm m
 |
  [],m,_,_,h=>by
  have:m=[]:=AF (by simpa using h)
  subst this;exact .refl _
 |
  x::l,m,hn,hs,h=>by
  obtain⟨h1,h2⟩:=Ck.1 hn
  have hx:x∈m:=hs x (by simp)
  have hp:=List.perm_cons_erase hx
  have hl:m.length=(m.erase x).length+1:=by have:=hp.length_eq;simpa using this
  refine(List.Perm.cons x (Ht h2 (λy hy=>?_) ?_)).trans hp.symm
  ·exact(List.mem_erase_of_ne (λe=>by subst e;exact h1 hy)).2 (hs y (by simp[hy]))
  ·simp only[A4]at h;omega
theorem Nd {α:Type} [DecidableEq α] {l m:List α}(hn:l.Nodup)(hs:∀x∈l,x∈m):l.length<=m.length:=by
 rcases AP m.length l.length with h|h
 ·have:=(Ht hn hs (by omega)).length_eq;omega
 ·exact h
def qV(n:Nat)(b:List Int):Prop:=b.length=n/\(∀x∈b,0<=x/\x<(n:Int))/\b.Nodup
instance(n:Nat)(b:List Int):Decidable (qV n b):=by unfold qV;exact inferInstance
def pl(b:List Int)(i:Nat):Nat:=((b[i]?).getD 0).toNat
section
variable {n:Nat} {a b:List Int}
end
structure PtOk(n:Nat)(p:Pt):Prop where
 len:p.labels.length=n
 edge:∀e∈p.edges,0<=e.a/\e.a<e.b/\e.b<(n:Int)
 strict:Cl p.edges
end Go.Gr
end
section
namespace Go.Gr
open Go.Proofs.YtjejpdfldmempaaGreatDoor
structure TOrd {α:Type}(f:α->α->Int):Prop where
 eq0:∀x y,f x y=0↔x=y
 anti:∀x y,f y x<0↔0<f x y
 trans:∀x y z,f x y<0->f y z<0->f x z<0
theorem aB:TOrd CF:=⟨K6,λx y=>by rw[eJ];omega,λx y z=>by rw[M0,M0,M0];omega⟩
theorem fN {α:Type} {f:α->α->Int}(h:TOrd f):TOrd (EJ f):=by
 refine⟨λx=>?_,λx=>?_,λx=>?_⟩
 ·induction x with
  |nil=>intro y;cases y<;>simp[EJ]
  |
   cons a x ih=>
   intro y
   cases y with
   |nil=>simp[EJ]
   |
    cons b y=>
    rw[Dr]
    by_cases e:f a b=0
    ·rw[if_pos e,ih y]
     have:=(h.eq0 a b).1 e
     subst this;simp
    ·rw[if_neg e]
     have:a≠b:=λhh=>e ((h.eq0 a b).2 hh)
     simp[e,this]
 ·induction x with
  |nil=>intro y;cases y<;>simp[EJ]
  |
   cons a x ih=>
   intro y
   cases y with
   |nil=>simp[EJ]
   |
    cons b y=>
    rw[Dr,Dr]
    by_cases e:f a b=0
    ·have:=(h.eq0 a b).1 e
     subst this
     rw[if_pos e,if_pos e];exact ih y
    ·have e2:f b a≠0:=λhh=>e ((h.eq0 a b).2 ((h.eq0 b a).1 hh).symm)
     rw[if_neg e,if_neg e2];exact h.anti a b
 ·induction x with
  |nil=>intro y z;cases y<;>cases z<;>simp[EJ]
  |
   cons a x ih=>
   intro y z
   cases y with
   |nil=>simp[EJ]
   |
    cons b y=>
    cases z with
    |nil=>simp[EJ]
    |
     cons c z=>
     rw[Dr,Dr,Dr]
     by_cases e1:f a b=0
     ·have:=(h.eq0 a b).1 e1
      subst this
      rw[if_pos e1]
      by_cases e2:f a c=0
      ·rw[if_pos e2,if_pos e2];exact ih y z
      ·rw[if_neg e2,if_neg e2];exactλ_ h=>h
     ·rw[if_neg e1]
      by_cases e2:f b c=0
      ·have:=(h.eq0 b c).1 e2
       subst this
       rw[if_pos e2,if_neg e1];exactλh _=>h
      ·rw[if_neg e2]
       intro h1 h2
       have h3:=h.trans _ _ _ h1 h2
       rw[if_neg (by omega)];exact h3
theorem OB {α:Type} {f:α->α->Int}(h:TOrd f):∀{a b:List α} (c d:List α),a.length=b.length->EJ f (a++c) (b++d)=if EJ f a b=0 then EJ f c d else EJ f a b
 |[],[],c,d,_=>by simp[EJ]
 |
  x::a,y::b,c,d,hl=>by
  rw[B2,B2,Dr,Dr,OB h (a:=a) (b:=b) c d (by simpa using hl)]
  by_cases e:f x y=0
  ·simp[e]
  ·simp[e]
 |[],_::_,_,_,hl=>by simp at hl
 |_::_,[],_,_,hl=>by simp at hl
def GY(p:Pt):List Int:=(p.labels.length:Int)::(p.labels++(p.edges.length:Int)::p.edges.flatMap λe=>[e.a,e.b])
theorem QW:∀E F:List Edg,EJ Ce E F=EJ CF (E.flatMap λe=>[e.a,e.b]) (F.flatMap λe=>[e.a,e.b])
 |[],[]=>rfl
 |[],_::_=>rfl
 |_::_,[]=>rfl
 |
  x::E,y::F=>by
  simp only[Bp,B2,Ca,Dr]
  rw[QW E F]
  unfold Ce
  by_cases h:CF x.a y.a=0
  ·simp[h]
  ·simp[h]
theorem He(p q:Pt):G6 p q=EJ CF (GY p) (GY q):=by
 unfold G6 GY XM
 rw[Dr]
 by_cases h1:CF (p.labels.length:Int) (q.labels.length:Int)=0
 ·rw[if_pos h1,if_pos h1,OB aB _ _ (by have:=(K6 _ _).1 h1;omega)]
  unfold XM
  by_cases h2:EJ CF p.labels q.labels=0
  ·rw[if_pos h2,if_pos h2,Dr,<-QW]
   unfold XM
   by_cases h3:CF (p.edges.length:Int) (q.edges.length:Int)=0
   ·rw[if_pos h3,if_pos h3];unfold XM
    by_cases h4:EJ Ce p.edges q.edges=0
    ·rw[if_pos h4,h4];rfl
    ·rw[if_neg h4]
   ·rw[if_neg h3,if_neg h3]
  ·rw[if_neg h2,if_neg h2]
 ·rw[if_neg h1,if_neg h1]
theorem VS:∀{E F:List Edg},(E.flatMap λe=>[e.a,e.b])=(F.flatMap λe=>[e.a,e.b])->E=F
 |[],[],_=>rfl
 |[],_::_,h=>by simp at h
 |_::_,[],h=>by simp at h
 |
  x::E,y::F,h=>by
  simp only[Bp,B2,Ca,CX]at h
  rw[VS h.2.2]
  cases x;cases y;simp only at h;simp[h.1,h.2.1]
theorem kH {p q:Pt}(h:GY p=GY q):p=q:=by
 unfold GY at h
 rw[CX]at h
 obtain⟨h1,h2⟩:=List.append_inj h.2 (by have:=h.1;omega)
 rw[CX]at h2
 cases p;cases q
 simp only at h1 h2
 simp[h1,VS h2.2]
theorem Rp:TOrd G6:=⟨λx y=>by
  rw[He,(fN aB).eq0];exact⟨kH,λh=>by rw[h]⟩,λx y=>by
  rw[He,He];exact(fN aB).anti _ _,λx y z=>by
  rw[He,He,He];exact(fN aB).trans _ _ _⟩
instance:DecidableEq Pt:=λp q=>decidable_of_iff (G6 p q=0) (Rp.eq0 p q)
section
variable {α:Type} {f:α->α->Int}(h:TOrd f)
include h
theorem TOrd.le_of {x y:α}(hxy:f x y<=0):f x y<0\/x=y:=by
 rcases Int.lt_or_eq_of_le hxy with h1|h1
 ·exact .inl h1
 ·exact .inr ((h.eq0 _ _).1 h1)
theorem TOrd.self(x:α):f x x=0:=(h.eq0 x x).2 rfl
theorem TOrd.le_trans {x y z:α}(h1:f x y<=0)(h2:f y z<=0):f x z<=0:=by
 rcases h.le_of h1 with h1|rfl
 ·rcases h.le_of h2 with h2|rfl
  ·exact Int.le_of_lt (h.trans _ _ _ h1 h2)
  ·omega
 ·exact h2
end
theorem O6 {α:Type}(p:α->Bool):∀l:List α,l.length=(l.filter p).length+(l.filter λx=>!p x).length
 |[]=>rfl
 |
  x::l=>by
  have:=O6 p l
  cases h:p x with
  |true=>rw[List.filter_cons_of_pos h,List.filter_cons_of_neg (by simp[h]),A4,A4];omega
  |false=>rw[List.filter_cons_of_neg (by simp[h]),List.filter_cons_of_pos (by simp[h]),A4,A4];omega
theorem pQ {α β:Type} [DecidableEq β](f:α->β)(k:Nat):∀(m:Nat) (l:List α),l.length<=m->(∀y∈l,(l.filter λx=>decide (f x=f y)).length=k)->∃c:List β,c.Nodup/\(∀b,b∈c↔∃x∈l,f x=b)/\l.length=c.length*k
 |_,[],_,_=>⟨[],by simp,by simp,by simp⟩
 |0,x::l,h,_=>by simp at h
 |
  m+1,x::l,h,hk=>by
  have h2:=O6 (λy=>decide (f y=f x)) (x::l)
  have hx:=hk x (by simp)
  have hlt:((x::l).filter λy=>!decide (f y=f x)).length<=m:=by
   have:1<=((x::l).filter λy=>decide (f y=f x)).length:=by
    rw[List.filter_cons_of_pos (by simp)];simp
   simp only[A4]at h h2
   omega
  obtain⟨c,h3,h4,h5⟩:=pQ f k m ((x::l).filter λy=>!decide (f y=f x)) hlt (λy hy=>by
   obtain⟨hy1,hy2⟩:=A5.1 hy
   rw[<-hk y hy1,List.filter_filter]
   congr 1
   refine List.filter_congr λz _=>?_
   simp only[B7,decide_eq_false_iff_not]at hy2
   by_cases e:f z=f y
   ·rw[e];simp[hy2]
   ·simp[e])
  refine⟨f x::c,Ck.2 ⟨λhm=>?_,h3⟩,λb=>?_,?_⟩
  ·obtain⟨y,hy,e⟩:=(h4 _).1 hm
   have:=(A5.1 hy).2
   simp[e]at this
  ·rw[An,h4]
   constructor
   ·rintro(rfl|⟨y,hy,rfl⟩)
    ·exact⟨x,by simp,rfl⟩
    ·exact⟨y,(A5.1 hy).1,rfl⟩
   ·rintro⟨y,hy,rfl⟩
    by_cases e:f y=f x
    ·exact .inl e
    ·exact .inr ⟨y,A5.2 ⟨hy,by simpa using e⟩,rfl⟩
  ·rw[h2,hx,h5,A4,C0];omega
end Go.Gr
end
section
namespace Go.Gr
open Go.Proofs.YtjejpdfldmempaaGreatDoor
def sortI(l:List Int):List Int:=l.mergeSort λx y=>decide (x<=y)
end Go.Gr
end
section
namespace Go.Gr
open Go.Proofs.YtjejpdfldmempaaGreatDoor
def OJ(E:List Edg)(v:Int):Nat:=E.countP λe=>decide (e.a=v\/e.b=v)
section
variable {n:Nat} {p q:Pt} {b:List Int}
end
end Go.Gr
end
section
namespace Go.Proofs.YtjejpdfldmempaaGreatDoor
open Go.RowKit Go.Maps Go.Sort Go.Shelf
variable {P:Program} {ρ:Ren}
def lW(F:Fence)(n:Nat)(P:Program)(g:Nat)(lb:Array Value)(S:List Int->Prop)(N:Nat)(w:World):Prop:=
 ∀(l:Nat) (J:List Int->World->Prop) (W:World),Below w.heap.size w W->AbidesFrom W.heap.size J->(∀pre W1,J pre W1->Below w.heap.size w W1)->
  (∀pre x W1,J pre W1->pre.length<N->YieldAt F (n-1) P l #[encZ x] W1 λe W'=>e=.returned (.bool true)/\J (pre++[x]) W'/\KeepsWalks W1 W')->
  J [] W->
  CallsIn F n P g (#[.func (.yield l) #[] #[]]++lb) W λe W'=>(∃v,e=.returned v)/\∃xs,S xs/\J xs W'
set_option maxRecDepth 100000 in
set_option maxHeartbeats 2000000 in
theorem R4(L:SlLaysZI.n11 P ρ)(F:Fence)(n:Nat)(h11:F.fn (ρ.f 11))(hro:F.round=none)(hn:2<=n)(g:Nat)(lb:Array Value)(hFg:F.fn g)(eg:∀args w,(callFunc g args).run P w=.ok (.enter g args) w)
  (S:List Int->Prop) (N:Nat) (hN:N<=maxLen) (hNb:N*8<=140737488355328) (w:World) (hseq:lW F (n-1) P g lb S N w):
  CallsIn F n P (ρ.f 11) #[.slice none 0 0,.func (.func g) #[] lb] w λe w'=>∃(v:Value) (ss:List Int),e=.returned v/\S ss/\w'.ownsRow w.heap.size (ρ.t 26) 1 v ss.length (ss.map encZ)/\(v=.slice none 0 0↔ss=[])/\Below w.heap.size w w':=by
 have h1:1<=n:=by omega
 have mixed:=L.mixed;have t0:=L.t0;have a0:=L.a0;have z0:=L.z0;have v0:=L.v0;have t24:=L.t24;have a24:=L.a24;have z24:=L.z24;have v24:=L.v24;have t26:=L.t26;have a26:=L.a26;have z26:=L.z26;have v26:=L.v26;have t28:=L.t28;have a28:=L.a28;have z28:=L.z28;have v28:=L.v28
 have hne:ρ.t 24≠ρ.t 26:=λe=>by have h:=L.t24;rw[e,L.t26]at h;cases h
 have u0:=run_underlying L.t0;have u24:=run_underlying L.t24;have u26:=run_underlying L.t26;have u28:=run_underlying L.t28
 obtain⟨_,_,FG⟩:=L.f11
 refine callsIn_of_wp_marks FG rfl h11 ?_ hro
 simp only[SlBodyZ.n11_ntmps ρ,Cs,A4,Cb,Nat.reduceAdd,Nat.reduceSub,OW,OV,WM,Rm,Ca,B2]
 gi_wp2
 refine wpIn_rangeFunc ?_
 intro fn hfn
 rw[hro]
 obtain⟨W0,hW0⟩:∃W0,w.alloc (.cells #[.slice none 0 0] (ρ.t 24))=W0:=⟨_,rfl⟩
 have hs0:W0.heap.size=w.heap.size+1:=by rw[<-hW0];simp
 have hv0:W0.heap[w.heap.size]? =some (.cells #[.slice none 0 0] (ρ.t 24) (0,0)):=by rw[<-hW0];exact World.alloc_heap_new w _
 have hb0:Below w.heap.size w W0:=by rw[<-hW0];exact(Below.refl _ w).alloc (Az _) _
 rw[hW0]
 obtain⟨W1,hW1⟩:∃W1,(W0.alloc (.deferred (some []))).alloc (.loop (AnyZI.apRec ρ fn (.func (.func g) #[] lb) w.heap.size W0.heap.size .ready none))=W1:=⟨_,rfl⟩
 have hold:∀k,k<W0.heap.size->W1.heap[k]? =W0.heap[k]? :=λk hk=>by
  rw[<-hW1];exact(Below.heap_alloc _ _ k (by simp;omega)).trans (Below.heap_alloc _ _ k hk)
 have hb1:Below w.heap.size w W1:=by rw[<-hW1];exact(hb0.alloc hb0.size _).alloc (by have:=hb0.size;simp;omega) _
 have hs1:W1.heap.size=W0.heap.size+2:=by rw[<-hW1];simp
 have hM:AnyZI.ApAt ρ w fn (.func (.func g) #[] lb) w.heap.size (W0.heap.size+1) W0.heap.size [] W1:=
  ⟨⟨_,(hold w.heap.size (by omega)).trans hv0,⟨rfl,.inl ⟨rfl,rfl⟩⟩,by simp⟩,
   by rw[<-hW1];have:=World.alloc_heap_new (W0.alloc (.deferred (some []))) (.loop (AnyZI.apRec ρ fn (.func (.func g) #[] lb) w.heap.size W0.heap.size .ready none));rwa [World.size_alloc]at this,
   by rw[<-hW1];exact(Below.heap_alloc _ _ _ (by simp)).trans (World.alloc_heap_new W0 _),hb1⟩
 refine⟨W0.heap.size+1,[{target:=.collected W0.heap.size,args:=#[]}],W1,{target:=.fn (.func g) lb,args:=#[.func (.yield (W0.heap.size+1)) #[] #[]]},W1,g,
  #[.func (.yield (W0.heap.size + 1)) #[] #[]] ++ lb, W1, ?_, ?_, ?_, ?_, fun _ => h1, ?_⟩
 ·rw[<-hW1];exact run_enterLoop_outer _ _ _ _ _
 ·simp[resolve,go_sem]
 ·intro f' hf';simp[Target.leads]at hf';subst hf';exact hFg
 ·simp[invoke,go_sem,eg]
 ·refine(hseq (W0.heap.size+1) (AnyZI.ApAt ρ w fn (.func (.func g) #[] lb) w.heap.size (W0.heap.size+1) W0.heap.size) W1 hb1 (AnyZI.ap_abides ρ _ _ _ _ _ _ _ hb1.size) (λpre W h=>h.below)
   (λpre x W hJ hl=>AnyZI.apYield {L with} F (n-1-1) w fn hfn _ w.heap.size (W0.heap.size+1) W0.heap.size (by omega) (by omega) (by omega) (Az _) (by omega) N hN hNb pre x W hJ hl) hM).mono ?_
  rintro e W2 ⟨⟨v0,rfl⟩,ss,hS,h2⟩
  obtain⟨v,hv,hrow,hnil⟩:=h2.box
  have hend:=run_endLoop (P:=P) h2.L (by simp[AnyZI.apRec])
  obtain⟨W3,hW3⟩:∃W3,W2.putObj (W0.heap.size+1) (.loop {AnyZI.apRec ρ fn (.func (.func g) #[] lb) w.heap.size W0.heap.size .ready none with state:=.exhausted})=W3:=⟨_,rfl⟩
  rw[hW3]at hend
  have hg3:W2.grownBy W3 (some (W0.heap.size+1)):=by rw[<-hW3];exact grownBy_putObj_a _ _ _
  have hv3:W3.heap[w.heap.size]? =some (.cells #[v] (ρ.t 24) (0,0)):=by rw[<-hW3];exact(World.putObj_heap_other (by omega)).trans hv
  have hK3:W3.heap[W0.heap.size]? =some (.deferred (some [])):=by rw[<-hW3];exact(World.putObj_heap_other (by omega)).trans h2.K
  have hrow3:=hrow.kept hg3 (ownsRow_ne_a hrow h2.L (λcur e=>by first|cases e|exact hne (Obj.cells.inj e).2.1))
  have hb3:Below w.heap.size w W3:=h2.below.grown hg3 h2.below.size (λk e=>by cases e;omega)
  obtain⟨hc3,hf3⟩:=cell_of_box_a hv3
  clear hW3
  refine⟨none,W3,hend,?_⟩
  gi_wp2
  rw[<-hs0]
  refine⟨by simp,.inl ⟨_,_,rfl,run_takeDeferred hK3,?_⟩⟩
  exact⟨_,results_tmp rfl _ _ _,v,ss,rfl,hS,hrow3.kept (grownBy_putObj_a _ _ _) (ownsRow_ne_a hrow3 hK3 (λcur e=>by first|cases e|exact hne (Obj.cells.inj e).2.1)),hnil,hb3.grown (grownBy_putObj_a _ _ _) hb3.size (λk e=>by cases e;omega)⟩
set_option maxHeartbeats 1000000 in
theorem Wo(L:SlLaysZI.n8 P ρ)(F:Fence)(n:Nat)(h8:F.fn (ρ.f 8))(h11:F.fn (ρ.f 11))(hro:F.round=none)(hn:3<=n)(g:Nat)(lb:Array Value)(hFg:F.fn g)(eg:∀args w,(callFunc g args).run P w=.ok (.enter g args) w)
  (S:List Int->Prop) (N:Nat) (hN:N<=maxLen) (hNb:N*8<=140737488355328) (w:World) (hseq:lW F (n-1-1) P g lb S N w):
  CallsIn F n P (ρ.f 8) #[.func (.func g) #[] lb] w λe w'=>∃(v:Value) (ss:List Int),e=.returned v/\S ss/\w'.ownsRow w.heap.size (ρ.t 26) 1 v ss.length (ss.map encZ)/\(v=.slice none 0 0↔ss=[])/\Below w.heap.size w w':=by
 have h1:1<=n:=by omega
 have e11:∀args w,(callFunc (ρ.f 11) args).run P w=.ok (.enter (ρ.f 11) args) w:=L.f11.enters rfl
 have mixed:=L.mixed;have t0:=L.t0;have a0:=L.a0;have z0:=L.z0;have v0:=L.v0;have t24:=L.t24;have a24:=L.a24;have z24:=L.z24;have v24:=L.v24;have t26:=L.t26;have a26:=L.a26;have z26:=L.z26;have v26:=L.v26;have t28:=L.t28;have a28:=L.a28;have z28:=L.z28;have v28:=L.v28
 have u0:=run_underlying L.t0;have u24:=run_underlying L.t24;have u26:=run_underlying L.t26;have u28:=run_underlying L.t28
 obtain⟨_,_,FG⟩:=L.f8
 refine callsIn_of_wp FG rfl h8 ?_ hro
 simp only[SlBodyZ.n8_ntmps ρ,Cs,A4,Cb,Nat.reduceAdd,Nat.reduceSub,OW,OV,WM,Rm,Ca,B2]
 gi_wp2_with (gi_at_fn (ρ.f 11);refine(R4 {L with} F (n-1) h11 hro (by omega) g lb hFg eg S N hN hNb _ hseq).mono ?_;rintro e w' ⟨v,ss,rfl,hS,hrow,hnil,hb⟩)
 go_ret
 exact⟨v,ss,rfl,hS,hrow,hnil,hb⟩
set_option maxRecDepth 100000 in
set_option maxHeartbeats 2000000 in
theorem PB(L:SlLaysZI.n6 P ρ)(F:Fence)(n:Nat)(h6:F.fn (ρ.f 6))(h8:F.fn (ρ.f 8))(h9:F.fn (ρ.f 9))(h11:F.fn (ρ.f 11))(hro:F.round=none)(hn:4<=n)(hsort:AnyZI.SortsIn P ρ F (n-1))(e9:∀args w,(callFunc (ρ.f 9) args).run P w=.ok (.enter (ρ.f 9) args) w)(g:Nat)(lb:Array Value)(hFg:F.fn g)(eg:∀args w,(callFunc g args).run P w=.ok (.enter g args) w)
  (S:List Int->Prop) (N:Nat) (hN:N<=maxLen) (hNb:N*8<=140737488355328) (w:World) (hSN:∀ss,S ss->ss.length<=N) (hseq:lW F (n-1-1-1) P g lb S N w):
  CallsIn F n P (ρ.f 6) #[.func (.func g) #[] lb] w λe w'=>∃(v:Value) (ss:List Int),e=.returned v/\S ss/\
   w'.ownsRow w.heap.size (ρ.t 26) 1 v ss.length ((ss.mergeSort (λx y=>decide (x<=y))).map encZ)/\(v=.slice none 0 0↔ss=[])/\Below w.heap.size w w':=by
 have h1:1<=n:=by omega
 have e8:∀args w,(callFunc (ρ.f 8) args).run P w=.ok (.enter (ρ.f 8) args) w:=L.f8.enters rfl
 have mixed:=L.mixed;have t0:=L.t0;have a0:=L.a0;have z0:=L.z0;have v0:=L.v0;have t24:=L.t24;have a24:=L.a24;have z24:=L.z24;have v24:=L.v24;have t26:=L.t26;have a26:=L.a26;have z26:=L.z26;have v26:=L.v26;have t28:=L.t28;have a28:=L.a28;have z28:=L.z28;have v28:=L.v28
 have u0:=run_underlying L.t0;have u24:=run_underlying L.t24;have u26:=run_underlying L.t26;have u28:=run_underlying L.t28
 obtain⟨_,_,FG⟩:=L.f6
 refine callsIn_of_wp FG rfl h6 ?_ hro
 simp only[SlBodyZ.n6_ntmps ρ,Cs,A4,Cb,Nat.reduceAdd,Nat.reduceSub,OW,OV,WM,Rm,Ca,B2]
 gi_wp2_with (gi_at_fn (ρ.f 8);refine(Wo {L with} F (n-1) h8 h11 hro (by omega) g lb hFg eg _ N hN hNb _ hseq).mono ?_;rintro e W ⟨v,ss,rfl,hS,hrow,hnil,hb⟩;have hlen:=hSN ss hS)
 rcases hrow.2 with⟨rfl,hz⟩|⟨gb,cap,cur,rfl,hbase,hgb,r1,r2,r3,r4⟩
 ·
  have hss:ss=[]:=AF hz
  subst hss
  gi_wp2_with (gi_at_fn (ρ.f 9);refine(hsort.2 none 0 W).mono ?_;rintro e w' ⟨rfl,rfl⟩)
  go_ret
  exact⟨.slice none 0 0,[],rfl,hS,by simpa using hrow,by simp,hb⟩
 ·have hH:Holds encZ W gb 0 ss.toArray:=holds_of_block_i hgb (by simpa using r4)
  have hgl:gb<W.heap.size:=(A8.1 hgb).1
  have hsz:ss.length<4611686018427387904:=by omega
  have cS:=hsort.1 gb 0 cap ss W hH hgl hsz
  gi_wp2_with (gi_at_fn (ρ.f 9);refine cS.mono ?_;rintro e w' ⟨rfl,nn,os,rfl⟩)
  go_ret
  exact⟨_,ss,rfl,hS,ownsRow_sorted_i (by simp) hbase hgb r1 r2 r3,hnil,hb.grown (grownBy_sorted_i _) hb.size (λj hj=>by cases hj;exact hbase)⟩
end Go.Proofs.YtjejpdfldmempaaGreatDoor
end
section
namespace Go.Proofs
open Go.Shelf
def Tryz.sortedI_ren:Go.Shelf.Ren:=⟨λ|6=>160|8=>220|9=>221|11=>252|13=>104|12=>253|23=>153|24=>154|14=>263|15=>264|16=>265|17=>266|18=>267|19=>268|20=>269|21=>270|22=>271|25=>280|26=>211|27=>212|28=>281|29=>282|30=>143|31=>287|n=>n,λ|26=>3|28=>237|24=>28|0=>0|3=>3|37=>177|48=>184|50=>186|4=>4|40=>218|39=>217|45=>222|5=>5|9=>9|51=>281|55=>285|57=>313|58=>138|33=>215|n=>n,λ|n=>n⟩
theorem Tryz.sortedI:Go.Proofs.SlLaysZI.n6 Tryz.prog Tryz.sortedI_ren:={
 mixed:=by kernel_rfl
 f6:=⟨Tryz.f160.name,by decide,Tryz.func160.trans (congrArg some (by kernel_rfl))⟩
 f8:=⟨Tryz.f220.name,by decide,Tryz.func220.trans (congrArg some (by kernel_rfl))⟩
 f11:=⟨Tryz.f252.name,by decide,Tryz.func252.trans (congrArg some (by kernel_rfl))⟩
 t0:=Tryz.underlying0
 a0:=Tryz.isAgg0
 z0:=Tryz.sizeOf0
 v0:=Tryz.zeroValue0
 t24:=Tryz.underlying28
 a24:=Tryz.isAgg28
 z24:=Tryz.sizeOf28
 v24:=Tryz.zeroValue28
 t26:=Tryz.underlying3
 a26:=Tryz.isAgg3
 z26:=Tryz.sizeOf3
 v26:=Tryz.zeroValue3
 t28:=Tryz.underlying237
 a28:=Tryz.isAgg237
 z28:=Tryz.sizeOf237
 v28:=Tryz.zeroValue237
 i26:=by kernel_rfl}
def Tryz.sortI_ren:Go.Shelf.Ren:=⟨λ|5=>221|8=>104|7=>253|19=>153|20=>154|10=>263|11=>264|12=>265|13=>266|14=>267|15=>268|16=>269|17=>270|18=>271|30=>280|31=>211|32=>212|33=>281|34=>282|35=>143|40=>287|n=>n,λ|23=>28|25=>3|3=>3|32=>177|22=>28|0=>0|44=>184|46=>186|4=>4|36=>218|35=>217|41=>222|5=>5|9=>9|53=>281|57=>285|63=>313|64=>138|n=>n,λ|n=>n⟩
theorem Tryz.sortI:Go.Proofs.SlLaysM.n5 Tryz.prog Tryz.sortI_ren:={
 mixed:=by kernel_rfl
 f5:=⟨Tryz.f221.name,by decide,Tryz.func221.trans (congrArg some (by kernel_rfl))⟩
 f7:=⟨Tryz.f253.name,by decide,Tryz.func253.trans (congrArg some (by kernel_rfl))⟩
 f8:=Tryz.func104.trans (congrArg some (by kernel_rfl))
 f10:=⟨Tryz.f263.name,by decide,Tryz.func263.trans (congrArg some (by kernel_rfl))⟩
 f11:=⟨Tryz.f264.name,by decide,Tryz.func264.trans (congrArg some (by kernel_rfl))⟩
 f12:=⟨Tryz.f265.name,by decide,Tryz.func265.trans (congrArg some (by kernel_rfl))⟩
 f13:=⟨Tryz.f266.name,by decide,Tryz.func266.trans (congrArg some (by kernel_rfl))⟩
 f14:=⟨Tryz.f267.name,by decide,Tryz.func267.trans (congrArg some (by kernel_rfl))⟩
 f15:=⟨Tryz.f268.name,by decide,Tryz.func268.trans (congrArg some (by kernel_rfl))⟩
 f16:=⟨Tryz.f269.name,by decide,Tryz.func269.trans (congrArg some (by kernel_rfl))⟩
 f17:=⟨Tryz.f270.name,by decide,Tryz.func270.trans (congrArg some (by kernel_rfl))⟩
 f18:=⟨Tryz.f271.name,by decide,Tryz.func271.trans (congrArg some (by kernel_rfl))⟩
 f19:=Tryz.func153.trans (congrArg some (by kernel_rfl))
 f20:=Tryz.func154.trans (congrArg some (by kernel_rfl))
 f30:=⟨Tryz.f280.name,by decide,Tryz.func280.trans (congrArg some (by kernel_rfl))⟩
 f31:=Tryz.func211.trans (congrArg some (by kernel_rfl))
 f32:=Tryz.func212.trans (congrArg some (by kernel_rfl))
 f33:=⟨Tryz.f281.name,by decide,Tryz.func281.trans (congrArg some (by kernel_rfl))⟩
 f34:=⟨Tryz.f282.name,by decide,Tryz.func282.trans (congrArg some (by kernel_rfl))⟩
 f35:=⟨Tryz.f143.name,by decide,Tryz.func143.trans (congrArg some (by kernel_rfl))⟩
 f40:=⟨Tryz.f287.name,by decide,Tryz.func287.trans (congrArg some (by kernel_rfl))⟩
 t0:=Tryz.underlying0
 a0:=Tryz.isAgg0
 z0:=Tryz.sizeOf0
 v0:=Tryz.zeroValue0
 t3:=Tryz.underlying3
 a3:=Tryz.isAgg3
 z3:=Tryz.sizeOf3
 v3:=Tryz.zeroValue3
 t4:=Tryz.underlying4
 a4:=Tryz.isAgg4
 z4:=Tryz.sizeOf4
 v4:=Tryz.zeroValue4
 t5:=Tryz.underlying5
 a5:=Tryz.isAgg5
 z5:=Tryz.sizeOf5
 v5:=Tryz.zeroValue5
 t9:=Tryz.underlying9
 a9:=Tryz.isAgg9
 z9:=Tryz.sizeOf9
 v9:=Tryz.zeroValue9
 t22:=Tryz.underlying28
 a22:=Tryz.isAgg28
 z22:=Tryz.sizeOf28
 v22:=Tryz.zeroValue28
 t23:=Tryz.underlying28
 a23:=Tryz.isAgg28
 z23:=Tryz.sizeOf28
 v23:=Tryz.zeroValue28
 t25:=Tryz.underlying3
 a25:=Tryz.isAgg3
 z25:=Tryz.sizeOf3
 v25:=Tryz.zeroValue3
 t32:=Tryz.underlying177
 a32:=Tryz.isAgg177
 z32:=Tryz.sizeOf177
 v32:=Tryz.zeroValue177
 t35:=Tryz.underlying217
 a35:=Tryz.isAgg217
 z35:=Tryz.sizeOf217
 v35:=Tryz.zeroValue217
 t36:=Tryz.underlying218
 a36:=Tryz.isAgg218
 z36:=Tryz.sizeOf218
 v36:=Tryz.zeroValue218
 t41:=Tryz.underlying222
 a41:=Tryz.isAgg222
 z41:=Tryz.sizeOf222
 v41:=Tryz.zeroValue222
 t44:=Tryz.underlying184
 a44:=Tryz.isAgg184
 z44:=Tryz.sizeOf184
 v44:=Tryz.zeroValue184
 t46:=Tryz.underlying186
 a46:=Tryz.isAgg186
 z46:=Tryz.sizeOf186
 v46:=Tryz.zeroValue186
 t53:=Tryz.underlying281
 a53:=Tryz.isAgg281
 z53:=Tryz.sizeOf281
 v53:=Tryz.zeroValue281
 t57:=Tryz.underlying285
 a57:=Tryz.isAgg285
 z57:=Tryz.sizeOf285
 v57:=Tryz.zeroValue285
 t63:=Tryz.underlying313
 a63:=Tryz.isAgg313
 z63:=Tryz.sizeOf313
 v63:=Tryz.zeroValue313
 t64:=Tryz.underlying138
 a64:=Tryz.isAgg138
 z64:=Tryz.sizeOf138
 v64:=Tryz.zeroValue138}
end Go.Proofs
end
section
namespace Go.Proofs.YtjejpdfldmempaaGreatDoor
open Go.RowKit Go.Shelf Go.Sx Go.Reg Go.Maps Go.Sort Go.Gr
set_option maxRecDepth 100000
theorem fO {zs:List Int} {k:Nat}(h:k<=zs.length):(zs.take k).length=k:=by rw[As];omega
theorem aG {zs:List Int} {k:Nat}(h:k<zs.length):zs.take k++[zs[k]?.getD 0]=zs.take (k+1):=by
 rw[Av,Aa h];rfl
set_option maxHeartbeats 2000000 in
theorem Ui(F:Fence)(n:Nat)(h7:F.fn 222)(hro:F.round=none)(hn:1<=n)(l Bs bo n₀ b off cap:Nat)(zs:List Int)(hreach:zs.length*8<=140737488351232)(hb:b<n₀)(w:World)(J:List Int->World->Prop)
  (hJb:∀pre W1,J pre W1->Below n₀ w W1)
  (hY:∀pre x W1,J pre W1->pre.length<zs.length->YieldAt F (n-1) Tryz.prog l #[encZ x] W1 λe W'=>e=.returned (.bool true)/\J (pre++[x]) W'/\KeepsWalks W1 W')
  (W:World) (hBs:W.cell? ⟨Bs,bo,none⟩=some (.slice (some ⟨b,off,none⟩) zs.length cap)) (hc:∀j,j<zs.length->w.cell? ⟨b,off+j,none⟩=some (.int .i64 (zs[j]?.getD 0))) (h0:J [] W):
  CallsIn F n Tryz.prog 222 #[.func (.yield l) #[] #[],.pointer (some ⟨Bs,bo,none⟩)] W λe W'=>(∃v,e=.returned v)/\∃xs,xs=zs/\J xs W':=by
 refine callsIn_of_wp Tryz.func222 rfl h7 ?_ hro
 simp only[Tryz.ntmps222,Cs,A4,Cb,Nat.reduceAdd,Nat.reduceSub,OW,OV,WM,Rm,Ca,B2]
 gi_wp2
 gi_loopw [7] (λi wr=>∃k:Nat,k<=zs.length/\i=.int .i64 k/\J (zs.take k) wr)
  (λi _=>zs.length- (intOf i).toNat)
 case atStart=>exact⟨0,Aj _,rfl,h0⟩
 case round=>
  obtain⟨k,hk,rfl,hJs⟩:=hrel
  have hcx:k<zs.length->wr.cell? ⟨b,off+k,none⟩=some (.int .i64 (zs[k]?.getD 0)):=λh=>((hJb _ _ hJs).cell (p:=⟨b,off+k,none⟩) hb).trans (hc k h)
  by_cases hlt:k<zs.length
  ·have hcx':=hcx hlt
   have htn:=aG hlt
   generalize zs[k]?.getD 0=x at hcx' htn
   obtain⟨fn,tmps,assign,body,hy,hR⟩:=hY _ x wr hJs (by rw[fO hk];exact hlt)
   rw[htn]at hR
   clear hcx hc htn
   gi_wp2
   refine hR.mono ?_
   rintro e W3 ⟨rfl,hJ3,hk3⟩
   gi_wp2
   go_roundw
   case rel=>exact⟨k+1,by omega,by simp,hJ3⟩
   case measure=>simp[intOf];omega
  ·obtain rfl:k=zs.length:=by omega
   rw[De]at hJs
   gi_wp2
   go_end0
   exact⟨⟨_,rfl⟩,zs,rfl,hJs⟩
set_option maxHeartbeats 1000000 in
theorem LA(F:Fence)(n:Nat)(h7:F.fn 222)(hro:F.round=none)(l Bs bo cap:Nat)(p:Option Addr)(J:List Int->World->Prop)(W:World)(hBs:W.cell? ⟨Bs,bo,none⟩=some (.slice p 0 cap))(h0:J [] W):
  CallsIn F n Tryz.prog 222 #[.func (.yield l) #[] #[],.pointer (some ⟨Bs,bo,none⟩)] W λe W'=>(∃v,e=.returned v)/\∃xs,xs=[]/\J xs W':=by
 refine callsIn_of_wp Tryz.func222 rfl h7 ?_ hro
 simp only[Tryz.ntmps222,Cs,A4,Cb,Nat.reduceAdd,Nat.reduceSub,OW,OV,WM,Rm,Ca,B2]
 gi_wp2
 gi_loopw [7] (λi wr=>i=.int .i64 0/\J [] wr) (λ_ _=>0)
 case atStart=>exact⟨rfl,h0⟩
 case round=>
  obtain⟨rfl,hJs⟩:=hrel
  gi_wp2
  go_end0
  exact⟨⟨_,rfl⟩,[],rfl,hJs⟩
theorem Vz {w:World} {base E:Nat} {v:Value} {ss:List Int} {O:List Nat}(hO:∀b∈O,b<base)(h:w.ownsRow base E 1 v ss.length (ss.map encZ)):Rep O w (AS ss) v:=by
 have h1:Am O w (ss.map dI) (ss.map λn=>[Value.int .i64 n]):=by
  clear h
  induction ss with
  |nil=>simp[Am]
  |cons x ss ih=>exact⟨_,_,rfl,by simp[RepC,dI],ih⟩
 have h2:∀x∈ss.map (λn=>[Value.int .i64 n]),Ec 1 x:=by
  intro x hx
  obtain⟨n,_,rfl⟩:=Ar.1 hx
  exact⟨rfl,by simp[Value.oneCell']⟩
 have h3:(ss.map λn=>[Value.int .i64 n]).flatten=ss.map encZ:=by
  clear h h1 h2
  induction ss with
  |nil=>rfl
  |cons x ss ih=>simp only[Au,CG,ih];rfl
 rcases h.2 with⟨rfl,hn⟩|⟨g,cap,cur,rfl,hb,hg,g1,g2,g3,g4⟩
 ·have:ss=[]:=AF hn
  subst this
  exact⟨[.slice none 0 0],by simp only[AS,RepC];exact⟨none,0,[],rfl,by simp,by unfold maxLen;omega,by simp[Am],by simp,.inl rfl⟩,rfl⟩
 ·refine⟨[.slice (some ⟨g,0,none⟩) ss.length cap],?_,rfl⟩
  simp only[AS,RepC]
  refine⟨_,cap,_,by rw[Ab],by rw[Ab];exact g1,g2,h1,h2,.inr ⟨g,0,rfl,λhm=>by have:=hO g hm;omega,(A8.1 hg).1,?_⟩⟩
  rw[h3,<-g4]
  intro j u hj
  simp only[EO]at hj
  rw[Cv]at hj
  split at hj
  ·simp only[World.cell?,hg,EL]
   simpa using hj
  ·cases hj
theorem LF(m:Nat):AnyZI.SortsIn Tryz.prog Tryz.sortedI_ren Fence.wide m:=
 ⟨λblk off cap ss W hH hblk hsz=>callsIn_wide.2 (AnyM.slices_Sort_int Tryz.sortI blk off cap ss W hH hblk hsz),
  λp cap W=>callsIn_wide.2 (AnyM.slices_Sort_int_none Tryz.sortI p cap W)⟩
theorem Ux(l:List Int)(hl:l.length<=4294967296):Pure C1 160 [.func (.func 222) [] [.ref (AS l)]] (λy=>y=AS (l.mergeSort λx y=>decide (x<=y))):=by
 intro O w us hO hg hr
 obtain⟨v,vs,rfl,h1,h2⟩:=Ci hr
 obtain rfl:=ER h2
 obtain⟨cs,r,rfl⟩:=h1
 simp only[RepC,Am]at r
 obtain⟨fs,cs',rfl,⟨c1,c2,rfl,⟨b,o,c,rfl,hb,hbl,hc,hcell⟩,rfl⟩,rfl⟩:=r
 simp only[AS,RepC]at hc
 obtain⟨a,cap,css,rfl,hlc,hcm,hcs,hrow,hd⟩:=hc
 have hv:w.cell? ⟨b,o,none⟩=some (.slice a l.length cap):=by have:=hcell 0 _ rfl;simpa using this
 refine⟨by kernel_rfl,?_⟩
 show Calls _ _ #[.func (.func 222) #[] #[.pointer (some ⟨b,o,none⟩)]] w _
 have hseq:lW Fence.wide 3 Tryz.prog 222 #[.pointer (some ⟨b,o,none⟩)] (λys=>ys=l) l.length w:=by
  intro k J W hW hJ hJb hY h0
  have hc':W.cell? ⟨b,o,none⟩=some (.slice a l.length cap):=(hW.cell (p:=⟨b,o,none⟩) hbl).trans hv
  rcases hd with hd|⟨b2,o2,rfl,hb2,hbl2,hcell2⟩
  ·have:l=[]:=by simpa using hd
   subst this
   exact LA Fence.wide 3 trivial rfl k b o cap a J W hc' h0
  ·refine Ui Fence.wide 3 trivial rfl (by omega) k b o w.heap.size b2 o2 cap l (by omega) hbl2 w J hJb hY W hc' ?_ h0
   intro j hj
   have hf:∀(l:List Int) (css:List (List Value)),Am O w (l.map dI) css->css.flatten=l.map (Value.int .i64):=by
    intro l
    induction l with
    |nil=>intro css h;simp only[BI,Am]at h;subst h;rfl
    |
     cons x l ih=>
     intro css h
     simp only[Au,Am,dI,RepC]at h
     obtain⟨_,c2,rfl,rfl,h⟩:=h
     simp only[CG,ih c2 h];rfl
   exact hcell2 j _ (by rw[hf l css hcs,Ac,Aa hj];rfl)
 have:=PB Tryz.sortedI Fence.wide 6 trivial trivial trivial trivial rfl (by omega) (LF _) (enters_of Tryz.func221 (by kernel_rfl) rfl) 222 #[.pointer (some ⟨b,o,none⟩)] trivial (enters_of Tryz.func222 (by kernel_rfl) rfl)
  (λys=>ys=l) l.length (by unfold maxLen;omega) (by omega) w (λss h=>Nat.le_of_eq (by rw[h])) hseq
 refine(callsIn_wide.1 this).mono ?_
 rintro e w' ⟨v,ss,rfl,rfl,hown,_,hbel⟩
 refine⟨v,_,rfl,rfl,?_,⟨hbel.os,hbel.tape,hbel.output,hbel.size,λk hk _=>hbel.block k hk⟩⟩
 rw[<-MC (le:=λx y=>decide (x<=y))]at hown
 exact Vz hO hown
end Go.Proofs.YtjejpdfldmempaaGreatDoor
end
section
namespace Go.Proofs.YtjejpdfldmempaaGreatDoor
open Go.RowKit Go.Shelf Go.Sx Go.Reg Go.Maps Go.Sort Go.Gr
set_option maxRecDepth 100000
theorem Mx {O:List Nat} {w:World}:∀ss:List Int,Am O w (ss.map dI) (ss.map λn=>[Value.int .i64 n])
 |[]=>by simp[Am]
 |x::ss=>⟨_,_,rfl,by simp[RepC,dI],Mx ss⟩
theorem TM(ss:List Int):∀x∈ss.map (λn=>[Value.int .i64 n]),Ec 1 x:=by
 intro x hx
 obtain⟨n,_,rfl⟩:=Ar.1 hx
 exact⟨rfl,by simp[Value.oneCell']⟩
theorem lC(ss:List Int):(ss.map λn=>[Value.int .i64 n]).flatMap id=ss.map encZ:=by
 induction ss with
 |nil=>rfl
 |cons x ss ih=>simp only[Au,Bp,ih];rfl
theorem aM {w:World} {base E:Nat} {v:Value} {ss:List Int}(h:w.ownsRow base E 1 v ss.length (ss.map encZ)):Sl E 1 id w v (ss.map λn=>[Value.int .i64 n])/\∀b,v.ownBlock=some b->base<=b:=by
 unfold Sl
 rw[lC,Ab]
 rcases h with⟨h0,⟨rfl,hn⟩|⟨g,cap,cur,rfl,hb,hg,r⟩⟩
 ·exact⟨⟨h0,.inl ⟨rfl,hn⟩⟩,λb hb=>by cases hb⟩
 ·exact⟨⟨h0,.inr ⟨g,cap,cur,rfl,Aj _,hg,r⟩⟩,λb hb'=>by simp only[Value.ownBlock,Aq]at hb';subst hb';exact hb⟩
theorem Oe(l:List Int)(hl:l.length<=4294967296):DV C1 160 [.func (.func 222) [] [.ref (AS l)]] 3 1 (λds=>ds=(l.mergeSort λx y=>decide (x<=y)).map dI):=by
 intro O w us hO hg hr
 obtain⟨v,vs,rfl,h1,h2⟩:=Ci hr
 obtain rfl:=ER h2
 obtain⟨cs,r,rfl⟩:=h1
 simp only[RepC,Am]at r
 obtain⟨fs,cs',rfl,⟨c1,c2,rfl,⟨b,o,c,rfl,hb,hbl,hc,hcell⟩,rfl⟩,rfl⟩:=r
 simp only[AS,RepC]at hc
 obtain⟨a,cap,css,rfl,hlc,hcm,hcs,hrow,hd⟩:=hc
 have hv:w.cell? ⟨b,o,none⟩=some (.slice a l.length cap):=by have:=hcell 0 _ rfl;simpa using this
 refine⟨by kernel_rfl,?_⟩
 show Calls _ _ #[.func (.func 222) #[] #[.pointer (some ⟨b,o,none⟩)]] w _
 have hseq:lW Fence.wide 3 Tryz.prog 222 #[.pointer (some ⟨b,o,none⟩)] (λys=>ys=l) l.length w:=by
  intro k J W hW hJ hJb hY h0
  have hc':W.cell? ⟨b,o,none⟩=some (.slice a l.length cap):=(hW.cell (p:=⟨b,o,none⟩) hbl).trans hv
  rcases hd with hd|⟨b2,o2,rfl,hb2,hbl2,hcell2⟩
  ·have:l=[]:=by simpa using hd
   subst this
   exact LA Fence.wide 3 trivial rfl k b o cap a J W hc' h0
  ·refine Ui Fence.wide 3 trivial rfl (by omega) k b o w.heap.size b2 o2 cap l (by omega) hbl2 w J hJb hY W hc' ?_ h0
   intro j hj
   have hf:∀(l:List Int) (css:List (List Value)),Am O w (l.map dI) css->css.flatten=l.map (Value.int .i64):=by
    intro l
    induction l with
    |nil=>intro css h;simp only[BI,Am]at h;subst h;rfl
    |
     cons x l ih=>
     intro css h
     simp only[Au,Am,dI,RepC]at h
     obtain⟨_,c2,rfl,rfl,h⟩:=h
     simp only[CG,ih c2 h];rfl
   exact hcell2 j _ (by rw[hf l css hcs,Ac,Aa hj];rfl)
 have:=PB Tryz.sortedI Fence.wide 6 trivial trivial trivial trivial rfl (by omega) (LF _) (enters_of Tryz.func221 (by kernel_rfl) rfl) 222 #[.pointer (some ⟨b,o,none⟩)] trivial (enters_of Tryz.func222 (by kernel_rfl) rfl)
  (λys=>ys=l) l.length (by unfold maxLen;omega) (by omega) w (λss h=>Nat.le_of_eq (by rw[h])) hseq
 refine(callsIn_wide.1 this).mono ?_
 rintro e w' ⟨v,ss,rfl,rfl,hown,_,hbel⟩
 rw[<-MC (le:=λx y=>decide (x<=y))]at hown
 obtain⟨g1,g2⟩:=aM hown
 exact⟨v,_,_,rfl,rfl,g1,g2,Mx _,TM _,⟨hbel.os,hbel.tape,hbel.output,hbel.size,λk hk _=>hbel.block k hk⟩⟩
end Go.Proofs.YtjejpdfldmempaaGreatDoor
end
section
namespace Go.Proofs
open Go.Shelf
def Tryz.compactI_ren:Go.Shelf.Ren:=⟨λ|43=>241|n=>n,λ|22=>28|23=>3|3=>3|4=>4|0=>0|n=>n,λ|n=>n⟩
theorem Tryz.compactI:Go.Proofs.SlLaysN.n43 Tryz.prog Tryz.compactI_ren:={
 mixed:=by kernel_rfl
 f43:=⟨Tryz.f241.name,by decide,Tryz.func241.trans (congrArg some (by kernel_rfl))⟩
 t0:=Tryz.underlying0
 a0:=Tryz.isAgg0
 z0:=Tryz.sizeOf0
 v0:=Tryz.zeroValue0
 t3:=Tryz.underlying3
 a3:=Tryz.isAgg3
 z3:=Tryz.sizeOf3
 v3:=Tryz.zeroValue3
 t4:=Tryz.underlying4
 a4:=Tryz.isAgg4
 z4:=Tryz.sizeOf4
 v4:=Tryz.zeroValue4
 t22:=Tryz.underlying28
 a22:=Tryz.isAgg28
 z22:=Tryz.sizeOf28
 v22:=Tryz.zeroValue28
 t23:=Tryz.underlying3
 a23:=Tryz.isAgg3
 z23:=Tryz.sizeOf3
 v23:=Tryz.zeroValue3
 i23:=by kernel_rfl}
end Go.Proofs
end
section
namespace Go.Proofs.YtjejpdfldmempaaGreatDoor
open Go.Sx Go.RowKit Go.Reg Go.Gr
set_option maxRecDepth 100000
theorem bU(cs:Array Value)(i:Nat)(v:Value)(h:cs[i]? =some v)(w:World):(part 3 cs i).run Tryz.prog w=.ok v w:=by
 have e:(isAgg 3).run Tryz.prog w=.ok false w:=by kernel_rfl
 simp[part,e,h]
theorem Yl(n:Nat)(a b:Int)(w:World):(Op.equalIn (n+1) 3 (.int .i64 a) (.int .i64 b)).run Tryz.prog w=.ok (a==b) w:=by
 simp[Op.equalIn,run_underlying Tryz.underlying3]
theorem TJ(n:Nat)(k k':Edg)(w:World):(Op.equalIn (n+2) 103 (KW k) (KW k')).run Tryz.prog w=.ok (decide (k=k')) w:=by
 obtain⟨a,b⟩:=k
 obtain⟨c,d⟩:=k'
 unfold Op.equalIn
 simp[run_underlying Tryz.underlying103,KW,program,Sem.run,bU]
 simp only[Yl,A3]
 by_cases h1:a=c<;>by_cases h2:b=d<;>simp[h1,h2]
theorem Y4(k k':Edg)(w:World):(Op.equal 103 (KW k) (KW k')).run Tryz.prog w=.ok (decide (k=k')) w:=TJ 9998 k k' w
theorem Y5(em:Bool)(k:Edg)(w:World):(Instr.checkKey em 10000 103 (KW k)).run Tryz.prog w=.ok () w:=by
 obtain⟨a,b⟩:=k;kernel_rfl
theorem tO:KeyOk Tryz.prog 103 KW:=
 KeyOk.of_equal Tryz.underlying103 (λ_ _=>rfl) Y5 (λk k' w=>Y4 k k' w) (λ⟨a,b⟩=>by simp[KW,Instr.sameBits])
def dX:MapE C1.P Edg Bool where
 t:=241
 kt:=103
 et:=4
 encK:=KW
 encV:=.bool
 dK:=dE
 dV:=.bool
 z:=false
 ht:=Tryz.underlying241
 hk:=tO
 hz:=by intro w;kernel_rfl
 repK:=by
  rintro O w k v ⟨cs,h,rfl⟩
  simp only[dE,RepC,RepCs]at h
  obtain⟨_,_,rfl,rfl,_,_,rfl,rfl,rfl⟩:=h
  rfl
 repV:=by
  rintro O w x v ⟨cs,h,rfl⟩
  simp only[RepC]at h
  subst h;rfl
 ofV:=λO w x=>⟨[.bool x],by simp[RepC],rfl⟩
def HD(l:List Edg):List (Edg×Bool):=l.foldl (λm e=>Reg.put m e true) []
theorem Og(l:List Edg)(e:Edg):HD (l++[e])=Reg.put (HD l) e true:=by simp[HD,List.foldl_append]
theorem Xc {E:List Edg} {i:Nat} {e:Edg}(h:E[i]? =some e):E.take (i+1)=E.take i++[e]:=DR h
theorem gO(l:List Edg)(q:Edg):(Reg.get (HD l) q).getD false=decide (q∈l):=by
 have key:∀l:List Edg,Reg.get (HD l.reverse) q=if q∈l then some true else none:=by
  intro l
  induction l with
  |nil=>rfl
  |
   cons e l ih=>
   rw[List.reverse_cons,Og,Reg.get_put,ih]
   by_cases h:e=q
   ·simp[h]
   ·have h':¬q=e:=λx=>h x.symm
    simp[h,h']
 have:=key l.reverse
 rw[List.reverse_reverse]at this
 rw[this]
 by_cases h:q∈l<;>simp[h]
theorem RI(l:List Edg)(q:Edg):(Reg.get (HD l) q).getD dX.z=decide (q∈l):=gO l q
def Hb:ByteArray:=⟨#[103,114,97,112,104]⟩
def Yh:ByteArray:=⟨#[108,97,98,101,108]⟩
def H5:ByteArray:=⟨#[101,100,103,101]⟩
def dG(G:Gr):Da:=.ref (.agg [AS G.labels,D0 G.edges,AS (FB G.labels.length G.edges),AS (Qk G.labels.length G.edges),AS (Yq G.labels.length G.edges)])
def uY:Int×Int×Bool->Da
 |(c,a,true)=>dS H5 (dF c a H5)
 |(c,a,false)=>dF c a (if c=6 then Hb else Yh)
def jR(labels:List Int)(edges:List Edg):Da:=match Dt labels edges with
 |some x=>.tuple [.nilp,uY x]
 |none=>.tuple [dG ⟨labels,FC edges⟩,.nili]
theorem ET {labels:List Int} {edges:List Edg} {x:Int×Int×Bool}(h:Dt labels edges=some x):jR labels edges=.tuple [.nilp,uY x]:=by
 unfold jR;rw[h]
theorem Ng {labels:List Int} {edges:List Edg}(h:Dt labels edges=none):jR labels edges=.tuple [dG ⟨labels,FC edges⟩,.nili]:=by
 unfold jR;rw[h]
def XE:List (Nat×Plan):=[(18,.leaf [0,0,0,0,1,1,2,6,3,0,0,3] [0,1,2,3,4,5,6,7,8,9,10,11] [0,0,2,6,14,0,32,96,254,511,1023,2047])]
def mL:List FuncId:=[165]
def UV:List (Nat×Plan):=[]
def ZN:List FuncId:=[]
theorem eF:Cu Tryz.prog ZN UV (Tryz.f164.body.getD .skip)=true:=by kernel_rfl
theorem aT(vs:Array Value)(w:World):(callFunc 164 vs).run C1.P w=.ok (.enter 164 vs) w:=by kernel_rfl
set_option maxHeartbeats 4000000 in
theorem Qi(labels:List Int)(edges:List Edg):Pure C1 113 [AS labels,D0 edges] (λy=>y=jR labels edges):=by
 have hll:(labels.map dI).length=labels.length:=Ab _
 have hel:(edges.map dE).length=edges.length:=Ab _
 refine AK Tryz.func113 Tryz.ntmps113 mL XE ?_
 by_cases h1:4096<labels.length
 ·rw[ET (G1 (.inl h1))]
  ((conv=>whnf);repeat' ((first|refine odw ?_|refine nx ?_|refine Aw (λ_=>?_) (λ_=>?_))<;>conv=>whnf))
  refine AI rfl (Cj 6 0 Hb) ?_;rintro y rfl
  ((conv=>whnf);repeat' ((first|refine odw ?_|refine nx ?_|refine Aw (λ_=>?_) (λ_=>?_))<;>conv=>whnf))
  exact rfl
 by_cases h2:16384<edges.length
 ·rw[ET (G1 (.inr h2))]
  ((conv=>whnf);repeat' ((first|refine odw ?_|refine nx ?_|refine Aw (λ_=>?_) (λ_=>?_))<;>conv=>whnf))
  refine AI rfl (Cj 6 0 Hb) ?_;rintro y rfl
  ((conv=>whnf);repeat' ((first|refine odw ?_|refine nx ?_|refine Aw (λ_=>?_) (λ_=>?_))<;>conv=>whnf))
  exact rfl
 have h0:¬(4096<labels.length\/16384<edges.length):=by omega
 ((conv=>whnf);repeat' ((first|refine odw ?_|refine nx ?_|refine Aw (λ_=>?_) (λ_=>?_))<;>conv=>whnf))
 refine AC (ι:=Nat) (λv=>v<=labels.length/\∀x∈labels.take v,B4 x=false) (λv=>[(24,.d (.int .i64 v)),(23,.d (.int .i64 (labels.map dI).length)),(22,.d (AS labels)),(1,.d (D0 edges)),(0,.d (AS labels))])
  (λ_=>[]) (λv=>labels.length-v) 0 (λ_=>rfl) ⟨Aj _,by simp⟩ (.refl _ _) ⟨rfl,rfl,rfl,rfl,rfl,trivial⟩ trivial ?_
 rintro v ⟨hv,hgood⟩
 refine Bj mL XE ?_
 by_cases hlt:v<labels.length
 ·have hx:=Aa hlt
  generalize labels[v]=x at hx
  have hxd:(labels.map dI)[v]? =some (.int .i64 x):=by rw[Ac,hx];rfl
  by_cases b1:x<0
  ·have hb:B4 x=true:=by simp[B4,b1]
   rw[ET (G2 h0 hx hb hgood)]
   (repeat' ((first|refine Af ?_ ?_|refine A1 hxd (by omega) ?_|refine nx ?_|refine Aw (λ_=>?_) (λ_=>?_)|exact A0)<;>conv=>whnf))
   refine AI rfl (Cj 3 v Yh) ?_;rintro y rfl
   ((conv=>whnf);repeat' ((first|refine odw ?_|refine nx ?_|refine Aw (λ_=>?_) (λ_=>?_))<;>conv=>whnf))
   exact rfl
  by_cases b2:255<x
  ·have hb:B4 x=true:=by simp[B4,b2]
   rw[ET (G2 h0 hx hb hgood)]
   (repeat' ((first|refine Af ?_ ?_|refine A1 hxd (by omega) ?_|refine nx ?_|refine Aw (λ_=>?_) (λ_=>?_)|exact A0)<;>conv=>whnf))
   refine AI rfl (Cj 3 v Yh) ?_;rintro y rfl
   ((conv=>whnf);repeat' ((first|refine odw ?_|refine nx ?_|refine Aw (λ_=>?_) (λ_=>?_))<;>conv=>whnf))
   exact rfl
  ·have hb:B4 x=false:=by simp[B4];omega
   (repeat' ((first|refine Af ?_ ?_|refine A1 hxd (by omega) ?_|refine nx ?_|refine Aw (λ_=>?_) (λ_=>?_)|exact A0)<;>conv=>whnf))
   refine⟨v+1,_,_,⟨hlt,?_⟩,.refl _ _,⟨rfl,rfl,rfl,rfl,rfl,trivial⟩,trivial,by omega⟩
   intro z hz
   rw[Av,hx]at hz
   rcases Ag.1 hz with hz|hz
   ·exact hgood z hz
   ·simp at hz;subst hz;exact hb
 ·have hve:labels.take v=labels:=Ak (by omega)
  rw[hve]at hgood
  have hvn:v=labels.length:=by omega
  subst hvn
  clear hve hv hlt
  ((conv=>whnf);repeat' ((first|refine odw ?_|refine nx ?_|refine Aw (λ_=>?_) (λ_=>?_))<;>conv=>whnf))
  refine XP dX 38 rfl rfl (.inr rfl) rfl ?_
  ((conv=>whnf);repeat' ((first|refine odw ?_|refine nx ?_|refine Aw (λ_=>?_) (λ_=>?_))<;>conv=>whnf))
  refine EX 40 rfl rfl (Ix labels (by omega)) ?_;rintro ds rfl
  ((conv=>whnf);repeat' ((first|refine odw ?_|refine nx ?_|refine Aw (λ_=>?_) (λ_=>?_))<;>conv=>whnf))
  refine AC (ι:=Nat) (λi=>i<=edges.length/\∀j,j<i->C7 labels.length edges j=0) (λi=>[(45,.d (.int .i64 i)),(44,.d (.int .i64 (edges.map dE).length)),(43,.d (D0 edges)),(9,.own 42),(8,.own 38),(0,.d (AS labels))])
   (λi=>[(38,(dX.obj (HD ((edges.take i).map turn))).own),(42,.cells 243 [.d (AS labels),.own 300,.d .nils,.d .nils,.d .nils]),(300,.slice 103 2 (((edges.take i).map turn).map dE))])
   (λi=>edges.length-i) 0 (λ_=>rfl) ⟨Aj _,λj hj=>absurd hj (Ev j)⟩ (.frz 40 rfl (.ownc 42 300 103 2 rfl rfl (.there _ (.here _)) (.refl _ _))) ⟨rfl,rfl,rfl,rfl,rfl,rfl,trivial⟩ ⟨rfl,rfl,rfl,trivial⟩ ?_
  rintro i ⟨hi,hcode⟩
  refine Bj mL XE ?_
  by_cases hlt:i<edges.length
  ·have hx:=Aa hlt
   have htl:(((edges.take i).map turn).map dE).length=i:=by rw[Ab,Ab,As];omega
   have hec:C7 labels.length edges i=Hc labels.length ((edges.take i).map turn) edges[i]:=by unfold C7;rw[hx]
   generalize edges[i]=e at hx hec
   have hxd:(edges.map dE)[i]? =some (.agg [.int .i64 e.a,.int .i64 e.b]):=by rw[Ac,hx];rfl
   have hSl:((edges.take i).map turn).length=i:=by rw[Ab,As];omega
   generalize hS:(edges.take i).map turn=S at hec htl hSl⊢
   (repeat' ((first|refine Af ?_ ?_|refine A1 hxd (by omega) ?_|refine nx ?_|refine Aw (λ_=>?_) (λ_=>?_)|exact A0)<;>conv=>whnf))
   refine JY 200 [(45,.d (.int .i64 i)),(44,.d (.int .i64 (edges.map dE).length)),(43,.d (D0 edges)),(10,.d (.int .i64 i)),(11,.own 11),(9,.own 42),(8,.own 38),(0,.d (AS labels))] Fb (pl:=UV) (G:=ZN) Tryz.func164 rfl Tryz.ntmps164 aT eF (MB rfl) rfl ⟨rfl,rfl,rfl,rfl,rfl,rfl,rfl,rfl,trivial⟩ rfl ?_
   intro us
   by_cases c1:min e.a e.b<0
   ·have hc:C7 labels.length edges i=3:=by rw[hec];unfold Hc;rw[if_pos (.inl c1)]
    rw[ET (Ea h0 hgood hlt (by rw[hc];decide) hcode),hc]
    ((conv=>whnf);repeat' ((first|refine odw ?_|refine nx ?_|refine Aw (λ_=>?_) (λ_=>?_))<;>conv=>whnf))
    refine AI rfl (Cj 3 i H5) ?_;rintro y rfl
    ((conv=>whnf);repeat' ((first|refine odw ?_|refine nx ?_|refine Aw (λ_=>?_) (λ_=>?_))<;>conv=>whnf))
    refine AI rfl (In H5 3 i H5) ?_;rintro y rfl
    (repeat' ((first|refine Af ?_ ?_|refine IC ?_|refine nx ?_|refine Aw (λ_=>?_) (λ_=>?_)|exact A0)<;>conv=>whnf))
    exact rfl
   by_cases c2:(labels.length:Int)<=max e.a e.b
   ·have hc:C7 labels.length edges i=3:=by rw[hec];unfold Hc;rw[if_pos (.inr c2)]
    rw[ET (Ea h0 hgood hlt (by rw[hc];decide) hcode),hc]
    ((conv=>whnf);repeat' ((first|refine odw ?_|refine nx ?_|refine Aw (λ_=>?_) (λ_=>?_))<;>conv=>whnf))
    refine AI rfl (Cj 3 i H5) ?_;rintro y rfl
    ((conv=>whnf);repeat' ((first|refine odw ?_|refine nx ?_|refine Aw (λ_=>?_) (λ_=>?_))<;>conv=>whnf))
    refine AI rfl (In H5 3 i H5) ?_;rintro y rfl
    (repeat' ((first|refine Af ?_ ?_|refine IC ?_|refine nx ?_|refine Aw (λ_=>?_) (λ_=>?_)|exact A0)<;>conv=>whnf))
    exact rfl
   by_cases c3:e.a=e.b
   ·have hc:C7 labels.length edges i=1:=by rw[hec];unfold Hc;rw[if_neg (by omega),if_pos c3]
    rw[ET (Ea h0 hgood hlt (by rw[hc];decide) hcode),hc]
    ((conv=>whnf);repeat' ((first|refine odw ?_|refine nx ?_|refine Aw (λ_=>?_) (λ_=>?_))<;>conv=>whnf))
    refine AI rfl (Cj 1 i H5) ?_;rintro y rfl
    ((conv=>whnf);repeat' ((first|refine odw ?_|refine nx ?_|refine Aw (λ_=>?_) (λ_=>?_))<;>conv=>whnf))
    refine AI rfl (In H5 1 i H5) ?_;rintro y rfl
    (repeat' ((first|refine Af ?_ ?_|refine IC ?_|refine nx ?_|refine Aw (λ_=>?_) (λ_=>?_)|exact A0)<;>conv=>whnf))
    exact rfl
   by_cases c4:turn e∈S
   ·have hc:C7 labels.length edges i=4:=by rw[hec];unfold Hc;rw[if_neg (by omega),if_neg c3,if_pos c4]
    rw[ET (Ea h0 hgood hlt (by rw[hc];decide) hcode),hc]
    ((conv=>whnf);repeat' ((first|refine odw ?_|refine nx ?_|refine Aw (λ_=>?_) (λ_=>?_))<;>conv=>whnf))
    refine AI rfl (Gi e) ?_;rintro y rfl
    ((conv=>whnf);repeat' ((first|refine odw ?_|refine nx ?_|refine Aw (λ_=>?_) (λ_=>?_))<;>conv=>whnf))
    refine Sc dX (HD S) 38 (turn e) rfl rfl rfl rfl (.inr rfl) rfl ?_
    rw[RI,show decide (turn e∈S)=true from decide_eq_true c4]
    ((conv=>whnf);repeat' ((first|refine odw ?_|refine nx ?_|refine Aw (λ_=>?_) (λ_=>?_))<;>conv=>whnf))
    refine AI rfl (Cj 4 i H5) ?_;rintro y rfl
    ((conv=>whnf);repeat' ((first|refine odw ?_|refine nx ?_|refine Aw (λ_=>?_) (λ_=>?_))<;>conv=>whnf))
    refine AI rfl (In H5 4 i H5) ?_;rintro y rfl
    (repeat' ((first|refine Af ?_ ?_|refine IC ?_|refine nx ?_|refine Aw (λ_=>?_) (λ_=>?_)|exact A0)<;>conv=>whnf))
    exact rfl
   ·have hc:C7 labels.length edges i=0:=by rw[hec];unfold Hc;rw[if_neg (by omega),if_neg c3,if_neg c4]
    have hsn:(edges.take (i+1)).map turn=S++[turn e]:=by rw[Xc hx,Ay,hS];rfl
    ((conv=>whnf);repeat' ((first|refine odw ?_|refine nx ?_|refine Aw (λ_=>?_) (λ_=>?_))<;>conv=>whnf))
    refine AI rfl (Gi e) ?_;rintro y rfl
    ((conv=>whnf);repeat' ((first|refine odw ?_|refine nx ?_|refine Aw (λ_=>?_) (λ_=>?_))<;>conv=>whnf))
    refine Sc dX (HD S) 38 (turn e) rfl rfl rfl rfl (.inr rfl) rfl ?_
    rw[RI,show decide (turn e∈S)=false from decide_eq_false c4]
    (repeat' ((first|refine Af ?_ ?_|refine IC ?_|refine nx ?_|refine Aw (λ_=>?_) (λ_=>?_)|exact A0)<;>conv=>whnf))
    refine AI rfl (Gi e) ?_;rintro y rfl
    ((conv=>whnf);repeat' ((first|refine odw ?_|refine nx ?_|refine Aw (λ_=>?_) (λ_=>?_))<;>conv=>whnf))
    refine bW dX (HD S) 38 (turn e) true rfl rfl rfl rfl rfl rfl rfl ?_
    rw[<-Og,<-hsn]
    ((conv=>whnf);repeat' ((first|refine odw ?_|refine nx ?_|refine Aw (λ_=>?_) (λ_=>?_))<;>conv=>whnf))
    refine AI rfl (Gi e) ?_;rintro y rfl
    ((conv=>whnf);repeat' ((first|refine odw ?_|refine nx ?_|refine Aw (λ_=>?_) (λ_=>?_))<;>conv=>whnf))
    have hfin:S.map dE++[dE (turn e)]=((edges.take (i+1)).map turn).map dE:=by rw[hsn,Ay];rfl
    refine⟨i+1,_,_,⟨hlt,?_⟩,.refl _ _,⟨rfl,rfl,rfl,rfl,rfl,rfl,trivial⟩,⟨rfl,rfl,AO hfin,trivial⟩,by omega⟩
    intro j hj
    rcases Nat.lt_succ_iff_lt_or_eq.1 hj with h|h
    ·exact hcode j h
    ·rw[h];exact hc
  ·have hie:edges.take i=edges:=Ak (by omega)
   rw[hie]
   have hin:i=edges.length:=by omega
   subst hin
   rw[Ng (Hu h0 hgood hcode)]
   ((conv=>whnf);repeat' ((first|refine odw ?_|refine nx ?_|refine Aw (λ_=>?_) (λ_=>?_))<;>conv=>whnf))
   have hnd:=(Wi hcode).1
   have hok:=M4 (Hu h0 hgood hcode)
   refine Ws (i:=300) rfl rfl (gI (edges.map turn) (by rw[Ab];omega)) ?_
   rintro y ds ⟨out,rfl,hp,ho⟩
   obtain rfl:=M5 hnd hp ho
   ((conv=>whnf);repeat' ((first|refine odw ?_|refine nx ?_|refine Aw (λ_=>?_) (λ_=>?_))<;>conv=>whnf))
   refine D3 300 rfl ?_
   refine YD (i:=42) rfl rfl rfl (Xv labels (FC edges) (by omega) (by rw[NO];omega) hok.edge) ?_
   rintro y ys rfl
   ((conv=>whnf);repeat' ((first|refine odw ?_|refine nx ?_|refine Aw (λ_=>?_) (λ_=>?_))<;>conv=>whnf))
   exact rfl
end Go.Proofs.YtjejpdfldmempaaGreatDoor
end
section
namespace Go.Gr
theorem Yw(f:Nat->List Int)(D:Nat->Nat)(hD:∀v,(f v).length=D v) {n v:Nat}(h:v<n):∃pre post,(List.range n).flatMap f=pre++(f v++post)/\pre.length=off D v:=by
 have key:∀n,((List.range n).flatMap f).length=off D n:=by
  intro n
  induction n with
  |zero=>rfl
  |succ n ih=>rw[BN,Dm,Ah,ih];simp[off,hD]
 induction n with
 |zero=>omega
 |
  succ n ih=>
  rw[BN,Dm]
  by_cases hv:v<n
  ·obtain⟨pre,post,e,hl⟩:=ih hv
   exact⟨pre,post++[n].flatMap f,by rw[e];simp,hl⟩
  ·have:v=n:=by omega
   subst this
   exact⟨(List.range v).flatMap f,[],by simp,key v⟩
theorem VT(f:Nat->List Int)(D:Nat->Nat)(hD:∀v,(f v).length=D v) {n v:Nat}(h:v<n):(((List.range n).flatMap f).take (off D (v+1))).drop (off D v)=f v:=by
 obtain⟨pre,post,e,hl⟩:=Yw f D hD h
 rw[e,<-Bk]
 have h1:off D (v+1)=(pre++f v).length:=by simp[off,hl,hD]
 rw[h1,List.take_left,<-hl,List.drop_left]
theorem Vk(f:Nat->List Int)(D:Nat->Nat)(hD:∀v,(f v).length=D v)(n:Nat):((List.range n).flatMap f).length=off D n:=by
 induction n with
 |zero=>rfl
 |succ n ih=>rw[BN,Dm,Ah,ih];simp[off,hD]
end Go.Gr
namespace Go.Proofs.YtjejpdfldmempaaGreatDoor
open Go.Sx Go.RowKit Go.Reg Go.Gr
set_option maxRecDepth 100000
theorem Ij(G:Gr):Pure C1 175 [dG G] (λy=>y=.int .i64 G.labels.length):=by
 have hl:(G.labels.map dI).length=G.labels.length:=Ab _
 refine AK Tryz.func175 Tryz.ntmps175 [] [] ?_
 ((conv=>whnf);repeat' ((first|refine odw ?_|refine nx ?_|refine Aw (λ_=>?_) (λ_=>?_))<;>conv=>whnf))
 show Da.int .i64 _=_
 rw[hl]
theorem MP(G:Gr):Pure C1 177 [dG G] (λy=>y=.int .i64 G.edges.length):=by
 have hl:(G.edges.map dE).length=G.edges.length:=Ab _
 refine AK Tryz.func177 Tryz.ntmps177 [] [] ?_
 ((conv=>whnf);repeat' ((first|refine odw ?_|refine nx ?_|refine Aw (λ_=>?_) (λ_=>?_))<;>conv=>whnf))
 show Da.int .i64 _=_
 rw[hl]
def Dw(G:Gr)(v:Int):Bool:=decide (0<=v/\v<G.labels.length)
theorem Io(G:Gr)(v:Int):Pure C1 230 [dG G,.int .i64 v] (λy=>y=.bool (Dw G v)):=by
 refine AK Tryz.func230 Tryz.ntmps230 [] [] ?_
 by_cases h0:0<=v
 ·((conv=>whnf);repeat' ((first|refine odw ?_|refine nx ?_|refine Aw (λ_=>?_) (λ_=>?_))<;>conv=>whnf))
  refine AI rfl (Ij G) ?_;rintro y rfl
  by_cases h1:v<G.labels.length
  ·have:Dw G v=true:=by simp[Dw,h0,h1]
   rw[this]
   ((conv=>whnf);repeat' ((first|refine odw ?_|refine nx ?_|refine Aw (λ_=>?_) (λ_=>?_))<;>conv=>whnf))
   show Da.plain _=_
   simp[Da.plain,h1]
  ·have:Dw G v=false:=by simp[Dw,h1]
   rw[this]
   ((conv=>whnf);repeat' ((first|refine odw ?_|refine nx ?_|refine Aw (λ_=>?_) (λ_=>?_))<;>conv=>whnf))
   show Da.plain _=_
   simp[Da.plain,h1]
 ·have:Dw G v=false:=by simp[Dw,h0]
  rw[this]
  ((conv=>whnf);repeat' ((first|refine odw ?_|refine nx ?_|refine Aw (λ_=>?_) (λ_=>?_))<;>conv=>whnf))
  exact rfl
theorem JJ {G:Gr} {v:Int}(h:0<=v)(h2:v<G.labels.length):Dw G v=true:=by simp[Dw,h,h2]
theorem Ml {G:Gr} {v:Int}(h:¬(0<=v/\v<G.labels.length)):Dw G v=false:=by simp only[Dw,decide_eq_false_iff_not];exact h
def C5(G:Gr)(v:Int):Int:=if 0<=v/\v<G.labels.length then(G.labels[v.toNat]?).getD 0 else-1
theorem Yg(G:Gr)(v:Int):Pure C1 195 [dG G,.int .i64 v] (λy=>y=.int .i64 (C5 G v)):=by
 refine AK Tryz.func195 Tryz.ntmps195 [] [] ?_
 by_cases h:0<=v/\v<G.labels.length
 ·obtain⟨m,rfl⟩:=Ax h.1
  have hm:m<G.labels.length:=by omega
  have hx:=Aa hm
  have e:C5 G (m:Int)=G.labels[m]:=by unfold C5;rw[if_pos h,AV,hx];rfl
  rw[e]
  generalize G.labels[m]=x at hx
  have hxd:(G.labels.map dI)[m]? =some (.int .i64 x):=by rw[Ac,hx];rfl
  ((conv=>whnf);repeat' ((first|refine odw ?_|refine nx ?_|refine Aw (λ_=>?_) (λ_=>?_))<;>conv=>whnf))
  refine AI rfl (Io G m) ?_;rintro y rfl
  rw[JJ h.1 h.2]
  (repeat' ((first|refine Af ?_ ?_|refine A1 hxd rfl ?_|refine nx ?_|refine Aw (λ_=>?_) (λ_=>?_)|exact A0)<;>conv=>whnf))
  exact rfl
 ·have e:C5 G v=-1:=by unfold C5;rw[if_neg h]
  rw[e]
  ((conv=>whnf);repeat' ((first|refine odw ?_|refine nx ?_|refine Aw (λ_=>?_) (λ_=>?_))<;>conv=>whnf))
  refine AI rfl (Io G v) ?_;rintro y rfl
  rw[Ml h]
  ((conv=>whnf);repeat' ((first|refine odw ?_|refine nx ?_|refine Aw (λ_=>?_) (λ_=>?_))<;>conv=>whnf))
  exact rfl
def DU(E:List Edg)(id:Int):Da:=if 0<=id/\id<E.length then .tuple [dE ((E[id.toNat]?).getD ⟨0,0⟩),.bool true]else .tuple [dE ⟨0,0⟩,.bool false]
theorem Iu(G:Gr)(id:Int):Pure C1 190 [dG G,.int .i64 id] (λy=>y=DU G.edges id):=by
 refine AK Tryz.func190 Tryz.ntmps190 [] [] ?_
 by_cases h0:0<=id
 ·by_cases h1:id<G.edges.length
  ·obtain⟨m,rfl⟩:=Ax h0
   have hm:m<G.edges.length:=by omega
   have hx:=Aa hm
   have e:DU G.edges (m:Int)=.tuple [dE G.edges[m],.bool true]:=by unfold DU;rw[if_pos ⟨h0,h1⟩,AV,hx];rfl
   rw[e]
   generalize G.edges[m]=x at hx
   have hxd:(G.edges.map dE)[m]? =some (.agg [.int .i64 x.a,.int .i64 x.b]):=by rw[Ac,hx];rfl
   ((conv=>whnf);repeat' ((first|refine odw ?_|refine nx ?_|refine Aw (λ_=>?_) (λ_=>?_))<;>conv=>whnf))
   refine AI rfl (MP G) ?_;rintro y rfl
   (repeat' ((first|refine Af ?_ ?_|refine A1 hxd rfl ?_|refine nx ?_|refine Aw (λ_=>?_) (λ_=>?_)|exact A0)<;>conv=>whnf))
   exact rfl
  ·have e:DU G.edges id=.tuple [dE ⟨0,0⟩,.bool false]:=by unfold DU;rw[if_neg (by omega)]
   rw[e]
   ((conv=>whnf);repeat' ((first|refine odw ?_|refine nx ?_|refine Aw (λ_=>?_) (λ_=>?_))<;>conv=>whnf))
   refine AI rfl (MP G) ?_;rintro y rfl
   ((conv=>whnf);repeat' ((first|refine odw ?_|refine nx ?_|refine Aw (λ_=>?_) (λ_=>?_))<;>conv=>whnf))
   exact rfl
 ·have e:DU G.edges id=.tuple [dE ⟨0,0⟩,.bool false]:=by unfold DU;rw[if_neg (by omega)]
  rw[e]
  ((conv=>whnf);repeat' ((first|refine odw ?_|refine nx ?_|refine Aw (λ_=>?_) (λ_=>?_))<;>conv=>whnf))
  exact rfl
def iZ:List (Nat×Plan):=[(3,.leaf [0,0,0,1,0,0,0,1,0,0,1,0,0,0,1,0,0,0,1,0,2,0] [0,1,2,4,5,6,8,11,12,13,15,16,3,7,9,10,14,17,18,19,20,21] [0,1,3,7,0,16,48,112,0,496,1008,0,2048,6144,14336,0,32768,129024,260096,524287,1048575,2097151])]
def qH:List FuncId:=[60]
def JA(G:Gr)(v:Int):Da:=if 0<=v/\v<G.labels.length then AS (Du G.edges v.toNat)else .nils
theorem Kz {n v:Nat}(E:List Edg)(h:v<=n):((FB n E).map dI)[v]? =some (.int .i64 (off (FN E) v)):=by
 rw[Ac,FB,Ac,E2 (by omega)];rfl
theorem jS {n v:Nat}(E:List Edg)(h:v<n):(((Qk n E).map dI).take (off (FN E) (v+1))).drop (off (FN E) v)=(Du E v).map dI:=by
 rw[<-CW,<-GH,Qk,VT (Du E) (FN E) (λ_=>rfl) h]
theorem Nh(G:Gr)(hG:G.Ok)(v:Int):Pure C1 198 [dG G,.int .i64 v] (λy=>y=JA G v):=by
 refine AK Tryz.func198 Tryz.ntmps198 qH iZ ?_
 by_cases h:0<=v/\v<G.labels.length
 ·obtain⟨m,rfl⟩:=Ax h.1
  have hm:m<G.labels.length:=by omega
  have e:JA G (m:Int)=AS (Du G.edges m):=by unfold JA;rw[if_pos h,AV]
  rw[e]
  have hs:=hG.size
  have h1:=Kz G.edges (n:=G.labels.length) (v:=m) (by omega)
  have h2:=Kz G.edges (n:=G.labels.length) (v:=m+1) (by omega)
  ((conv=>whnf);repeat' ((first|refine odw ?_|refine nx ?_|refine Aw (λ_=>?_) (λ_=>?_))<;>conv=>whnf))
  refine AI rfl (Io G m) ?_;rintro y rfl
  rw[JJ h.1 h.2]
  (conv=>whnf)
  (repeat' ((first|refine Af ?_ ?_|refine A1 h1 rfl ?_|refine A1 h2 rfl ?_|refine nx ?_|refine Aw (λ_=>?_) (λ_=>?_)|exact A0)<;>conv=>whnf))
  refine⟨_,_,rfl,rfl,GR _ (by omega),?_,?_⟩
  ·rw[Ab,Qk,Vk (Du G.edges) (FN G.edges) (λ_=>rfl)];exact GR _ (by omega)
  rw[jS G.edges hm]
  (conv=>whnf)
  have hb:=QS G.edges m
  have hes:=hG.esize
  refine EX 29 rfl rfl (Ix (Du G.edges m) (by unfold FN at hb;omega)) ?_;rintro ds rfl
  ((conv=>whnf);repeat' ((first|refine odw ?_|refine nx ?_|refine Aw (λ_=>?_) (λ_=>?_))<;>conv=>whnf))
  exact rfl
 ·have e:JA G v=.nils:=by unfold JA;rw[if_neg h]
  rw[e]
  ((conv=>whnf);repeat' ((first|refine odw ?_|refine nx ?_|refine Aw (λ_=>?_) (λ_=>?_))<;>conv=>whnf))
  refine AI rfl (Io G v) ?_;rintro y rfl
  rw[Ml h]
  ((conv=>whnf);repeat' ((first|refine odw ?_|refine nx ?_|refine Aw (λ_=>?_) (λ_=>?_))<;>conv=>whnf))
  exact rfl
def Y8(G:Gr)(v:Int):Nat:=if 0<=v/\v<G.labels.length then FN G.edges v.toNat else 0
theorem Wl(G:Gr)(hG:G.Ok)(v:Int):Pure C1 229 [dG G,.int .i64 v] (λy=>y=.int .i64 (Y8 G v)):=by
 refine AK Tryz.func229 Tryz.ntmps229 [] [] ?_
 ((conv=>whnf);repeat' ((first|refine odw ?_|refine nx ?_|refine Aw (λ_=>?_) (λ_=>?_))<;>conv=>whnf))
 refine AI rfl (Nh G hG v) ?_;rintro y rfl
 by_cases h:0<=v/\v<G.labels.length
 ·have e:JA G v=AS (Du G.edges v.toNat):=by unfold JA;rw[if_pos h]
  have e2:Y8 G v=((Du G.edges v.toNat).map dI).length:=by unfold Y8;rw[if_pos h,Ab];rfl
  rw[e,e2]
  ((conv=>whnf);repeat' ((first|refine odw ?_|refine nx ?_|refine Aw (λ_=>?_) (λ_=>?_))<;>conv=>whnf))
  exact rfl
 ·have e:JA G v=.nils:=by unfold JA;rw[if_neg h]
  have e2:Y8 G v=0:=by unfold Y8;rw[if_neg h]
  rw[e,e2]
  ((conv=>whnf);repeat' ((first|refine odw ?_|refine nx ?_|refine Aw (λ_=>?_) (λ_=>?_))<;>conv=>whnf))
  exact rfl
end Go.Proofs.YtjejpdfldmempaaGreatDoor
end
section
namespace Go.Proofs.YtjejpdfldmempaaGreatDoor
open Go.Sx Go.RowKit Go.Reg Go.Gr
set_option maxRecDepth 100000
theorem Jn(l:List Int):Pure C1 161 [AS l] (λy=>y=.func (.func 222) [] [.ref (AS l)]):=by
 refine AK Tryz.func161 Tryz.ntmps161 [] [] ?_
 ((conv=>whnf);repeat' ((first|refine odw ?_|refine nx ?_|refine Aw (λ_=>?_) (λ_=>?_))<;>conv=>whnf))
 exact rfl
theorem Uw {l:List Int}(h:l.Pairwise (· < ·)):l.mergeSort (λx y=>decide (x<=y))=l:=
 List.mergeSort_of_pairwise (h.imp λh=>by simp;omega)
theorem Nu(E:List Edg)(v:Nat):(Gp E v).length=FN E v:=by
 rw[Gp,Ah,(Kx E v).1,(Kx E v).2,FN,Du,Ah]
theorem oY {n v:Nat}(E:List Edg)(h:v<n):(((Yq n E).map dI).take (off (FN E) (v+1))).drop (off (FN E) v)=(Gp E v).map dI:=by
 rw[<-CW,<-GH,Yq,VT (Gp E) (FN E) (Nu E) h]
def sS:List (Nat×Plan):=[(3,.leaf [0,0,0,1,0,0,0,1,0,0,1,0,0,0,1,0,0,0,1,0,2,2,0] [0,1,2,4,5,6,8,11,12,13,15,16,3,7,9,10,14,17,18,19,20,21,22] [0,1,3,7,0,16,48,112,0,496,1008,0,2048,6144,14336,0,32768,129024,260096,524287,1048575,2097151,4194303])]
def wB:List FuncId:=[161,160]
def tV(G:Gr)(v:Int):Da:=if 0<=v/\v<G.labels.length then AS (Lz G.edges v.toNat)else .nils
theorem pS(G:Gr)(hG:G.Ok)(v:Int):Pure C1 176 [dG G,.int .i64 v] (λy=>y=tV G v):=by
 refine AK Tryz.func176 Tryz.ntmps176 wB sS ?_
 by_cases h:0<=v/\v<G.labels.length
 ·obtain⟨m,rfl⟩:=Ax h.1
  have hm:m<G.labels.length:=by omega
  have e:tV G (m:Int)=AS (Gp G.edges m):=by unfold tV;rw[if_pos h,AV,oX hG]
  rw[e]
  have hs:=hG.size
  have h1:=Kz G.edges (n:=G.labels.length) (v:=m) (by omega)
  have h2:=Kz G.edges (n:=G.labels.length) (v:=m+1) (by omega)
  ((conv=>whnf);repeat' ((first|refine odw ?_|refine nx ?_|refine Aw (λ_=>?_) (λ_=>?_))<;>conv=>whnf))
  refine AI rfl (Io G m) ?_;rintro y rfl
  rw[JJ h.1 h.2]
  (conv=>whnf)
  (repeat' ((first|refine Af ?_ ?_|refine A1 h1 rfl ?_|refine A1 h2 rfl ?_|refine nx ?_|refine Aw (λ_=>?_) (λ_=>?_)|exact A0)<;>conv=>whnf))
  refine⟨_,_,rfl,rfl,GR _ (by omega),?_,?_⟩
  ·rw[Ab,Yq,Vk (Gp G.edges) (FN G.edges) (Nu G.edges)];exact GR _ (by omega)
  rw[oY G.edges hm]
  (conv=>whnf)
  have hb:=QS G.edges m
  have hes:=hG.esize
  refine AI rfl (Jn (Gp G.edges m)) ?_;rintro y rfl
  (conv=>whnf)
  refine AI rfl (Ux (Gp G.edges m) (by rw[Nu];omega)) ?_;rintro y rfl
  rw[Uw (VI hG m)]
  ((conv=>whnf);repeat' ((first|refine odw ?_|refine nx ?_|refine Aw (λ_=>?_) (λ_=>?_))<;>conv=>whnf))
  exact rfl
 ·have e:tV G v=.nils:=by unfold tV;rw[if_neg h]
  rw[e]
  ((conv=>whnf);repeat' ((first|refine odw ?_|refine nx ?_|refine Aw (λ_=>?_) (λ_=>?_))<;>conv=>whnf))
  refine AI rfl (Io G v) ?_;rintro y rfl
  rw[Ml h]
  ((conv=>whnf);repeat' ((first|refine odw ?_|refine nx ?_|refine Aw (λ_=>?_) (λ_=>?_))<;>conv=>whnf))
  exact rfl
end Go.Proofs.YtjejpdfldmempaaGreatDoor
end
section
namespace Go.Reg
open Go Go.RowKit Go.Sort Go.Proofs
section
variable {E:Nat} {w:World} {l:List Int} {g cap:Nat}
theorem Ir(l:List Int):l.flatMap (λn=>[Value.int .i64 n])=l.map (Value.int .i64):=by
 induction l with
 |nil=>rfl
 |cons x l ih=>simp[ih]
theorem Sl.holds1(h:Sl E 1 (λn:Int=>[Value.int .i64 n]) w (.slice (some ⟨g,0,none⟩) l.length cap) l):Go.Sort.Holds (Value.int .i64) w g 0 l.toArray:=by
 intro j hj
 have hj':j<l.length:=by simpa using hj
 have hx:l[j]? =some l.toArray[j]! :=by rw[getElem!_pos l.toArray j hj];simp[hj']
 have hc:=Sl.cells (enc:=λn:Int=>[Value.int .i64 n]) (k:=1) (λ_=>rfl) h rfl hx (j:=0) (u:=Value.int .i64 l.toArray[j]!) rfl
 refine⟨by simpa using hc,?_⟩
 rcases h.2 with⟨h1,_⟩|⟨g',cap',cur,h1,_,hg,_⟩
 ·cases h1
 ·cases h1
  simp[World.frozen?,hg]
theorem Sl.put1(h:Sl E 1 (λn:Int=>[Value.int .i64 n]) w (.slice (some ⟨g,0,none⟩) l.length cap) l)(d:Array Int)(hd:d.size=l.length)(m:Nat)(hm:m<=l.length)(q:Nat):
  Sl E 1 (λn:Int=>[Value.int .i64 n]) (putRow (Value.int .i64) (Sort.ahead w q) g 0 d) (.slice (some ⟨g,0,none⟩) m cap) (d.toList.take m)/\Tch [g] w (putRow (Value.int .i64) (Sort.ahead w q) g 0 d):=by
 have hlm:(d.toList.take m).length=m:=by rw[As,FQ];omega
 constructor
 ·unfold Sl
  rw[Ir]
  refine⟨by simp,?_⟩
  rcases h.2 with⟨h1,_⟩|⟨g',cap',cur,h1,h0,hg,hc,hmx,hs,ht⟩
  ·cases h1
  ·cases h1
   refine .inr ⟨g,cap,putCells (Value.int .i64) 0 d cur,by rw[hlm],Aj _,?_,by rw[hlm];omega,hmx,by simp[putCells,hs],?_⟩
   ·simp[putRow,mapBlock,Sort.ahead,Cp,hg,onCells]
   ·rw[hlm]
    apply Er
    intro t
    rw[Cv,Ac,Cv]
    split
    ·rename_i hlt
     have h1:t<cur.size:=by omega
     have h2:t<d.size:=by omega
     have h3:t<m:=by omega
     simp[putCells,h1,h2,h3]
    ·rename_i hlt
     have h3:¬t<m:=by omega
     simp[h3]
 ·refine⟨rfl,rfl,rfl,?_,?_⟩
  ·simp[putRow,mapBlock,Sort.ahead]
  ·intro j hj hn
   have hne:g≠j:=λe=>hn (by simp[e])
   simp[putRow,mapBlock,Sort.ahead,Cp,hne]
end
end Go.Reg
namespace Go.Proofs.YtjejpdfldmempaaGreatDoor
open Go.RowKit Go.Shelf Go.Sx Go.Reg Go.Sort Go.Gr Go.Proofs
set_option maxRecDepth 100000
theorem T9 {O:List Nat} {w:World}:∀{l:List Int} {css:List (List Value)},Am O w (l.map dI) css->css=l.map (λn=>[Value.int .i64 n])
 |[],css,h=>by simpa only[BI,Am]using h
 |
  e::l,css,h=>by
  simp only[Au,Am,dI,RepC]at h
  obtain⟨c1,c2,rfl,rfl,h⟩:=h
  rw[T9 h];rfl
theorem Pm {E:Nat} {w:World} {v:Value} {l:List Int}:Sl E 1 id w v (l.map λn=>[Value.int .i64 n])↔Sl E 1 (λn:Int=>[Value.int .i64 n]) w v l:=by
 unfold Sl
 rw[Ab,eX]
 exact Iff.rfl
theorem tP {f:FuncId} {l:List Int} {xs:List Da} {r:List Int} {vs:List Value}(hxs:∀(O:List Nat) (w:World) (us:List Value),I1 O w xs us->us=vs)(hrl:r.length<=l.length)
  (hrun:∀(us:Array Value) (w:World),(callFunc f us).run C1.P w=.ok (.enter f us) w)
  (hnil:l=[]->∀w:World,Calls C1.P f (.slice none 0 0::vs).toArray w λe w'=>e=.returned (.slice none 0 0)/\w'=w)
  (hmem:∀(g cap:Nat) (w:World),Go.Sort.Holds (Value.int .i64) w g 0 l.toArray->l.length<=cap->cap<=9223372036854775807->Calls C1.P f (.slice (some ⟨g,0,none⟩) l.length cap::vs).toArray w λe w'=>e=.returned (.slice (some ⟨g,0,none⟩) r.length cap)/\∃q,∃rest:List Int,r.length+rest.length=l.length/\w'=putRow (Value.int .i64) (Sort.ahead w q) g 0 (r++rest).toArray):
  Rk C1 f 3 1 (l.map dI) xs (λds=>ds=r.map dI):=by
 intro O w v css us hs hb hO hr hk hg hus
 obtain rfl:=hxs O w us hus
 obtain rfl:=T9 hr
 refine⟨hrun _ _,?_⟩
 have hs1:=Pm.1 hs
 rcases hs1.shape with⟨rfl,rfl⟩|⟨g,cap,rfl,hc⟩
 ·refine(hnil rfl w).mono ?_
  rintro e w' ⟨rfl,rfl⟩
  have:r=[]:=AF (by simpa using hrl)
  subst this
  exact⟨_,_,[],rfl,rfl,Sl.nil _ _ _ _,λb hb=>(by cases hb),by simp[Am],by simp,Tch.refl _ _⟩
 ·have hcm:cap<=9223372036854775807:=by
   rcases hs1.2 with⟨h1,_⟩|⟨g',cap',cur,h1,_,_,_,hm,_⟩
   ·cases h1
   ·cases h1;unfold maxLen at hm;omega
  refine(hmem g cap w hs1.holds1 hc hcm).mono ?_
  rintro e w' ⟨rfl,q,rest,hrl2,rfl⟩
  obtain⟨h1,h2⟩:=hs1.put1 (r++rest).toArray (by simp;omega) r.length hrl q
  have ht:(r++rest).toArray.toList.take r.length=r:=by simp
  rw[ht]at h1
  exact⟨_,_,r.map λn=>[Value.int .i64 n],rfl,rfl,Pm.2 h1,λb hb=>.inl hb,Mx r,TM r,h2⟩
theorem UM {O:List Nat} {w:World} {us:List Value}(h:I1 O w [] us):us=[]:=ER h
theorem JW(l:List Int):(Lib.compact l).length<=l.length:=by
 unfold Lib.compact Lib.compactUpTo
 rw[Ab]
 have:=Co (Lib.keeps l.toArray) (List.range l.length)
 rwa [Bv]at this
theorem O8(l:List Int)(hl:l.length<=9223372036854775807):Rk C1 241 3 1 (l.map dI) [] (λds=>ds=(Lib.compact l).map dI):=
 tP (vs:=[]) (λO w us h=>UM h) (JW l) (λus w=>enters_of Tryz.func241 (by kernel_rfl) rfl us w)
  (λ_ w=>AnyG.slices_Compact_int_empty Tryz.compactI none 0 w)
  (λg cap w hH hc hm=>(AnyG.slices_Compact_int Tryz.compactI g 0 cap l w hH hl hc).mono λe w' ⟨h1,q,h2⟩=>⟨h1,q,List.replicate (l.length- (Lib.compact l).length) 0,by have:=JW l;simp;omega,h2⟩)
end Go.Proofs.YtjejpdfldmempaaGreatDoor
namespace Go.Gr
open Go.Lib in
theorem Wn(d:Array Int)(hd:∀i j,i<=j->j<d.size->d[i]! <=d[j]!):∀m,m<=d.size->(compactUpTo d m).Pairwise (· < ·)/\∀x,x∈compactUpTo d m↔∃j,j<m/\x=d[j]! :=by
 intro m
 induction m with
 |zero=>intro _;simp[compactUpTo]
 |
  succ m ih=>
  intro hm
  obtain⟨h1,h2⟩:=ih (by omega)
  rw[compactUpTo_succ]
  cases hk:keeps d m with
  |
   true=>
   rw[if_pos rfl]
   refine⟨Ct.2 ⟨h1,by simp,λa ha b hb=>?_⟩,λx=>?_⟩
   ·simp only[AA]at hb
    subst hb
    obtain⟨j,hj,rfl⟩:=(h2 a).1 ha
    simp only[keeps,decide_eq_true_eq]at hk
    have g1:=hd j (m-1) (by omega) (by omega)
    have g2:=hd (m-1) m (by omega) (by omega)
    have:d[m]! ≠d[m-1]! :=hk.resolve_left (by omega)
    omega
   ·rw[Ag,h2,AA]
    constructor
    ·rintro(⟨j,hj,rfl⟩|rfl)
     ·exact⟨j,by omega,rfl⟩
     ·exact⟨m,by omega,rfl⟩
    ·rintro⟨j,hj,rfl⟩
     by_cases e:j=m
     ·subst e;exact .inr rfl
     ·exact .inl ⟨j,by omega,rfl⟩
  |
   false=>
   simp only[Cn,if_false,Cc]
   refine⟨h1,λx=>?_⟩
   rw[h2]
   simp only[keeps,decide_eq_false_iff_not,not_or,Classical.not_not]at hk
   constructor
   ·rintro⟨j,hj,rfl⟩;exact⟨j,by omega,rfl⟩
   ·rintro⟨j,hj,rfl⟩
    by_cases e:j=m
    ·subst e;exact⟨j-1,by omega,hk.2⟩
    ·exact⟨j,by omega,rfl⟩
def Cw(l:List Int):List Int:=Lib.compact (l.mergeSort λx y=>decide (x<=y))
theorem Ba(l:List Int):(Cw l).Pairwise (· < ·)/\∀x,x∈Cw l↔x∈l:=by
 have hp:=List.mergeSort_perm l λx y=>decide (x<=y)
 have hs:(l.mergeSort λx y=>decide (x<=y)).Pairwise (λx y=>decide (x<=y)=true):=List.pairwise_mergeSort (by intro a b c;simp;omega) (by intro a b;simp;omega) l
 generalize hz:(l.mergeSort λx y=>decide (x<=y))=z at hp hs
 have hd:∀i j,i<=j->j<z.toArray.size->z.toArray[i]! <=z.toArray[j]! :=by
  intro i j hij hj
  have hj':j<z.length:=by simpa using hj
  rw[getElem!_pos z.toArray j hj,getElem!_pos z.toArray i (by omega)]
  by_cases e:i=j
  ·subst e;exact Int.le_refl _
  ·have:=AH.1 hs i j (by omega) hj' (by omega)
   simpa using this
 obtain⟨h1,h2⟩:=Wn z.toArray hd z.length (by simp)
 unfold Cw Lib.compact
 rw[hz]
 refine⟨h1,λx=>?_⟩
 rw[h2,<-hp.mem_iff,BX]
 constructor
 ·rintro⟨j,hj,rfl⟩
  refine⟨j,hj,?_⟩
  rw[getElem!_pos z.toArray j (by simpa using hj)];simp
 ·rintro⟨j,hj,rfl⟩
  refine⟨j,hj,?_⟩
  rw[getElem!_pos z.toArray j (by simpa using hj)];simp
end Go.Gr
namespace Go.Proofs.YtjejpdfldmempaaGreatDoor
open Go.Sx Go.RowKit Go.Reg Go.Gr
set_option maxRecDepth 100000
theorem G9(l:List Int):(Cw l).length<=l.length:=by
 have:=JW (l.mergeSort λx y=>decide (x<=y))
 rwa [MC]at this
theorem Pf(l:List Int)(hl:l.length<=4294967296):Pure C1 200 [AS l] (λy=>y=AS (Cw l)):=by
 refine AK Tryz.func200 Tryz.ntmps200 [] [] ?_
 (conv=>whnf)
 (repeat' ((first|refine Af ?_ ?_|refine Ad rfl (Jn l) ?_|refine nx ?_|refine Aw (λ_=>?_) (λ_=>?_)|exact A0)<;>conv=>whnf))
 refine EX 29 rfl rfl (Oe l hl) ?_;rintro ds rfl
 (conv=>whnf)
 refine Wu rfl rfl (O8 (l.mergeSort λx y=>decide (x<=y)) (by rw[MC];omega)) ?_;rintro ds rfl
 ((conv=>whnf);repeat' ((first|refine odw ?_|refine nx ?_|refine Aw (λ_=>?_) (λ_=>?_))<;>conv=>whnf))
 exact rfl
end Go.Proofs.YtjejpdfldmempaaGreatDoor
end
section
namespace Go.Gr
def FW:List Int->List Edg
 |[]=>[]
 |a::l=>l.map (λb=>⟨a,b⟩)++FW l
theorem Lj:∀{l:List Int},l.Pairwise (· < ·)->∀{e:Edg},e∈FW l↔e.a∈l/\e.b∈l/\e.a<e.b
 |[],_,e=>by simp[FW]
 |
  x::l,h,e=>by
  have g:=BA.1 h
  simp only[FW,Ag,Ar,Lj g.2,An]
  constructor
  ·rintro(⟨b,hb,rfl⟩|⟨h1,h2,h3⟩)
   ·exact⟨.inl rfl,.inr hb,g.1 b hb⟩
   ·exact⟨.inr h1,.inr h2,h3⟩
  ·rintro⟨h1|h1,h2|h2,h3⟩
   ·omega
   ·exact .inl ⟨e.b,h2,by cases e;simp_all⟩
   ·have:=g.1 _ h1;omega
   ·exact .inr ⟨h1,h2,h3⟩
theorem LY:∀{l:List Int},l.Pairwise (· < ·)->(FW l).Nodup
 |[],_=>by simp[FW]
 |
  x::l,h=>by
  have g:=BA.1 h
  simp only[FW]
  rw[Dn]
  refine⟨?_,LY g.2,?_⟩
  ·have hn:l.Nodup:=g.2.imp (λh=>by omega)
   unfold List.Nodup
   rw[B6]
   exact hn.imp λh e=>h (by cases e;rfl)
  ·intro a ha b hb e
   subst e
   obtain⟨y,hy,rfl⟩:=Ar.1 ha
   have:=(Lj g.2).1 hb
   have:=g.1 _ this.1
   simp only at this
   omega
def IK(d:Nat):Nat:=d*(d-1)/2
theorem Vb(d:Nat):IK (d+1)=d+IK d:=by
 unfold IK
 cases d with
 |zero=>rfl
 |
  succ d=>
  simp only[TU]
  have h:(d+1+1)*(d+1)=(d+1)*2+(d+1)*d:=by
   rw[<-Nat.mul_add,lY,Nat.add_comm 2 d]
  rw[h,Nat.add_comm,Nat.add_mul_div_right _ _ (by omega)]
  omega
theorem IL:∀l:List Int,(FW l).length=IK l.length
 |[]=>rfl
 |
  x::l=>by
  simp only[FW,Ah,Ab,IL l,A4,Vb]
theorem KF:∀{l1 l2:List Edg},Cl l1->Cl l2->(∀x,x∈l1↔x∈l2)->l1=l2:=by
 intro l1 l2 h1 h2 h
 refine MN ?_ h1 h2
 have n1:=h1.nodup
 have n2:=h2.nodup
 exact(TW n1 n2).2 h
def tch(E:List Edg)(i j:Nat):Bool:=match E[i]?,E[j]? with
 |some x,some y=>decide (i≠j)&&(decide (x.a=y.a)||decide (x.a=y.b)||decide (x.b=y.a)||decide (x.b=y.b))
 |_,_=>false
def K8(E:List Edg)(a k:Nat):List Edg:=((List.range k).filter (λb:Nat=>decide (a<b)&&tch E a b)).map λb:Nat=>⟨(a:Int),(b:Int)⟩
def Fp(E:List Edg)(k:Nat):List Edg:=(List.range k).flatMap λa=>K8 E a E.length
theorem aX(E:List Edg)(a k:Nat):K8 E a (k+1)=K8 E a k++(if a<k/\tch E a k=true then[⟨(a:Int),(k:Int)⟩]else[]):=by
 unfold K8
 rw[BN,BJ,Ay]
 congr 1
 by_cases h:a<k<;>cases ht:tch E a k<;>simp[h,ht]
theorem Xw(E:List Edg)(a:Nat):K8 E a (a+1)=[]:=by
 unfold K8
 have:(List.range (a+1)).filter (λb:Nat=>decide (a<b)&&tch E a b)=[]:=by
  rw[lZ]
  intro b hb
  have:=AJ.1 hb
  have h:¬a<b:=by omega
  simp[h]
 rw[this];rfl
theorem KV(E:List Edg)(k:Nat):Fp E (k+1)=Fp E k++K8 E k E.length:=by
 simp[Fp,BN]
theorem Vv {E:List Edg} {a k:Nat} {e:Edg}:e∈K8 E a k↔∃b:Nat,b<k/\a<b/\tch E a b=true/\e=⟨(a:Int),(b:Int)⟩:=by
 simp only[K8,Ar,A5,AJ,Ai,decide_eq_true_eq]
 constructor
 ·rintro⟨b,⟨h1,h2,h3⟩,rfl⟩;exact⟨b,h1,h2,h3,rfl⟩
 ·rintro⟨b,h1,h2,h3,rfl⟩;exact⟨b,⟨h1,h2,h3⟩,rfl⟩
theorem Ku {E:List Edg} {k:Nat} {e:Edg}:e∈Fp E k↔∃a b:Nat,a<k/\b<E.length/\a<b/\tch E a b=true/\e=⟨(a:Int),(b:Int)⟩:=by
 simp only[Fp,AG,AJ,Vv]
 constructor
 ·rintro⟨a,ha,b,h1,h2,h3,rfl⟩;exact⟨a,b,ha,h1,h2,h3,rfl⟩
 ·rintro⟨a,b,ha,h1,h2,h3,rfl⟩;exact⟨a,ha,b,h1,h2,h3,rfl⟩
theorem UC(E:List Edg)(a k:Nat):Cl (K8 E a k):=by
 unfold K8 Cl
 rw[B6]
 refine(List.pairwise_lt_range.filter _).imp λh=>?_
 rw[Eh]
 exact .inr ⟨rfl,Int.ofNat_lt.2 h⟩
theorem SR(E:List Edg)(k:Nat):Cl (Fp E k):=by
 induction k with
 |zero=>exact List.Pairwise.nil
 |
  succ k ih=>
  rw[KV]
  unfold Cl
  rw[Ct]
  refine⟨ih,UC _ _ _,λx hx y hy=>?_⟩
  obtain⟨a,b,h1,h2,h3,h4,rfl⟩:=Ku.1 hx
  obtain⟨c,h5,h6,h7,rfl⟩:=Vv.1 hy
  rw[Eh];simp only;omega
theorem Zv {E:List Edg} {v:Nat} {x:Int}:x∈Lz E v↔∃(i:Nat) (e:Edg),x=(i:Int)/\E[i]? =some e/\(e.a=v\/e.b=v):=by
 simp only[Lz,Ar,A5,decide_eq_true_eq]
 constructor
 ·rintro⟨p,⟨h1,h2⟩,rfl⟩
  exact⟨p.2,p.1,rfl,Ri.1 h1,h2⟩
 ·rintro⟨i,e,rfl,h1,h2⟩
  exact⟨(e,i),⟨Ri.2 h1,h2⟩,rfl⟩
theorem W5(E:List Edg)(v:Nat):(Lz E v).Pairwise (· < ·):=Ho _ _
def BS(E:List Edg)(n:Nat):List Edg:=(List.range n).flatMap λv=>FW (Lz E v)
theorem Eg(E:List Edg)(n:Nat):BS E (n+1)=BS E n++FW (Lz E n):=by simp[BS,BN]
theorem HJ {E:List Edg} {v:Nat} {e:Edg}:e∈FW (Lz E v)↔∃(i j:Nat) (x y:Edg),e=⟨(i:Int),(j:Int)⟩/\i<j/\E[i]? =some x/\E[j]? =some y/\(x.a=v\/x.b=v)/\(y.a=v\/y.b=v):=by
 rw[Lj (W5 E v),Zv,Zv]
 constructor
 ·rintro⟨⟨i,x,h1,h2,h3⟩,⟨j,y,h4,h5,h6⟩,h7⟩
  exact⟨i,j,x,y,by cases e;simp_all,by omega,h2,h5,h3,h6⟩
 ·rintro⟨i,j,x,y,rfl,h1,h2,h3,h4,h5⟩
  exact⟨⟨i,x,rfl,h2,h4⟩,⟨j,y,rfl,h3,h5⟩,by simp only;omega⟩
theorem bZ {G:Gr}(h:G.Ok) {i j:Nat} {x y:Edg}(hi:G.edges[i]? =some x)(hj:G.edges[j]? =some y)(hij:i<j) {u v:Nat}(h1:x.a=u\/x.b=u)(h2:y.a=u\/y.b=u)(h3:x.a=v\/x.b=v)(h4:y.a=v\/y.b=v):u=v:=by
 obtain⟨l1,e1⟩:=Ae.1 hi
 obtain⟨l2,e2⟩:=Ae.1 hj
 have hs:=AH.1 h.sorted i j l1 l2 hij
 rw[e1,e2,Eh]at hs
 have hx:=h.edge x (AB hi)
 have hy:=h.edge y (AB hj)
 omega
theorem KM {G:Gr}(h:G.Ok)(n:Nat):(BS G.edges n).Nodup:=by
 induction n with
 |zero=>simp[BS]
 |
  succ n ih=>
  rw[Eg,Dn]
  refine⟨ih,LY (W5 _ _),λa ha b hb e=>?_⟩
  subst e
  simp only[BS,AG,AJ]at ha
  obtain⟨v,hv,ha⟩:=ha
  obtain⟨i,j,x,y,rfl,h1,h2,h3,h4,h5⟩:=HJ.1 ha
  obtain⟨i',j',x',y',he,h1',h2',h3',h4',h5'⟩:=HJ.1 hb
  simp only[Edg.mk.injEq,mY]at he
  obtain⟨rfl,rfl⟩:=he
  rw[h2]at h2';rw[h3]at h3'
  cases h2';cases h3'
  have:=bZ h h2 h3 h1 h4 h5 h4' h5'
  omega
theorem Ov {G:Gr}(h:G.Ok) {e:Edg}:e∈BS G.edges G.labels.length↔e∈Fp G.edges G.edges.length:=by
 simp only[BS,AG,AJ,HJ,Ku]
 constructor
 ·rintro⟨v,hv,i,j,x,y,rfl,h1,h2,h3,h4,h5⟩
  have l1:=(Ae.1 h2).1
  have l2:=(Ae.1 h3).1
  refine⟨i,j,l1,l2,h1,?_,rfl⟩
  unfold tch
  rw[h2,h3]
  have:i≠j:=by omega
  simp only[this,ne_eq,not_false_eq_true,decide_true,FE,CA,decide_eq_true_eq]
  omega
 ·rintro⟨i,j,l1,l2,h1,ht,rfl⟩
  unfold tch at ht
  have hx:=Aa l1
  have hy:=Aa l2
  rw[hx,hy]at ht
  simp only[Ai,CA,decide_eq_true_eq]at ht
  have ex:=h.edge _ (AL l1)
  have ey:=h.edge _ (AL l2)
  generalize G.edges[i]=x at*
  generalize G.edges[j]=y at*
  have key:∀v:Int,0<=v->v<G.labels.length->(x.a=v\/x.b=v)->(y.a=v\/y.b=v)->∃a:Nat,a<G.labels.length/\∃(i_1 j_1:Nat) (x y:Edg),(⟨(i:Int),(j:Int)⟩:Edg)=⟨(i_1:Int),(j_1:Int)⟩/\i_1<j_1/\G.edges[i_1]? =some x/\G.edges[j_1]? =some y/\(x.a=(a:Int)\/x.b=(a:Int))/\(y.a=(a:Int)\/y.b=(a:Int)):=by
   intro v h0 hn g1 g2
   obtain⟨m,rfl⟩:=Ax h0
   exact⟨m,by omega,i,j,x,y,rfl,h1,hx,hy,g1,g2⟩
  obtain⟨_,((h|h)|h)|h⟩:=ht
  ·exact key x.a (by omega) (by omega) (.inl rfl) (.inl h.symm)
  ·exact key x.a (by omega) (by omega) (.inl rfl) (.inr h.symm)
  ·exact key x.b (by omega) (by omega) (.inr rfl) (.inl h.symm)
  ·exact key x.b (by omega) (by omega) (.inr rfl) (.inr h.symm)
theorem Li {G:Gr}(h:G.Ok) {e:Edg}(he:e∈BS G.edges G.labels.length):0<=e.a/\e.a<e.b/\e.b<G.edges.length:=by
 rw[Ov h,Ku]at he
 obtain⟨i,j,h1,h2,h3,_,rfl⟩:=he
 exact⟨by simp only;omega,by simp only;omega,by simp only;omega⟩
theorem Ow {l:List Edg}(h:∀e∈l,e.a<=e.b):l.map turn=l:=by
 induction l with
 |nil=>rfl
 |cons e l ih=>rw[Au,I7 (h e (by simp)),ih λx hx=>h x (by simp[hx])]
theorem Mf {G:Gr}(h:G.Ok)(hm:G.edges.length<=4096)(hp:(BS G.edges G.labels.length).length<=16384):Dt (List.replicate G.edges.length 0) (BS G.edges G.labels.length)=none:=by
 refine Hu (by rw[Bu];omega) (λx hx=>by rw[(List.mem_replicate.1 hx).2];rfl) λj hj=>?_
 unfold C7
 rw[Aa hj]
 simp only[Hc,Bu]
 have he:=Li h (AL hj)
 have hnd:=KM h G.labels.length
 have hmt:((BS G.edges G.labels.length).take j).map turn=(BS G.edges G.labels.length).take j:=Ow λe he=>by
  have:=Li h (Ek he);omega
 rw[hmt]
 have hnot:turn (BS G.edges G.labels.length)[j]∉(BS G.edges G.labels.length).take j:=by
  rw[I7 (by omega)]
  intro hmem
  obtain⟨k,hk,e⟩:=AQ.1 hmem
  have h2:=(AH.1 hnd) k j (by omega) hj (by omega)
  exact h2 e
 rw[if_neg (by omega),if_neg (by omega),if_neg hnot]
theorem Oz {G:Gr}(h:G.Ok):FC (BS G.edges G.labels.length)=Fp G.edges G.edges.length:=by
 have hmt:(BS G.edges G.labels.length).map turn=BS G.edges G.labels.length:=Ow λe he=>by
  have:=Li h he;omega
 refine KF ?_ (SR _ _) λx=>?_
 ·refine Kl ((Gc _).nodup_iff.2 ?_) (Jb _)
  rw[hmt];exact KM h _
 ·rw[(Gc _).mem_iff,hmt,Ov h]
theorem pU(E:List Edg)(v:Nat)(h:∀e∈E,e.a≠e.b):(Lz E v).length=FN E v:=by
 have key:∀(E:List Edg),(∀e∈E,e.a≠e.b)->∀k,((E.zipIdx k).filter λp=>decide (p.1.a=(v:Int)\/p.1.b=(v:Int))).length=(Eu E v).length+(DT E v).length:=by
  intro E
  induction E with
  |nil=>intro _ k;rfl
  |
   cons e E ih=>
   intro h k
   have:=ih (λx hx=>h x (by simp[hx])) (k+1)
   have hne:=h e (by simp)
   simp only[NW,NX,Eu,DT]at this⊢
   by_cases h1:e.a=(v:Int)<;>by_cases h2:e.b=(v:Int)
   ·omega
   ·have e1:(decide (e.a=(v:Int)\/e.b=(v:Int)))=true:=by simp[h1]
    rw[e1];simp only[h1,h2,decide_true,decide_false,if_true,if_false,A4,Au,Cn];omega
   ·have e1:(decide (e.a=(v:Int)\/e.b=(v:Int)))=true:=by simp[h2]
    rw[e1];simp only[h1,h2,decide_true,decide_false,if_true,if_false,A4,Au,Cn];omega
   ·have e1:(decide (e.a=(v:Int)\/e.b=(v:Int)))=false:=by simp[h1,h2]
    rw[e1];simp only[h1,h2,decide_false,if_false,Cn];omega
 unfold Lz FN Du
 rw[Ab,Ah]
 exact key E h 0
end Go.Gr
end
