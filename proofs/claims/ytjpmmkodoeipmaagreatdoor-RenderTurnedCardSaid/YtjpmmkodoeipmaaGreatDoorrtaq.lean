/- Merged: Gra Grc Pta Grp Gri Grd Fal Ptc. -/
import Derived.Test.YtjpmmkodoeipmaaGreatDoorrtaf
import Derived.Test.YtjpmmkodoeipmaaGreatDoorrtap
section
namespace Go.Gr
structure Edg where
 a:Int
 b:Int
 deriving DecidableEq
def turn(e:Edg):Edg:=⟨min e.a e.b,max e.a e.b⟩
def De(a b:Int):Int:=if a<b then-1 else if b<a then 1 else 0
def C2(x y:Edg):Int:=if De x.a y.a≠0 then De x.a y.a else De x.b y.b
theorem NH(a b:Int):De a b<0↔a<b:=by unfold De;split<;>first|omega|(split<;>omega)
theorem JG(a b:Int):De a b=0↔a=b:=by unfold De;split<;>first|omega|(split<;>omega)
theorem tU(a b:Int):De b a=-De a b:=by unfold De;split<;>split<;>first|omega|(split<;>omega)
theorem F3(x y:Edg):C2 x y<0↔x.a<y.a\/(x.a=y.a/\x.b<y.b):=by
 unfold C2
 have h1:=NH x.a y.a
 have h2:=JG x.a y.a
 have h3:=NH x.b y.b
 split<;>omega
theorem YB(x y:Edg):C2 x y=0↔x=y:=by
 unfold C2
 have h2:=JG x.a y.a
 have h3:=JG x.b y.b
 constructor
 ·intro h
  split at h
  ·omega
  ·cases x;cases y;simp_all
 ·rintro rfl
  rw[if_neg (by omega)];omega
theorem Q4(x y:Edg):C2 x y<0\/x=y\/C2 y x<0:=by
 rw[F3,F3]
 by_cases h:x=y
 ·exact .inr (.inl h)
 ·have:¬(x.a=y.a/\x.b=y.b):=λ⟨h1,h2⟩=>h (by cases x;cases y;simp_all)
  omega
theorem GO {x y z:Edg}(h1:C2 x y<0)(h2:C2 y z<0):C2 x z<0:=by
 rw[F3]at*;omega
theorem dQ(x:Edg):¬C2 x x<0:=by rw[F3];omega
theorem RF {x y:Edg}(h:C2 x y<0):¬C2 y x<0:=by rw[F3]at*;omega
theorem VW(e:Edg):turn (turn e)=turn e:=by unfold turn;simp only[Edg.mk.injEq];omega
theorem Ig(a b:Int):turn ⟨a,b⟩=turn ⟨b,a⟩:=by unfold turn;simp only[Edg.mk.injEq];omega
theorem J2 {e:Edg}(h:e.a<=e.b):turn e=e:=by cases e;unfold turn;simp only[Edg.mk.injEq]at*;omega
theorem Qs {α β:Type} {l:List α} {f g:α->List β}(h:∀x∈l,f x=g x):l.flatMap f=l.flatMap g:=by
 induction l with
 |nil=>rfl
 |cons x l ih=>rw[BE,BE,h x (by simp),ih (λy hy=>h y (by simp[hy]))]
def CC(l:List Edg):Prop:=l.Pairwise (λx y=>C2 x y<0)
theorem Kc:∀{l1 l2:List Edg},l1.Perm l2->CC l1->CC l2->l1=l2
 |[],l2,hp,_,_=>(List.nil_perm.1 hp).symm
 |x::l1,[],hp,_,_=>by simp at hp
 |
  x::l1,y::l2,hp,h1,h2=>by
  have g1:=Cl.1 h1
  have g2:=Cl.1 h2
  have hxy:x=y:=by
   have hx:x∈y::l2:=hp.mem_iff.1 (by simp)
   have hy:y∈x::l1:=hp.mem_iff.2 (by simp)
   rcases Ai.1 hx with h|h
   ·exact h
   ·rcases Ai.1 hy with h'|h'
    ·exact h'.symm
    ·exact absurd (g2.1 x h) (RF (g1.1 y h'))
  subst hxy
  rw[Kc (List.Perm.cons_inv hp) g1.2 g2.2]
theorem Kb {l:List Edg}(hn:l.Nodup)(h:l.Pairwise (λx y=>¬C2 y x<0)):CC l:=by
 refine(hn.and h).imp ?_
 rintro x y ⟨h1,h2⟩
 rcases Q4 x y with h|h|h
 ·exact h
 ·exact absurd h h1
 ·exact absurd h h2
theorem CC.nodup {l:List Edg}(h:CC l):l.Nodup:=h.imp λh e=>by subst e;exact dQ _ h
def RN(n:Nat)(R:Nat->List Int)(D:Nat->Nat):List Int:=(List.range n).flatMap λv=>R v++List.replicate (D v- (R v).length) 0
def off(D:Nat->Nat):Nat->Nat
 |0=>0
 |v+1=>off D v+D v
theorem Je(D:Nat->Nat) {v n:Nat}(h:v<=n):off D v<=off D n:=by
 induction n with
 |zero=>
           have:v=0:=by omega
           subst this;exact Ay _
 |
  succ n ih=>
  rcases BN v (n+1)with h1|h1
  ·have:=ih (by omega);simp only[off];omega
  ·have:v=n+1:=by omega
   subst this;exact Ay _
theorem Q9(n:Nat)(R:Nat->List Int)(D:Nat->Nat):RN (n+1) R D=RN n R D++(R n++List.replicate (D n- (R n).length) 0):=by
 simp[RN,CR]
theorem YF {n:Nat} {R:Nat->List Int} {D:Nat->Nat}(h:∀v,(R v).length<=D v):(RN n R D).length=off D n:=by
 induction n with
 |zero=>rfl
 |
  succ n ih=>
  have:=h n
  rw[Q9,Ah,ih]
  simp[off];omega
def more(R:Nat->List Int)(v:Nat)(u:Int):Nat->List Int:=λw=>if w=v then R v++[u]else R w
theorem oG {n v:Nat} {R:Nat->List Int} {D:Nat->Nat}(u:Int)(h:∀v,(R v).length<=D v)(hv:v<n)(hr:(R v).length<D v):(RN n R D).set (off D v+(R v).length) u=RN n (more R v u) D:=by
 induction n with
 |zero=>omega
 |
  succ n ih=>
  rw[Q9,Q9]
  have hl:=YF (n:=n) h
  by_cases hvn:v<n
  ·have h1:off D v+(R v).length<(RN n R D).length:=by
    have:=Je D (show v+1<=n by omega)
    simp only[off]at this
    omega
   rw[List.set_append_left _ _ h1,ih hvn]
   have hne:¬n=v:=by omega
   simp[more,hne]
  ·have hvn':v=n:=by omega
   subst hvn'
   rw[Ju _ _ (by omega),hl,Nat.add_sub_cancel_left]
   have hsame:RN v (more R v u) D=RN v R D:=by
    unfold RN
    refine Qs λw hw=>?_
    have:¬w=v:=by have:=AN.1 hw;omega
    simp[more,this]
   rw[hsame]
   congr 1
   have hd:D v- (R v).length=(D v- (R v).length-1)+1:=by omega
   rw[Ju _ _ (Ay _),Dy,hd,List.replicate_succ,List.set_cons_zero]
   have hm:more R v u v=R v++[u]:=by simp[more]
   rw[hm,Ah,B8,Bk,show D v- ((R v).length+1)=D v- (R v).length-1 by omega]
   rfl
theorem eH {n:Nat} {R:Nat->List Int} {D:Nat->Nat}(h:∀v,v<n->(R v).length=D v):RN n R D=(List.range n).flatMap R:=by
 unfold RN
 refine Qs λw hw=>?_
 rw[h w (AN.1 hw)];simp
theorem map_set {α:Type}(m k:Nat)(f:Nat->α)(x:α):((List.range m).map f).set k x=(List.range m).map (λv=>if v=k then x else f v):=by
 apply BY
 intro i
 rw[Be]
 simp only[Ac,Dt,Ad]
 by_cases hi:i<m
 ·rw[Df hi]
  by_cases e:k=i
  ·subst e;simp[hi]
  ·have:¬i=k:=λh=>e h.symm
   simp[e,this]
 ·have h1:(List.range m)[i]? =none:=by simp;omega
  rw[h1]
  by_cases e:k=i
  ·subst e;simp[hi]
  ·simp[e]
theorem Yl {α:Type} {m v:Nat}(f:Nat->α)(h:v<m):((List.range m).map f)[v]? =some (f v):=by simp[h]
def FM(E:List Edg)(v:Nat):List Int:=(E.filter λe=>decide (e.b=(v:Int))).map (·.a)
def Fb(E:List Edg)(v:Nat):List Int:=(E.filter λe=>decide (e.a=(v:Int))).map (·.b)
def Ep(E:List Edg)(v:Nat):List Int:=FM E v++Fb E v
def Ia(E:List Edg)(v:Nat):List Int:=(E.zipIdx.filter λp=>decide (p.1.b=(v:Int))).map λp=>(p.2:Int)
def GJ(E:List Edg)(v:Nat):List Int:=(E.zipIdx.filter λp=>decide (p.1.a=(v:Int))).map λp=>(p.2:Int)
def Ip(E:List Edg)(v:Nat):List Int:=Ia E v++GJ E v
def Hy(E:List Edg)(v:Nat):Nat:=(Ep E v).length
theorem bK(E:List Edg)(e:Edg)(v:Nat):Ia (E++[e]) v=Ia E v++(if e.b=v then[(E.length:Int)]else[])/\GJ (E++[e]) v=GJ E v++(if e.a=v then[(E.length:Int)]else[]):=by
 unfold Ia GJ
 rw[List.zipIdx_append]
 constructor
 ·simp only[List.zipIdx_singleton,Cd,A7]
  congr 1
  by_cases h:e.b=v<;>simp[h]
 ·simp only[List.zipIdx_singleton,Cd,A7]
  congr 1
  by_cases h:e.a=v<;>simp[h]
theorem N3(E:List Edg)(e:Edg)(v:Nat):FM (E++[e]) v=FM E v++(if e.b=v then[e.a]else[])/\Fb (E++[e]) v=Fb E v++(if e.a=v then[e.b]else[]):=by
 unfold FM Fb
 constructor
 ·simp only[Cd,A7]
  congr 1
  by_cases h:e.b=v<;>simp[h]
 ·simp only[Cd,A7]
  congr 1
  by_cases h:e.a=v<;>simp[h]
theorem N9(E:List Edg)(v:Nat):(Ia E v).length=(FM E v).length/\(GJ E v).length=(Fb E v).length:=by
 have key:∀(f:Edg->Bool) (E:List Edg) (k:Nat),((E.zipIdx k).filter λp=>f p.1).length=(E.filter f).length:=by
  intro f E
  induction E with
  |nil=>intro k;rfl
  |
   cons e E ih=>
   intro k
   simp only[RT,KJ]
   split<;>simp[ih]
 unfold Ia FM GJ Fb
 simp only[Ac]
 exact⟨key (λe=>decide (e.b=(v:Int))) E 0,key (λe=>decide (e.a=(v:Int))) E 0⟩
theorem cW(E:List Edg)(e:Edg)(v:Nat):Hy (E++[e]) v=Hy E v+(if e.b=v then 1 else 0)+(if e.a=v then 1 else 0):=by
 unfold Hy Ep
 rw[(N3 E e v).1,(N3 E e v).2]
 simp only[Ah]
 split<;>split<;>simp<;>omega
theorem SY(E:List Edg)(n:Nat)(h:∀e∈E,0<=e.a/\e.a<n/\0<=e.b/\e.b<n):off (Hy E) n=2*E.length:=by
 have step:∀(E:List Edg) (e:Edg) (m:Nat),off (Hy (E++[e])) m=off (Hy E) m+(if 0<=e.b/\e.b<m then 1 else 0)+(if 0<=e.a/\e.a<m then 1 else 0):=by
  intro E e m
  induction m with
  |zero=>simp only[off];rw[if_neg (by omega),if_neg (by omega)]
  |
   succ m ih=>
   simp only[off,ih,cW]
   by_cases h1:e.b=(m:Int)<;>by_cases h2:e.a=(m:Int)<;>by_cases h3:(0<=e.b/\e.b<(m:Int))<;>by_cases h4:(0<=e.a/\e.a<(m:Int))<;>simp[h1,h2,h3,h4]<;>(repeat' split)<;>omega
 have key:∀k,off (Hy (E.take k)) n=2*(E.take k).length:=by
  intro k
  induction k with
  |
   zero=>
   simp only[List.take_zero,Br]
   have:∀m,off (Hy []) m=0:=λm=>by induction m with|zero=>rfl|succ m ih=>simp[off,ih,Hy,Ep,FM,Fb]
   rw[this]
  |
   succ k ih=>
   rw[Au]
   cases hk:E[k]? with
   |none=>simpa using ih
   |
    some e=>
    have:=h e (A6 hk)
    simp only[Option.toList]
    rw[step,ih,if_pos ⟨this.2.2.1,this.2.2.2⟩,if_pos ⟨this.1,this.2.1⟩]
    simp;omega
 have:=key E.length
 rwa [E0]at this
end Go.Gr
namespace Go.Gr
structure Gr where
 labels:List Int
 edges:List Edg
structure Gr.Ok(G:Gr):Prop where
 size:G.labels.length<=4096
 esize:G.edges.length<=16384
 lab:∀l∈G.labels,0<=l/\l<=255
 edge:∀e∈G.edges,0<=e.a/\e.a<e.b/\e.b<G.labels.length
 sorted:CC G.edges
def BZ(l:Int):Bool:=decide (l<0)||decide (255<l)
def Jn(n:Nat)(seen:List Edg)(e:Edg):Int:=
 if min e.a e.b<0\/(n:Int)<=max e.a e.b then 3 else if e.a=e.b then 1 else if turn e∈seen then 4 else 0
def Dm(n:Nat)(edges:List Edg)(i:Nat):Int:=match edges[i]? with
 |some e=>Jn n ((edges.take i).map turn) e
 |none=>0
def Eo(labels:List Int)(edges:List Edg):Option (Int×Int×Bool):=
 if 4096<labels.length\/16384<edges.length then some (6,0,false)
 else match labels.findIdx? BZ with
  |some v=>some (3,(v:Int),false)
  |
   none=>match(List.range edges.length).find? (λi=>decide (Dm labels.length edges i≠0))with
   |some i=>some (Dm labels.length edges i,(i:Int),true)
   |none=>none
theorem IC {labels:List Int} {edges:List Edg}(h:4096<labels.length\/16384<edges.length):Eo labels edges=some (6,0,false):=by
 unfold Eo;rw[if_pos h]
theorem ID {labels:List Int} {edges:List Edg}(h:¬(4096<labels.length\/16384<edges.length)) {v:Nat} {l:Int}(hv:labels[v]? =some l)(hb:BZ l=true)(hn:∀x∈labels.take v,BZ x=false):Eo labels edges=some (3,(v:Int),false):=by
 unfold Eo
 rw[if_neg h]
 have:labels.findIdx? BZ=some v:=by
  rw[Ba]
  obtain⟨h1,h2⟩:=Ae.1 hv
  refine⟨h1,by rw[h2];exact hb,λj hj=>?_⟩
  have:=hn labels[j] (Bc.2 ⟨j,by omega,rfl⟩)
  simpa using this
 rw[this]
theorem Fo {labels:List Int} {edges:List Edg}(h:¬(4096<labels.length\/16384<edges.length))(hl:∀x∈labels,BZ x=false) {i:Nat}(hi:i<edges.length)(hb:Dm labels.length edges i≠0)(hn:∀j,j<i->Dm labels.length edges j=0):Eo labels edges=some (Dm labels.length edges i,(i:Int),true):=by
 unfold Eo
 rw[if_neg h]
 have h1:labels.findIdx? BZ=none:=by
  rw[Bd];exact hl
 have h2:(List.range edges.length).find? (λi=>decide (Dm labels.length edges i≠0))=some i:=by
  rw[List.find?_range_eq_some]
  refine⟨by simpa using hb,by simpa using hi,λj hj=>by simpa using hn j hj⟩
 rw[h1,h2]
theorem J8 {labels:List Int} {edges:List Edg}(h:¬(4096<labels.length\/16384<edges.length))(hl:∀x∈labels,BZ x=false)(hn:∀j,j<edges.length->Dm labels.length edges j=0):Eo labels edges=none:=by
 unfold Eo
 rw[if_neg h]
 have h1:labels.findIdx? BZ=none:=by
  rw[Bd];exact hl
 have h2:(List.range edges.length).find? (λi=>decide (Dm labels.length edges i≠0))=none:=by
  rw[List.find?_range_eq_none]
  intro j hj
  simpa using hn j hj
 rw[h1,h2]
theorem cP {n:Nat} {edges:List Edg}(hn:∀j,j<edges.length->Dm n edges j=0):(edges.map turn).Nodup/\∀e∈edges.map turn,0<=e.a/\e.a<e.b/\e.b<n:=by
 have key:∀k,k<=edges.length->((edges.take k).map turn).Nodup/\∀e∈(edges.take k).map turn,0<=e.a/\e.a<e.b/\e.b<n:=by
  intro k
  induction k with
  |zero=>intro _;simp
  |
   succ k ih=>
   intro hk
   obtain⟨h1,h2⟩:=ih (by omega)
   have he:edges[k]? =some edges[k]:=Ab (by omega)
   generalize edges[k]=e at he
   have hc:=hn k (by omega)
   unfold Dm at hc
   rw[he]at hc
   simp only[Jn]at hc
   split at hc
   ·omega
   ·split at hc
    ·omega
    ·split at hc
     ·omega
     ·rename_i g1 g2 g3
      rw[Au,he]
      simp only[Option.toList,A7,Ap,Bt]
      refine⟨?_,?_⟩
      ·rw[Ds]
       exact⟨h1,by simp,λa ha b hb e'=>by simp at hb;subst hb;subst e';exact g3 ha⟩
      ·intro x hx
       rcases Ag.1 hx with hx|hx
       ·exact h2 x hx
       ·simp at hx
        subst hx
        simp only[turn]
        omega
 have:=key edges.length (Ay _)
 rwa [E0]at this
theorem rJ {labels:List Int} {edges:List Edg}(h:Eo labels edges=none):labels.length<=4096/\edges.length<=16384/\(∀x∈labels,BZ x=false)/\(edges.map turn).Nodup/\∀e∈edges.map turn,0<=e.a/\e.a<e.b/\e.b<labels.length:=by
 unfold Eo at h
 split at h
 ·cases h
 ·rename_i h0
  split at h
  ·cases h
  ·rename_i h1
   split at h
   ·cases h
   ·rename_i h2
    rw[List.find?_range_eq_none]at h2
    have h3:=cP (n:=labels.length) (edges:=edges) (λj hj=>by have:=h2 j hj;simpa using this)
    exact⟨by omega,by omega,Bd.1 h1,h3.1,h3.2⟩
theorem zR {labels:List Int} {edges E:List Edg}(h:Eo labels edges=none)(hp:E.Perm (edges.map turn))(hs:E.Pairwise (λx y=>¬C2 y x<0)):Gr.Ok ⟨labels,E⟩:=by
 obtain⟨h1,h2,h3,h4,h5⟩:=rJ h
 refine⟨h1,by simp only;rw[hp.length_eq];simpa using h2,λl hl=>?_,λe he=>h5 e (hp.mem_iff.1 he),Kb (hp.nodup_iff.2 h4) hs⟩
 have:=h3 l hl
 simp[BZ]at this
 omega
end Go.Gr
end
section
namespace Go.Proofs.YtjpmmkodoeipmaaGreatDoor
open Go.Sx Go.RowKit Go.Reg Go.Gr
set_option maxRecDepth 100000
def dE(e:Edg):Da:=.agg [.int .i64 e.a,.int .i64 e.b]
def dI(n:Int):Da:=.int .i64 n
def Bh(l:List Int):Da:=.list 1 (l.map dI)
def ET(l:List Edg):Da:=.list 2 (l.map dE)
def qP:List (Nat×Plan):=[]
def AAM:List FuncId:=[]
theorem Ie(e:Edg):Pure C1 90 [dE e] (λy=>y=dE (turn e)):=by
 refine AU Tryz.func90 Tryz.ntmps90 AAM qP ?_
 ((conv=>whnf);repeat' ((first|refine odw ?_|refine nx ?_|refine AB (λ_=>?_) (λ_=>?_))<;>conv=>whnf))
 all_goals exact rfl
def ADG:List (Nat×Plan):=[]
def AFt:List FuncId:=[]
theorem PX(a:Int):Pure C1 79 [.int .i64 a] (λy=>y=.bool false):=by
 refine AU Tryz.func79 Tryz.ntmps79 AFt ADG ?_
 ((conv=>whnf);repeat' ((first|refine odw ?_|refine nx ?_|refine AB (λ_=>?_) (λ_=>?_))<;>conv=>whnf))
 show Da.plain _=_
 simp[Da.plain]
def iB:List (Nat×Plan):=[]
def uM:List FuncId:=[]
theorem Fz(a b:Int):Pure C1 31 [.int .i64 a,.int .i64 b] (λy=>y=.int .i64 (De a b)):=by
 refine AU Tryz.func31 Tryz.ntmps31 uM iB ?_
 ((conv=>whnf);repeat' ((first|refine odw ?_|refine nx ?_|refine AB (λ_=>?_) (λ_=>?_))<;>conv=>whnf))
 refine AR rfl (PX a) ?_;rintro y rfl;((conv=>whnf);repeat' ((first|refine odw ?_|refine nx ?_|refine AB (λ_=>?_) (λ_=>?_))<;>conv=>whnf))
 refine AR rfl (PX b) ?_;rintro y rfl;((conv=>whnf);repeat' ((first|refine odw ?_|refine nx ?_|refine AB (λ_=>?_) (λ_=>?_))<;>conv=>whnf))
 ·have e:De a b=-1:=by unfold De;rw[if_pos (by assumption)]
  rw[e];exact rfl
 ·have e:De a b=1:=by unfold De;rw[if_neg (by assumption),if_pos (by assumption)]
  rw[e];exact rfl
 ·have e:De a b=0:=by unfold De;rw[if_neg (by assumption),if_neg (by assumption)]
  rw[e];exact rfl
def ACS:List (Nat×Plan):=[]
def AFs:List FuncId:=[]
theorem mT(a b:Int):Pure C1 30 [.list 1 [.int .i64 a,.int .i64 b]] (λy=>y=.int .i64 (if a≠0 then a else b)):=by
 refine AU Tryz.func30 Tryz.ntmps30 AFs ACS ?_
 ((conv=>whnf);repeat' ((first|refine odw ?_|refine nx ?_|refine AB (λ_=>?_) (λ_=>?_))<;>conv=>whnf))
 refine zB (ι:=Nat) (λi=>i<=2/\(1<=i->a=0)/\(2<=i->b=0)) (λi=>[(3,.d (.int .i64 0)),(6,.d (.list 1 [.int .i64 a,.int .i64 b])),(7,.d (.int .i64 2)),(8,.d (.int .i64 i))]) (λ_=>[]) (λi=>2-i) 0 (λ_=>rfl) ⟨by omega,by omega,by omega⟩ ⟨rfl,rfl,rfl,rfl,trivial⟩ trivial ?_
 rintro i ⟨hi,h1,h2⟩
 refine Ca AFs ACS ?_
 rcases(show i=0\/i=1\/i=2 by omega)with rfl|rfl|rfl
 ·by_cases ha:a=0
  ·((conv=>whnf);repeat' ((first|refine odw ?_|refine nx ?_|refine AB (λ_=>?_) (λ_=>?_))<;>conv=>whnf))
   refine⟨0,_,rfl,rfl,?_⟩
   ((conv=>whnf);repeat' ((first|refine odw ?_|refine nx ?_|refine AB (λ_=>?_) (λ_=>?_))<;>conv=>whnf))
   exact⟨1,⟨by omega,λ_=>ha,by omega⟩,⟨rfl,rfl,rfl,rfl,trivial⟩,trivial,by omega⟩
  ·rw[if_pos ha]
   ((conv=>whnf);repeat' ((first|refine odw ?_|refine nx ?_|refine AB (λ_=>?_) (λ_=>?_))<;>conv=>whnf))
   refine⟨0,_,rfl,rfl,?_⟩
   ((conv=>whnf);repeat' ((first|refine odw ?_|refine nx ?_|refine AB (λ_=>?_) (λ_=>?_))<;>conv=>whnf))
   exact rfl
 ·rw[if_neg (by have:=h1 (by omega);omega)]
  by_cases hb:b=0
  ·((conv=>whnf);repeat' ((first|refine odw ?_|refine nx ?_|refine AB (λ_=>?_) (λ_=>?_))<;>conv=>whnf))
   refine⟨1,_,rfl,rfl,?_⟩
   ((conv=>whnf);repeat' ((first|refine odw ?_|refine nx ?_|refine AB (λ_=>?_) (λ_=>?_))<;>conv=>whnf))
   exact⟨2,⟨by omega,λ_=>h1 (by omega),λ_=>hb⟩,⟨rfl,rfl,rfl,rfl,trivial⟩,trivial,by omega⟩
  ·((conv=>whnf);repeat' ((first|refine odw ?_|refine nx ?_|refine AB (λ_=>?_) (λ_=>?_))<;>conv=>whnf))
   refine⟨1,_,rfl,rfl,?_⟩
   ((conv=>whnf);repeat' ((first|refine odw ?_|refine nx ?_|refine AB (λ_=>?_) (λ_=>?_))<;>conv=>whnf))
   exact rfl
 ·rw[if_neg (by have:=h1 (by omega);omega),h2 (by omega)]
  ((conv=>whnf);repeat' ((first|refine odw ?_|refine nx ?_|refine AB (λ_=>?_) (λ_=>?_))<;>conv=>whnf))
  exact rfl
def xI:List (Nat×Plan):=[(1,.leaf [0,1,0,1,2,0,1,0,1,2,6,2,0] [0,2,5,7,1,3,6,8,4,9,10,11,12] [0,1,0,4,15,0,32,0,128,511,1023,2047,4095])]
def ACL:List FuncId:=[31,30]
theorem iH(x y:Edg):Pure C1 92 [dE x,dE y] (λr=>r=.int .i64 (C2 x y)):=by
 refine AU Tryz.func92 Tryz.ntmps92 ACL xI ?_
 ((conv=>whnf);repeat' ((first|refine odw ?_|refine nx ?_|refine AB (λ_=>?_) (λ_=>?_))<;>conv=>whnf))
 refine AR rfl (Fz _ _) ?_;rintro r rfl;((conv=>whnf);repeat' ((first|refine odw ?_|refine nx ?_|refine AB (λ_=>?_) (λ_=>?_))<;>conv=>whnf))
 refine AR rfl (Fz _ _) ?_;rintro r rfl;((conv=>whnf);repeat' ((first|refine odw ?_|refine nx ?_|refine AB (λ_=>?_) (λ_=>?_))<;>conv=>whnf))
 refine SB tab rfl (mT _ _) (λy hy=>by subst hy;rfl) ?_;rintro r rfl;((conv=>whnf);repeat' ((first|refine odw ?_|refine nx ?_|refine AB (λ_=>?_) (λ_=>?_))<;>conv=>whnf))
 exact rfl
def Mj:List (Nat×Plan):=[]
def QG:List FuncId:=[]
theorem tO:CI Tryz.prog QG Mj (Tryz.f88.body.getD .skip)=true:=by kernel_rfl
theorem pT(vs:Array Value)(w:World):(callFunc 88 vs).run C1.P w=.ok (.enter 88 vs) w:=by kernel_rfl
theorem It(l:List Int)(hl:l.length<=4294967296):E5 C1 88 [Bh l] 3 1 (λds=>ds=l.map dI):=by
 have hlm:(l.map dI).length=l.length:=Ac _
 refine nA EM (pl:=Mj) (G:=QG) Tryz.func88 rfl Tryz.ntmps88 pT tO (by simp) ?_
 cases l with
 |
  nil=>
  ((conv=>whnf);repeat' ((first|refine odw ?_|refine nx ?_|refine AB (λ_=>?_) (λ_=>?_))<;>conv=>whnf))
  refine Yd rfl Tryz.underlying22 rfl rfl (.inr rfl) rfl ?_
  intro b
  cases b<;>((conv=>whnf);repeat' ((first|refine odw ?_|refine nx ?_|refine AB (λ_=>?_) (λ_=>?_))<;>conv=>whnf))
  ·exact⟨rfl,rfl,rfl⟩
  ·exact rfl
 |
  cons x l=>
  have hlm2:(([]:List Da).length+((x::l).map dI).length)<=4294967296:=by rw[hlm];simpa using hl
  ((conv=>whnf);repeat' ((first|refine odw ?_|refine nx ?_|refine AB (λ_=>?_) (λ_=>?_))<;>conv=>whnf))
  refine J9 hlm2 ?_
  ((conv=>whnf);repeat' ((first|refine odw ?_|refine nx ?_|refine AB (λ_=>?_) (λ_=>?_))<;>conv=>whnf))
  exact⟨rfl,rfl,by simp⟩
end Go.Proofs.YtjpmmkodoeipmaaGreatDoor
end
section
namespace Go.Gr
structure Pt where
 labels:List Int
 edges:List Edg
theorem S3 {α:Type} {f:Nat->Option α} {n i:Nat} {y:α}(h:∀k,k<i->f k=none)(hi:f i=some y)(hn:i<n):(List.range n).findSome? f=some y:=by
 rw[List.findSome?_eq_some_iff]
 refine⟨List.range i,i,(List.range (n-i-1)).map (λk=>i+1+k),?_,hi,λk hk=>h k (AN.1 hk)⟩
 apply BY
 intro k
 by_cases h1:k<n
 ·rw[Df h1]
  rcases fE k i with h2|h2|h2
  ·rw[Bo (by simpa using h2),Df h2]
  ·subst h2
   rw[Bu (by simp),Dt,Dy];rfl
  ·rw[Bu (by simp;omega),Dt]
   obtain⟨d,hd⟩:∃d,k-i=d+1:=⟨k-i-1,by omega⟩
   rw[hd,List.getElem?_cons_succ,Ad,Df (by omega)]
   simp;omega
 ·rw[AI (by simp;omega),AI (by simp;omega)]
theorem MF {α:Type} {f:Nat->Option α} {n:Nat}(h:∀k,k<n->f k=none):(List.range n).findSome? f=none:=by
 rw[List.findSome?_eq_none_iff]
 exactλk hk=>h k (AN.1 hk)
def M0(l:List Int):Option (Int×Nat):=if 8<l.length then some (6,0)else(List.range l.length).findSome? λi=>if BZ ((l[i]?).getD 0)then some (3,i)else none
def Y5(n:Nat)(p:Option Edg)(e:Edg):Option Int:=
 if¬(0<=min e.a e.b/\max e.a e.b<n)then some 3 else if e.b<=e.a then some 2 else match p with
  |none=>none
  |some q=>if C2 q e<0 then none else some 2
def Y6(n:Nat)(E:List Edg)(i:Nat):Option (Int×Nat):=match E[i]? with
 |none=>none
 |some e=>(Y5 n (if i=0 then none else E[i-1]?) e).map λc=>(c,i)
def sZ(n:Nat)(E:List Edg):Option (Int×Nat):=(List.range E.length).findSome? (Y6 n E)
def Dk(p:Pt):Option (Int×Nat):=match M0 p.labels with
 |some x=>some x
 |none=>sZ p.labels.length p.edges
theorem CQ {l:List Int}(h:M0 l=none):l.length<=8/\∀x∈l,0<=x/\x<=255:=by
 unfold M0 at h
 split at h
 ·cases h
 ·refine⟨by omega,λx hx=>?_⟩
  obtain⟨i,hi,rfl⟩:=C7.1 hx
  have:=(List.findSome?_eq_none_iff.1 h) i (AN.2 hi)
  rw[Ab hi]at this
  simp[BZ]at this
  omega
theorem sY {n:Nat} {E:List Edg}(h:sZ n E=none):(∀e∈E,0<=e.a/\e.a<e.b/\e.b<n)/\∀i x y,E[i]? =some x->E[i+1]? =some y->C2 x y<0:=by
 have key:∀i e,E[i]? =some e->Y5 n (if i=0 then none else E[i-1]?) e=none:=by
  intro i e hx
  have:=(List.findSome?_eq_none_iff.1 h) i (AN.2 (Ae.1 hx).1)
  unfold Y6 at this
  rw[hx]at this
  simpa using this
 refine⟨λe he=>?_,λi x y hx hy=>?_⟩
 ·obtain⟨i,hi,rfl⟩:=C7.1 he
  have:=key i _ (Ab hi)
  unfold Y5 at this
  split at this
  ·cases this
  ·split at this
   ·cases this
   ·omega
 ·have:=key (i+1) y hy
  rw[if_neg (by omega),Nat.add_sub_cancel,hx]at this
  unfold Y5 at this
  split at this
  ·cases this
  ·split at this
   ·cases this
   ·simp only at this
    split at this
    ·assumption
    ·cases this
end Go.Gr
end
section
namespace Go.Gr
theorem rW(E:List Edg)(i v:Nat):(FM (E.take i) v).length<=(FM E v).length:=by
 unfold FM
 rw[Ac,Ac]
 exact((Pn i E).filter _).length_le
theorem rM(E:List Edg)(i v:Nat):(Fb (E.take i) v).length<=(Fb E v).length:=by
 unfold Fb
 rw[Ac,Ac]
 exact((Pn i E).filter _).length_le
theorem Vo(E:List Edg)(v:Nat):Hy E v<=E.length*2:=by
 unfold Hy Ep FM Fb
 rw[Ah,Ac,Ac]
 have h1:=CM (λe:Edg=>decide (e.b=(v:Int))) E
 have h2:=CM (λe:Edg=>decide (e.a=(v:Int))) E
 omega
def FQ(E:List Edg):Nat->Int
 |0=>0
 |v+1=>(Hy E v:Int)
theorem Vp(E:List Edg)(v:Nat):0<=FQ E v/\FQ E v<=E.length*2:=by
 cases v with
 |zero=>simp only[FQ];omega
 |succ v=>have:=Vo E v;simp only[FQ];omega
theorem EZ {E:List Edg} {i:Nat} {e:Edg}(h:E[i]? =some e):E.take (i+1)=E.take i++[e]:=by
 rw[Au,h];rfl
theorem kS {E:List Edg} {i:Nat} {a b:Nat}(h:E[i]? =some ⟨(a:Int),(b:Int)⟩)(hab:a<b)(v:Nat):
  FQ (E.take (i+1)) v=if v=b+1 then FQ (E.take i) (b+1)+1 else if v=a+1 then FQ (E.take i) (a+1)+1 else FQ (E.take i) v:=by
 rw[EZ h]
 cases v with
 |zero=>simp[FQ]
 |
  succ v=>
  simp only[FQ,cW,Nat.add_right_cancel_iff]
  by_cases h1:v=b
  ·subst h1
   rw[if_pos rfl,if_pos rfl,if_neg (by omega)];omega
  ·rw[if_neg (by omega),if_neg h1]
   by_cases h2:v=a
   ·subst h2;rw[if_pos rfl,if_pos rfl];omega
   ·rw[if_neg (by omega),if_neg h2];omega
def Gy(E:List Edg)(j v:Nat):Int:=if v<=j then(off (Hy E) v:Int)else FQ E v
theorem fW(E:List Edg)(v:Nat):Gy E 0 v=FQ E v:=by
 cases v with
 |zero=>rfl
 |succ v=>simp[Gy]
theorem fX(E:List Edg)(j v:Nat):Gy E (j+1) v=if v=j+1 then Gy E j (j+1)+Gy E j j else Gy E j v:=by
 simp only[Gy]
 by_cases h:v=j+1
 ·subst h
  rw[if_pos (Ay _),if_pos rfl,if_neg (by omega),if_pos (Ay _)]
  simp only[off,FQ];omega
 ·rw[if_neg h]
  by_cases h2:v<=j
  ·rw[if_pos (by omega),if_pos h2]
  ·rw[if_neg (by omega),if_neg h2]
theorem ADU(E:List Edg)(n:Nat)(h:∀e∈E,0<=e.a/\e.a<n/\0<=e.b/\e.b<n) {v:Nat}(hv:v<=n):off (Hy E) v<=2*E.length:=by
 have:=Je (Hy E) hv
 rw[SY E n h]at this
 exact this
def Hu(E:List Edg)(i j:Nat)(v:Nat):List Int:=FM (E.take i) v++Fb (E.take j) v
def Jv(E:List Edg)(i j:Nat)(v:Nat):List Int:=Ia (E.take i) v++GJ (E.take j) v
theorem SS(E:List Edg)(i j v:Nat):(Hu E i j v).length<=Hy E v:=by
 unfold Hu Hy Ep
 rw[Ah,Ah]
 have:=rW E i v
 have:=rM E j v
 omega
theorem Z3(E:List Edg)(i j v:Nat):(Jv E i j v).length=(Hu E i j v).length:=by
 unfold Hu Jv
 rw[Ah,Ah,(N9 _ v).1,(N9 _ v).2]
theorem mL(E:List Edg)(i j v:Nat):(Jv E i j v).length<=Hy E v:=by rw[Z3];exact SS E i j v
theorem Wn(E:List Edg)(v:Nat):Hu E 0 0 v=[]:=by simp[Hu,FM,Fb]
theorem qB(E:List Edg)(v:Nat):Jv E 0 0 v=[]:=by simp[Jv,Ia,GJ]
theorem pZ {E:List Edg} {i:Nat} {a b:Nat}(h:E[i]? =some ⟨(a:Int),(b:Int)⟩):Hu E (i+1) 0=more (Hu E i 0) b a:=by
 funext v
 unfold Hu more
 rw[EZ h,(N3 _ _ _).1]
 simp only[List.take_zero,ABe]
 by_cases hv:v=b
 ·subst hv;simp[Fb]
 ·have:¬b=v:=λe=>hv e.symm
  simp[Fb,hv,this]
theorem qD {E:List Edg} {i:Nat} {a b:Nat}(h:E[i]? =some ⟨(a:Int),(b:Int)⟩):Jv E (i+1) 0=more (Jv E i 0) b i:=by
 funext v
 have hi:i<E.length:=(Ae.1 h).1
 unfold Jv more
 rw[EZ h,(bK _ _ _).1]
 simp only[List.take_zero,ABe,A8,LI (Nat.le_of_lt hi)]
 by_cases hv:v=b
 ·subst hv;simp[GJ]
 ·have:¬b=v:=λe=>hv e.symm
  simp[GJ,hv,this]
theorem pY {E:List Edg} {k j:Nat} {a b:Nat}(h:E[j]? =some ⟨(a:Int),(b:Int)⟩):Hu E k (j+1)=more (Hu E k j) a b:=by
 funext v
 unfold Hu more
 rw[EZ h,(N3 _ _ _).2]
 simp only[ABe]
 by_cases hv:v=a
 ·subst hv;simp
 ·have:¬a=v:=λe=>hv e.symm
  simp[hv,this]
theorem qC {E:List Edg} {k j:Nat} {a b:Nat}(h:E[j]? =some ⟨(a:Int),(b:Int)⟩):Jv E k (j+1)=more (Jv E k j) a j:=by
 funext v
 have hj:j<E.length:=(Ae.1 h).1
 unfold Jv more
 rw[EZ h,(bK _ _ _).2]
 simp only[ABe,A8,LI (Nat.le_of_lt hj)]
 by_cases hv:v=a
 ·subst hv;simp
 ·have:¬a=v:=λe=>hv e.symm
  simp[hv,this]
theorem wC(E:List Edg):Hu E E.length E.length=Ep E:=by funext v;simp[Hu,Ep]
theorem wD(E:List Edg):Jv E E.length E.length=Ip E:=by funext v;simp[Jv,Ip]
theorem yS(R:Nat->List Int)(v:Nat)(u:Int)(w:Nat):((more R v u w).length:Int)=if w=v then((R v).length:Int)+1 else(R w).length:=by
 unfold more;split<;>simp
theorem Uf {E:List Edg} {i j i' j' v:Nat} {u:Int}(h:Hu E i' j'=more (Hu E i j) v u):(Hu E i j v).length<Hy E v:=by
 have:=SS E i' j' v
 rw[h]at this
 simp only[more,if_true,Ah,B8]at this
 omega
theorem eG(n:Nat)(D:Nat->Nat)(R:Nat->List Int)(h:∀v,R v=[]):RN n R D=List.replicate (off D n) 0:=by
 induction n with
 |zero=>rfl
 |succ n ih=>rw[Q9,ih,h n];simp[off,List.replicate_append_replicate]
end Go.Gr
end
section
namespace Go.Gr
def leE(x y:Edg):Bool:=decide (¬C2 y x<0)
def Hs(edges:List Edg):List Edg:=(edges.map turn).mergeSort leE
theorem HQ(edges:List Edg):(Hs edges).Perm (edges.map turn):=L5 _ _
theorem Lw(edges:List Edg):(Hs edges).Pairwise (λx y=>¬C2 y x<0):=by
 have h:=NM (le:=leE) (λa b c h1 h2=>by
  simp only[leE,decide_eq_true_eq]at*
  intro h3
  rcases Q4 a b with h|h|h
  ·exact h2 (GO h3 h)
  ·subst h;exact h2 h3
  ·exact h1 h) (λa b=>by
  simp only[leE,Dj,decide_eq_true_eq]
  by_cases h:C2 b a<0
  ·exact .inr (RF h)
  ·exact .inl h) (edges.map turn)
 exact h.imp (λh=>by simpa[leE]using h)
theorem Vv {edges E:List Edg}(hn:(edges.map turn).Nodup)(hp:E.Perm (edges.map turn))(hs:E.Pairwise (λx y=>¬C2 y x<0)):E=Hs edges:=
 Kc (hp.trans (HQ edges).symm) (Kb (hp.nodup_iff.2 hn) hs) (Kb ((HQ edges).nodup_iff.2 hn) (Lw edges))
theorem CC.le {E:List Edg}(h:CC E):E.Pairwise (λx y=>¬C2 y x<0):=h.imp λh=>RF h
theorem Q6 {labels:List Int} {edges:List Edg}(h:Eo labels edges=none):Gr.Ok ⟨labels,Hs edges⟩:=zR h (HQ edges) (Lw edges)
theorem RI(edges:List Edg):(Hs edges).length=edges.length:=by rw[(HQ edges).length_eq,Ac]
def M6(S:List Edg)(k:Nat)(e:Edg):List Edg:=S.take k++[e]++S.drop k
theorem jQ(S:List Edg)(k:Nat)(e:Edg):(M6 S k e).Perm (e::S):=by
 unfold M6
 rw[Bk,ACE]
 refine List.perm_middle.trans ?_
 rw[BP]
theorem Yw {S:List Edg} {k:Nat} {e:Edg}(hS:CC S)(h1:∀x∈S.take k,C2 x e<0)(h2:∀x,S[k]? =some x->¬C2 x e<0)(hn:e∉S):CC (M6 S k e):=by
 unfold M6 CC
 rw[Bk,ACE,CU,Cl]
 have hS':=hS
 unfold CC at hS'
 rw[<-BP k S,CU]at hS'
 obtain⟨g1,g2,g3⟩:=hS'
 have hhead:∀y∈S.drop k,C2 e y<0:=by
  intro y hy
  rcases hd:S.drop k with _|⟨x,l⟩
  ·rw[hd]at hy;cases hy
  ·have hx:S[k]? =some x:=by
    have:=congrArg List.head? hd
    simpa using this
   have hxs:x∈S:=A6 hx
   have hex:C2 e x<0:=by
    rcases Q4 e x with h|h|h
    ·exact h
    ·exact absurd (h▸hxs) hn
    ·exact absurd h (h2 x hx)
   rw[hd]at hy g2
   rcases Ai.1 hy with h|h
   ·exact h▸hex
   ·exact GO hex ((Cl.1 g2).1 y h)
 refine⟨g1,⟨hhead,g2⟩,?_⟩
 intro a ha b hb
 rcases Ai.1 hb with h|h
 ·exact h▸h1 a ha
 ·exact g3 a ha b h
def idE(E:List Edg)(e:Edg):Int:=match E.findIdx? (λx=>decide (x=e))with
 |some i=>(i:Int)
 |none=>-1
theorem AEd {E:List Edg} {e:Edg} {i:Nat}(h:E[i]? =some e)(hn:∀x∈E.take i,x≠e):idE E e=i:=by
 unfold idE
 have:E.findIdx? (λx=>decide (x=e))=some i:=by
  rw[Ba]
  obtain⟨h1,h2⟩:=Ae.1 h
  refine⟨h1,by simp[h2],λj hj=>?_⟩
  have:=hn E[j] (Bc.2 ⟨j,by omega,rfl⟩)
  simp[this]
 rw[this]
theorem US {E:List Edg} {e:Edg}(h:e∉E):idE E e=-1:=by
 unfold idE
 have:E.findIdx? (λx=>decide (x=e))=none:=by
  rw[Bd]
  intro x hx
  have:x≠e:=λh'=>h (h'▸hx)
  simp[this]
 rw[this]
theorem jT {E:List Edg} {e:Edg}:0<=idE E e↔e∈E:=by
 constructor
 ·intro h
  refine ER λhn=>?_
  rw[US hn]at h;omega
 ·intro h
  unfold idE
  split
  ·omega
  ·rename_i hn
   rw[Bd]at hn
   have:=hn e h
   simp at this
structure Part(edges:List Edg)(i:Nat)(S:List Edg):Prop where
 strict:CC S
 perm:S.Perm ((edges.take i).map turn)
theorem Part.zero(edges:List Edg):Part edges 0 []:=⟨List.Pairwise.nil,by simp⟩
theorem Part.next {edges S:List Edg} {i k:Nat} {e:Edg}(h:Part edges i S)(he:edges[i]? =some e)(hn:turn e∉S)(h1:∀x∈S.take k,C2 x (turn e)<0)(h2:∀x,S[k]? =some x->¬C2 x (turn e)<0):Part edges (i+1) (M6 S k (turn e)):=by
 refine⟨Yw h.strict h1 h2 hn,(jQ _ _ _).trans ?_⟩
 rw[EZ he,A7]
 simp only[Ap,Bt]
 exact(List.Perm.cons _ h.perm).trans (List.perm_append_comm (l₁:=[turn e]))
theorem Part.mem {edges S:List Edg} {i:Nat}(h:Part edges i S)(e:Edg):e∈S↔e∈(edges.take i).map turn:=h.perm.mem_iff
theorem Part.all {edges S:List Edg} {i:Nat}(h:Part edges i S)(hi:edges.length<=i):S=Hs edges:=by
 have hp:=h.perm
 rw[Ak hi]at hp
 exact Vv (hp.nodup_iff.1 h.strict.nodup) hp h.strict.le
theorem Hi:∀{l1 l2:List Int},l1.Pairwise (· < ·)->l2.Pairwise (· < ·)->(∀x,x∈l1↔x∈l2)->l1=l2
 |[],[],_,_,_=>rfl
 |[],y::l2,_,_,h=>absurd ((h y).2 (by simp)) (by simp)
 |x::l1,[],_,_,h=>absurd ((h x).1 (by simp)) (by simp)
 |
  x::l1,y::l2,h1,h2,h=>by
  have g1:=Cl.1 h1
  have g2:=Cl.1 h2
  have hxy:x=y:=by
   rcases Ai.1 ((h x).1 (by simp))with e|e
   ·exact e
   ·rcases Ai.1 ((h y).2 (by simp))with e'|e'
    ·exact e'.symm
    ·have:=g2.1 x e;have:=g1.1 y e';omega
  subst hxy
  rw[Hi g1.2 g2.2 λz=>?_]
  constructor
  ·intro hz
   rcases Ai.1 ((h z).1 (by simp[hz]))with e|e
   ·have:=g1.1 z hz;omega
   ·exact e
  ·intro hz
   rcases Ai.1 ((h z).2 (by simp[hz]))with e|e
   ·have:=g2.1 z hz;omega
   ·exact e
theorem iV {E:List Edg} {v:Nat} {u:Int}:u∈FM E v↔⟨u,v⟩∈E:=by
 simp only[FM,An,A0,decide_eq_true_eq]
 constructor
 ·rintro⟨e,⟨he,hb⟩,rfl⟩;rw[<-hb];exact he
 ·intro h;exact⟨_,⟨h,rfl⟩,rfl⟩
theorem iU {E:List Edg} {v:Nat} {u:Int}:u∈Fb E v↔⟨v,u⟩∈E:=by
 simp only[Fb,An,A0,decide_eq_true_eq]
 constructor
 ·rintro⟨e,⟨he,hb⟩,rfl⟩;rw[<-hb];exact he
 ·intro h;exact⟨_,⟨h,rfl⟩,rfl⟩
theorem yW {G:Gr}(h:G.Ok) {v:Nat} {u:Int}:u∈Ep G.edges v↔0<=u/\u<G.labels.length/\turn ⟨u,v⟩∈G.edges:=by
 unfold Ep
 rw[Ag,iV,iU]
 constructor
 ·rintro(h1|h1)
  ·have:=h.edge _ h1
   simp only at this
   refine⟨by omega,by omega,?_⟩
   rw[J2 (by simp only;omega)];exact h1
  ·have:=h.edge _ h1
   simp only at this
   refine⟨by omega,by omega,?_⟩
   rw[Ig,J2 (by simp only;omega)];exact h1
 ·rintro⟨h0,h1,h2⟩
  by_cases hl:u<=(v:Int)
  ·rw[J2 (by simpa using hl)]at h2;exact .inl h2
  ·rw[Ig,J2 (by simp only;omega)]at h2;exact .inr h2
def Pg(E:List Edg)(v:Nat):List Int:=(E.zipIdx.filter λp=>decide (p.1.a=(v:Int)\/p.1.b=(v:Int))).map λp=>(p.2:Int)
theorem J0(E:List Edg)(p:Edg×Nat->Bool):((E.zipIdx.filter p).map λq=>(q.2:Int)).Pairwise (· < ·):=by
 have key:∀(E:List Edg) (k:Nat),((E.zipIdx k).filter p).Pairwise (λx y=>x.2<y.2)/\∀x∈E.zipIdx k,k<=x.2:=by
  intro E
  induction E with
  |nil=>intro k;simp
  |
   cons e E ih=>
   intro k
   have:=ih (k+1)
   rw[RT]
   refine⟨?_,?_⟩
   ·rw[KJ]
    split
    ·rw[Cl]
     refine⟨λx hx=>?_,this.1⟩
     have:=this.2 x (A0.1 hx).1
     omega
    ·exact this.1
   ·intro x hx
    rcases Ai.1 hx with rfl|hx
    ·simp
    ·have:=this.2 x hx;omega
 rw[B7]
 exact(key E 0).1.imp λh=>by omega
theorem zM {G:Gr}(_h:G.Ok)(v:Nat):∀x,x∈Ip G.edges v↔x∈Pg G.edges v:=by
 intro x
 simp only[Ip,Ia,GJ,Pg,Ag,An,A0,decide_eq_true_eq]
 constructor
 ·rintro(⟨p,⟨h1,h2⟩,rfl⟩|⟨p,⟨h1,h2⟩,rfl⟩)
  ·exact⟨p,⟨h1,.inr h2⟩,rfl⟩
  ·exact⟨p,⟨h1,.inl h2⟩,rfl⟩
 ·rintro⟨p,⟨h1,h2|h2⟩,rfl⟩
  ·exact .inr ⟨p,⟨h1,h2⟩,rfl⟩
  ·exact .inl ⟨p,⟨h1,h2⟩,rfl⟩
theorem bL {G:Gr}(h:G.Ok)(v:Nat):(Ip G.edges v).Pairwise (· < ·):=by
 unfold Ip
 rw[CU]
 refine⟨J0 _ _,J0 _ _,?_⟩
 intro a ha b hb
 simp only[Ia,GJ,An,A0,decide_eq_true_eq]at ha hb
 obtain⟨⟨x,i⟩,⟨h1,h2⟩,rfl⟩:=ha
 obtain⟨⟨y,j⟩,⟨h3,h4⟩,rfl⟩:=hb
 simp only at h2 h4⊢
 have hx:=VA.1 h1
 have hy:=VA.1 h3
 simp only at hx hy
 have ex:=h.edge x (A6 hx)
 have ey:=h.edge y (A6 hy)
 rcases fE i j with hij|hij|hij
 ·omega
 ·subst hij;rw[hx]at hy;cases hy;omega
 ·obtain⟨hi,ei⟩:=Ae.1 hx
  obtain⟨hj,ej⟩:=Ae.1 hy
  have:=AM.1 h.sorted j i hj hi hij
  rw[ei,ej,F3]at this
  omega
theorem ABW {G:Gr}(h:G.Ok)(v:Nat):Ip G.edges v=Pg G.edges v:=Hi (bL h v) (J0 _ _) (zM h v)
end Go.Gr
end
section
namespace Go.Proofs.YtjpmmkodoeipmaaGreatDoor
open Go.Sx Go.RowKit Go.Reg Go.Gr
set_option maxRecDepth 100000
def FU(m:Nat)(f:Nat->Int):List Da:=(List.range m).map λv=>dI (f v)
theorem KF(m:Nat)(f:Nat->Int):(FU m f).length=m:=by simp[FU]
theorem QB {m v:Nat} {f:Nat->Int}(h:v<m):(FU m f)[v]? =some (dI (f v)):=Yl _ h
theorem Js {m:Nat} {f g:Nat->Int}(h:∀v,v<m->f v=g v):FU m f=FU m g:=by
 unfold FU
 exact Ec λv hv=>by rw[h v (AN.1 hv)]
theorem QA(m k:Nat)(f:Nat->Int)(x:Int):(FU m f).set k (dI x)=FU m (λv=>if v=k then x else f v):=by
 unfold FU
 rw[map_set]
 exact Ec λv _=>by by_cases h:v=k<;>simp[h]
theorem uD(m:Nat):List.replicate m (dI 0)=FU m (λ_=>0):=by
 simp[FU,List.map_const']
theorem Xv(m:Nat)(f:Nat->Int):FU m f=((List.range m).map f).map dI:=by simp[FU,Function.comp_def]
theorem AO {ds:List Da} {i:Nat} {d:Da} {n:Int} {K:Nat->Da->Prop}(hx:ds[i]? =some d)(hn:n=i)(hK:K i d):∃(j:Nat) (d:Da),n=j/\ds[j]? =some d/\K j d:=⟨i,d,hn,hx,hK⟩
theorem Ls:∀l:List Int,GG (l.map dI)=true
 |[]=>rfl
 |x::l=>by simp only[Ap,GG,Ls l];rfl
def Hq(n:Nat)(E:List Edg):List Int:=(List.range (n+1)).map λv=>(off (Hy E) v:Int)
def U6(n:Nat)(E:List Edg):List Int:=(List.range n).flatMap (Ep E)
def jS(n:Nat)(E:List Edg):List Int:=(List.range n).flatMap (Ip E)
theorem Td {l:List Int} {p:Nat}(h:p<(l.map dI).length):∃z:Int,(l.map dI)[p]? =some (.int .i64 z):=by
 rw[Ac]at h
 exact⟨l[p],by rw[Ad,Ab h];rfl⟩
def Ms(E:List Edg)(i j:Nat)(v:Nat):Int:=(off (Hy E) v:Int)+(Hu E i j v).length
theorem wM(n:Nat)(E:List Edg)(he:∀e∈E,0<=e.a/\e.a<n/\0<=e.b/\e.b<n)(i j v:Nat)(u id:Int)(hv:v<n) {i' j':Nat}(hR:Hu E i' j'=more (Hu E i j) v u)(hI:Jv E i' j'=more (Jv E i j) v id):
  ∃p:Nat,p<2*E.length/\(FU (n+1) (Ms E i j))[v]? =some (.int .i64 (p:Int))/\p<((RN n (Hu E i j) (Hy E)).map dI).length/\p<((RN n (Jv E i j) (Hy E)).map dI).length/\
   ((RN n (Hu E i j) (Hy E)).map dI).set p (.int .i64 u)=(RN n (Hu E i' j') (Hy E)).map dI/\((RN n (Jv E i j) (Hy E)).map dI).set p (.int .i64 id)=(RN n (Jv E i' j') (Hy E)).map dI/\
   (FU (n+1) (Ms E i j)).set v (.int .i64 (p+1))=FU (n+1) (Ms E i' j'):=by
 have hroom:=Uf hR
 have hl:=Z3 E i j v
 have ho:=SY E n he
 have hm:=Je (Hy E) (show v+1<=n by omega)
 simp only[off]at hm
 refine⟨off (Hy E) v+(Hu E i j v).length,by omega,?_,?_,?_,?_,?_,?_⟩
 ·rw[QB (by omega)]
  simp only[dI,Ms,Int.natCast_add]
 ·rw[Ac,YF (λw=>SS E i j w)];omega
 ·rw[Ac,YF (λw=>mL E i j w)];omega
 ·rw[hR,<-oG u (λw=>SS E i j w) hv hroom,Dz];rfl
 ·rw[hI,<-oG id (λw=>mL E i j w) hv (by rw[hl];exact hroom),Dz,hl];rfl
 ·refine(QA _ _ _ _).trans (Js λw _=>?_)
  simp only[Ms,hR,yS]
  split
  ·rename_i h;subst h;omega
  ·rfl
def N1:List (Nat×Plan):=[(1,.leaf [1,1,0,0,1,0,0,2,0,0,3] [0,1,2,3,4,5,6,7,8,9,10] [0,0,2,6,14,30,62,126,255,511,1023]),
 (5,.leaf [1,0,0,1,0,1,0,0,1,0,0,3] [4,0,1,2,3,5,6,7,8,9,10,11] [0,1,3,7,0,16,48,127,255,511,1023,2047]),
 (6,.leaf [1,0,0,1,0,1,0,0,1,0,0,3] [4,0,1,2,3,5,6,7,8,9,10,11] [0,1,3,7,0,16,48,127,255,511,1023,2047]),
 (11,.leaf [1,0,0,1,0,0,0,1,1,0,0,1,0,0,1,0,0,3] [4,5,12,0,1,2,3,6,7,8,9,10,11,13,14,15,16,17] [0,1,3,7,0,16,63,127,0,256,768,1792,0,7936,16128,32767,65535,131071]),
 (14,.split 1 18 (.split 8 15 (.split 15 18 (.leaf [1,1,1,0,0,1,0,0,2,1,0,0,1,0,0,2,0,0,3,0,0,3] [0,1,2,3,4,5,6,7,9,10,11,12,13,14,8,16,17,15,18,19,20,21] [0,0,0,4,12,28,60,124,252,0,512,1536,3584,7680,15872,32764,8189,73725,262143,524287,1048575,2097151]) (.leaf [1,1,1,0,0,1,0,0,2,1,0,0,1,0,0,2,0,0,3,0,0,3] [0,1,2,3,4,5,6,7,9,10,11,12,13,14,8,16,17,18,15,19,20,21] [0,0,0,4,12,28,60,124,252,0,512,1536,3584,7680,15872,491519,8189,73725,204799,524287,1048575,2097151])) (.leaf [1,1,1,0,0,1,0,0,2,1,0,0,1,0,0,2,0,0,3,0,0,3] [0,1,2,3,4,5,6,7,9,10,11,12,13,14,15,8,16,17,18,19,20,21] [0,0,0,4,12,28,60,124,65276,0,512,1536,3584,7680,15872,32256,65533,131069,262143,524287,1048575,2097151])) (.split 8 15 (.split 15 18 (.leaf [1,1,1,0,0,1,0,0,2,1,0,0,1,0,0,2,0,0,3,0,0,3] [0,2,3,4,5,6,7,9,10,11,12,13,14,8,16,17,15,18,1,19,20,21] [0,524285,0,4,12,28,60,124,252,0,512,1536,3584,7680,15872,32764,8189,73725,262141,524287,1048575,2097151]) (.leaf [1,1,1,0,0,1,0,0,2,1,0,0,1,0,0,2,0,0,3,0,0,3] [0,2,3,4,5,6,7,9,10,11,12,13,14,8,16,17,18,1,15,19,20,21] [0,466941,0,4,12,28,60,124,252,0,512,1536,3584,7680,15872,491517,8189,73725,204797,524287,1048575,2097151])) (.leaf [1,1,1,0,0,1,0,0,2,1,0,0,1,0,0,2,0,0,3,0,0,3] [0,2,3,4,5,6,7,9,10,11,12,13,14,15,8,16,17,18,1,19,20,21] [0,524285,0,4,12,28,60,124,65276,0,512,1536,3584,7680,15872,32256,65533,131069,262141,524287,1048575,2097151])))]
def RU:List FuncId:=[88]
theorem AAv:CI Tryz.prog RU N1 (Tryz.f93.body.getD .skip)=true:=by kernel_rfl
theorem wA(vs:Array Value)(w:World):(callFunc 93 vs).run C1.P w=.ok (.enter 93 vs) w:=by kernel_rfl
def gZ:List (Nat×Plan):=[(0,.leaf [1,0,0,1,1,0,0,1,1,0,0,1,1,0,0,1,0,0,0,3,0,3] [5,13,16,17,0,1,2,3,4,6,7,8,9,10,11,12,14,15,18,19,20,21] [0,1,3,7,0,0,48,112,0,256,768,1792,0,0,12288,28672,0,0,131071,393215,1048575,2097151])]
def AAR:List FuncId:=[]
theorem nZ:CI Tryz.prog AAR gZ (Tryz.f138.body.getD .skip)=true:=by kernel_rfl
theorem mI(vs:Array Value)(w:World):(callFunc 138 vs).run C1.P w=.ok (.enter 138 vs) w:=by kernel_rfl
set_option maxHeartbeats 4000000 in
theorem gK(labels:List Int)(E:List Edg)(hn:labels.length<=4096)(hm:E.length<=16384)(he:∀e∈E,0<=e.a/\e.a<e.b/\e.b<labels.length):
  RR C1 93 163 [Bh labels,ET E,.nils,.nils,.nils] [] (λ_y ys=>ys=[Bh labels,ET E,Bh (Hq labels.length E),Bh (U6 labels.length E),Bh (jS labels.length E)]):=by
 have hll:(labels.map dI).length=labels.length:=Ac _
 have hel:(E.map dE).length=E.length:=Ac _
 refine AAx EM (pl:=N1) (G:=RU) Tryz.func93 rfl Tryz.ntmps93 wA AAv (by simp) ?_
 intro vs
 (conv=>whnf)
 (repeat' ((first|refine Aj ?_ ?_|refine Mv (labels.length+1) (by omega) (by omega) (by omega) ?_|refine nx ?_|refine AB (λ_=>?_) (λ_=>?_)|exact AE)<;>conv=>whnf))
 have e0:List.replicate (labels.length+1) (dI 0)=FU (labels.length+1) (FQ (E.take 0)):=by
  rw[uD]
  refine Js λv _=>?_
  cases v<;>simp[FQ,Hy,Ep,FM,Fb]
 refine AQ (ι:=Nat) (λi=>i<=E.length) (λi=>[(26,.d (.int .i64 i)),(25,.d (.int .i64 (E.map dE).length)),(24,.d (ET E)),(1,.own 1)])
  (λi=>[(1,.cells 28 [.own 900]),(18,.slice 3 1 (FU (labels.length+1) (FQ (E.take i)))),(900,.cells 163 [.d (Bh labels),.d (ET E),.own 18,.d .nils,.d .nils]),(901,.ghost vs [.own 900])])
  (λi=>E.length-i) 0 (λ_=>rfl) (Am _) (.refl _ _) ⟨rfl,rfl,rfl,rfl,trivial⟩ ⟨rfl,Bj e0,rfl,rfl,trivial⟩ ?_
 intro i hi
 refine Ca RU N1 ?_
 by_cases hlt:i<E.length
 ·have hx:=Ab hlt
  have hb:=he _ (AZ hlt)
  generalize E[i]=x at hx hb
  obtain⟨a,b⟩:=x
  simp only at hb
  obtain⟨a',rfl⟩:=A9 hb.1
  obtain⟨b',rfl⟩:=A9 (show 0<=b by omega)
  have hxd:(E.map dE)[i]? =some (.agg [.int .i64 (a':Int),.int .i64 (b':Int)]):=by rw[Ad,hx];rfl
  have hstep:=kS hx (by omega)
  have ha1:=Vp (E.take i) (a'+1)
  have hb1:=Vp (E.take i) (b'+1)
  have htl:(E.take i).length<=16384:=by rw[A8];omega
  (repeat' ((first|refine Aj ?_ ?_|refine AO hxd (by omega) ?_|refine GY (i:=a'+1) (by omega) (by rw[KF];omega) ?_|refine GX (QB (v:=a'+1) (by omega)) ?_|refine nx ?_|refine AB (λ_=>?_) (λ_=>?_)|exact AE)<;>conv=>whnf))
  generalize hf1:(λv=>if v=a'+1 then FQ (E.take i) (a'+1)+1 else FQ (E.take i) v)=f1
  have hs1:(FU (labels.length+1) (FQ (E.take i))).set (a'+1) (.int .i64 (FQ (E.take i) (a'+1)+1))=FU (labels.length+1) f1:=by rw[<-hf1];exact QA _ _ _ _
  rw[hs1]
  have hat:(FU (labels.length+1) f1)[b'+1]? =some (.int .i64 (FQ (E.take i) (b'+1))):=by
   rw[QB (by omega),<-hf1]
   have:¬b'+1=a'+1:=by omega
   simp only[this,if_false];rfl
  (repeat' ((first|refine Aj ?_ ?_|refine GY (i:=b'+1) (by omega) (by rw[KF];omega) ?_|refine GX hat ?_|refine nx ?_|refine AB (λ_=>?_) (λ_=>?_)|exact AE)<;>conv=>whnf))
  have hs2:(FU (labels.length+1) f1).set (b'+1) (.int .i64 (FQ (E.take i) (b'+1)+1))=FU (labels.length+1) (FQ (E.take (i+1))):=by
   refine(QA _ _ _ _).trans (Js λv _=>?_)
   rw[hstep v,<-hf1]
  exact⟨i+1,_,_,hlt,.refl _ _,⟨rfl,rfl,rfl,rfl,trivial⟩,⟨rfl,Bj hs2,rfl,rfl,trivial⟩,by omega⟩
 ·have hie:i=E.length:=by omega
  subst hie
  rw[E0]
  ((conv=>whnf);repeat' ((first|refine odw ?_|refine nx ?_|refine AB (λ_=>?_) (λ_=>?_))<;>conv=>whnf))
  have hedge:∀e∈E,0<=e.a/\e.a<labels.length/\0<=e.b/\e.b<labels.length:=λe h=>by have:=he e h;omega
  have e1:FU (labels.length+1) (FQ E)=FU (labels.length+1) (Gy E 0):=Js λv _=>(fW E v).symm
  refine AQ (ι:=Nat) (λj=>j<=labels.length) (λj=>[(58,.d (.int .i64 j)),(57,.d (.int .i64 (labels.map dI).length)),(1,.own 1)])
   (λj=>[(1,.cells 28 [.own 900]),(18,.slice 3 1 (FU (labels.length+1) (Gy E j))),(900,.cells 163 [.d (Bh labels),.d (ET E),.own 18,.d .nils,.d .nils]),(901,.ghost vs [.own 900])])
   (λj=>labels.length-j) 0 (λ_=>rfl) (Am _) (.refl _ _) ⟨rfl,rfl,rfl,trivial⟩ ⟨rfl,Bj e1,rfl,rfl,trivial⟩ ?_
  intro j hj
  refine Ca RU N1 ?_
  by_cases hlt:j<labels.length
  ·have hsb:∀v,v<=labels.length->0<=Gy E j v/\Gy E j v<=65536:=λv hv=>by
    unfold Gy
    have h1:=ADU E labels.length hedge hv
    have h2:=Vp E v
    split<;>omega
   have h0:=hsb j (by omega)
   have h1:=hsb (j+1) (by omega)
   have hat0:(FU (labels.length+1) (Gy E j))[j]? =some (.int .i64 (Gy E j j)):=QB (by omega)
   have hat1:(FU (labels.length+1) (Gy E j))[j+1]? =some (.int .i64 (Gy E j (j+1))):=QB (by omega)
   (repeat' ((first|refine Aj ?_ ?_|refine GY (i:=j+1) (by omega) (by rw[KF];omega) ?_|refine GY (i:=j) (by omega) (by rw[KF];omega) ?_|refine GX hat1 ?_|refine GX hat0 ?_|refine nx ?_|refine AB (λ_=>?_) (λ_=>?_)|exact AE)<;>conv=>whnf))
   have hs2:(FU (labels.length+1) (Gy E j)).set (j+1) (.int .i64 (Gy E j (j+1)+Gy E j j))=FU (labels.length+1) (Gy E (j+1)):=
    (QA _ _ _ _).trans (Js λv _=>(fX E j v).symm)
   exact⟨j+1,_,_,hlt,.refl _ _,⟨rfl,rfl,rfl,trivial⟩,⟨rfl,Bj hs2,rfl,rfl,trivial⟩,by omega⟩
  ·have hje:j=labels.length:=by omega
   subst hje
   have e2:FU (labels.length+1) (Gy E labels.length)=(Hq labels.length E).map dI:=by
    rw[Hq,<-Xv]
    refine Js λv hv=>?_
    simp only[Gy]
    rw[if_pos (by omega)]
   rw[e2]
   have hfl:(Hq labels.length E).length=labels.length+1:=by simp[Hq]
   ((conv=>whnf);repeat' ((first|refine odw ?_|refine nx ?_|refine AB (λ_=>?_) (λ_=>?_))<;>conv=>whnf))
   refine Vw tab 83 rfl rfl (It (Hq labels.length E) (by omega)) (λds h=>by rw[h];exact Ls _) ?_
   rintro ds rfl
   (conv=>whnf)
   refine HO (by omega) ?_
   (conv=>whnf)
   refine HO (by omega) ?_
   (conv=>whnf)
   refine Mv (2*E.length) (by omega) (by omega) (by omega) ?_
   (conv=>whnf)
   refine Mv (2*E.length) (by omega) (by omega) (by omega) ?_
   (conv=>whnf)
   refine Aj ?_ ?_
   focus
    (conv=>whnf)
    repeat' (first|(refine HO (by omega) ?_;conv=>whnf)|(refine Mv (2*E.length) (by omega) (by omega) (by omega) ?_;conv=>whnf))
    all_goals (repeat' (first|exact trivial|exact rfl|refine And.intro ?_ ?_))
    done
   (conv=>whnf)
   refine Aj ?_ ?_
   focus
    (conv=>whnf)
    repeat' (first|(refine HO (by omega) ?_;conv=>whnf)|(refine Mv (2*E.length) (by omega) (by omega) (by omega) ?_;conv=>whnf))
    all_goals (repeat' (first|exact trivial|exact rfl|refine And.intro ?_ ?_))
    done
   (conv=>whnf)
   refine Aj ?_ ?_
   focus
    (conv=>whnf)
    repeat' (first|(refine HO (by omega) ?_;conv=>whnf)|(refine Mv (2*E.length) (by omega) (by omega) (by omega) ?_;conv=>whnf))
    all_goals (repeat' (first|exact trivial|exact rfl|refine And.intro ?_ ?_))
    done
   (conv=>whnf)
   refine Aj ?_ ?_
   focus
    (conv=>whnf)
    repeat' (first|(refine HO (by omega) ?_;conv=>whnf)|(refine Mv (2*E.length) (by omega) (by omega) (by omega) ?_;conv=>whnf))
    all_goals (repeat' (first|exact trivial|exact rfl|refine And.intro ?_ ?_))
    done
   (conv=>whnf)
   refine Aj ?_ ?_
   focus
    (conv=>whnf)
    repeat' (first|(refine HO (by omega) ?_;conv=>whnf)|(refine Mv (2*E.length) (by omega) (by omega) (by omega) ?_;conv=>whnf))
    all_goals (repeat' (first|exact trivial|exact rfl|refine And.intro ?_ ?_))
    done
   (conv=>whnf)
   have hz92:List.replicate (2*E.length) (dI 0)=(RN labels.length (Hu E 0 0) (Hy E)).map dI:=by
    rw[eG _ _ _ (Wn E),SY E _ hedge];simp
   have hz99:List.replicate (2*E.length) (dI 0)=(RN labels.length (Jv E 0 0) (Hy E)).map dI:=by
    rw[eG _ _ _ (qB E),SY E _ hedge];simp
   have hz83:(Hq labels.length E).map dI=FU (labels.length+1) (Ms E 0 0):=by
    rw[Hq,<-Xv]
    exact Js λv _=>by simp[Ms,Wn]
   refine AQ (ι:=Nat) (λi=>i<=E.length) (λi=>[(110,.d (.int .i64 i)),(109,.d (.int .i64 (E.map dE).length)),(108,.d (ET E)),(6,.func (.func 138) [] [.own 1,.own 5]),(1,.own 1)])
    (λi=>[(1,.cells 28 [.own 900]),(5,.cells 22 [.own 83]),(18,.slice 3 1 ((Hq labels.length E).map dI)),(83,.slice 3 1 (FU (labels.length+1) (Ms E i 0))),(92,.slice 3 1 ((RN labels.length (Hu E i 0) (Hy E)).map dI)),(99,.slice 3 1 ((RN labels.length (Jv E i 0) (Hy E)).map dI)),
     (900,.cells 163 [.d (Bh labels),.d (ET E),.own 18,.own 92,.own 99]),(901,.ghost vs [.own 900])])
    (λi=>E.length-i) 0 (λ_=>rfl) (Am _) (.refl _ _) ⟨rfl,rfl,rfl,rfl,rfl,trivial⟩ ⟨rfl,rfl,rfl,Bj hz83,Bj hz92,Bj hz99,rfl,rfl,trivial⟩ ?_
   intro i hi
   refine Ca RU N1 ?_
   by_cases hlt:i<E.length
   ·have hx:=Ab hlt
    have hb:=he _ (AZ hlt)
    generalize E[i]=x at hx hb
    obtain⟨a,b⟩:=x
    simp only at hb
    obtain⟨a',rfl⟩:=A9 hb.1
    obtain⟨b',rfl⟩:=A9 (show 0<=b by omega)
    have hxd:(E.map dE)[i]? =some (.agg [.int .i64 (a':Int),.int .i64 (b':Int)]):=by rw[Ad,hx];rfl
    have hR:=pZ hx
    have hI:=qD hx
    have hroom:=Uf hR
    have hput:=wM labels.length E hedge i 0 b' (a':Int) (i:Int) (by omega) hR hI
    obtain⟨p,hp,hat,h92,h99,s92,s99,s83⟩:=hput
    (repeat' ((first|refine Aj ?_ ?_|refine AO hxd (by omega) ?_|refine nx ?_|refine AB (λ_=>?_) (λ_=>?_)|exact AE)<;>conv=>whnf))
    refine Nk 200 [(110,.d (.int .i64 i)),(109,.d (.int .i64 (E.map dE).length)),(108,.d (ET E)),(6,.func (.func 138) [] [.own 1,.own 5]),(1,.own 1)] EM (pl:=gZ) (G:=AAR) Tryz.func138 rfl Tryz.ntmps138 mI nZ (QH rfl) rfl ⟨rfl,rfl,rfl,rfl,rfl,trivial⟩ rfl ?_
    intro us
    (conv=>whnf)
    have h83:b'<(FU (labels.length+1) (Ms E i 0)).length:=by rw[KF];omega
    obtain⟨o92,ho92⟩:=Td h92
    obtain⟨o99,ho99⟩:=Td h99
    have hb1:0<=(p:Int)+1/\(p:Int)+1<=65536:=by omega
    clear e0 e1 e2 hz92 hz99 hz83 hfl hroom hR hI hx hxd hedge he hn hi
    repeat' (first|(refine GX hat ?_;conv=>whnf)|(refine GX ho92 ?_;conv=>whnf)|(refine GX ho99 ?_;conv=>whnf)|(refine GY (i:=b') rfl h83 ?_;conv=>whnf)|(refine GY (i:=p) rfl h92 ?_;conv=>whnf)|(refine GY (i:=p) rfl h99 ?_;conv=>whnf))
    refine HO (by omega) ?_
    (conv=>whnf)
    repeat' (first|(refine GX hat ?_;conv=>whnf)|(refine GY (i:=b') rfl h83 ?_;conv=>whnf))
    rw[s92,s99,s83]
    refine KW ?_
    (conv=>whnf)
    refine HO (by omega) ?_
    (conv=>whnf)
    exact⟨i+1,_,_,hlt,.refl _ _,⟨rfl,rfl,rfl,rfl,rfl,trivial⟩,⟨rfl,rfl,rfl,rfl,rfl,rfl,rfl,rfl,trivial⟩,by omega⟩
   ·have hie:i=E.length:=by omega
    subst hie
    ((conv=>whnf);repeat' ((first|refine odw ?_|refine nx ?_|refine AB (λ_=>?_) (λ_=>?_))<;>conv=>whnf))
    refine AQ (ι:=Nat) (λi=>i<=E.length) (λi=>[(128,.d (.int .i64 i)),(127,.d (.int .i64 (E.map dE).length)),(126,.d (ET E)),(6,.func (.func 138) [] [.own 1,.own 5]),(1,.own 1)])
     (λi=>[(1,.cells 28 [.own 900]),(5,.cells 22 [.own 83]),(18,.slice 3 1 ((Hq labels.length E).map dI)),(83,.slice 3 1 (FU (labels.length+1) (Ms E E.length i))),(92,.slice 3 1 ((RN labels.length (Hu E E.length i) (Hy E)).map dI)),(99,.slice 3 1 ((RN labels.length (Jv E E.length i) (Hy E)).map dI)),
      (900,.cells 163 [.d (Bh labels),.d (ET E),.own 18,.own 92,.own 99]),(901,.ghost vs [.own 900])])
     (λi=>E.length-i) 0 (λ_=>rfl) (Am _) (.refl _ _) ⟨rfl,rfl,rfl,rfl,rfl,trivial⟩ ⟨rfl,rfl,rfl,rfl,rfl,rfl,rfl,rfl,trivial⟩ ?_
    intro i hi
    refine Ca RU N1 ?_
    by_cases hlt:i<E.length
    ·have hx:=Ab hlt
     have hb:=he _ (AZ hlt)
     generalize E[i]=x at hx hb
     obtain⟨a,b⟩:=x
     simp only at hb
     obtain⟨a',rfl⟩:=A9 hb.1
     obtain⟨b',rfl⟩:=A9 (show 0<=b by omega)
     have hxd:(E.map dE)[i]? =some (.agg [.int .i64 (a':Int),.int .i64 (b':Int)]):=by rw[Ad,hx];rfl
     have hR:=pY (k:=E.length) hx
     have hI:=qC (k:=E.length) hx
     have hroom:=Uf hR
     have hput:=wM labels.length E hedge E.length i a' (b':Int) (i:Int) (by omega) hR hI
     obtain⟨p,hp,hat,h92,h99,s92,s99,s83⟩:=hput
     (repeat' ((first|refine Aj ?_ ?_|refine AO hxd (by omega) ?_|refine nx ?_|refine AB (λ_=>?_) (λ_=>?_)|exact AE)<;>conv=>whnf))
     refine Nk 200 [(128,.d (.int .i64 i)),(127,.d (.int .i64 (E.map dE).length)),(126,.d (ET E)),(6,.func (.func 138) [] [.own 1,.own 5]),(1,.own 1)] EM (pl:=gZ) (G:=AAR) Tryz.func138 rfl Tryz.ntmps138 mI nZ (QH rfl) rfl ⟨rfl,rfl,rfl,rfl,rfl,trivial⟩ rfl ?_
     intro us
     (conv=>whnf)
     have h83:a'<(FU (labels.length+1) (Ms E E.length i)).length:=by rw[KF];omega
     obtain⟨o92,ho92⟩:=Td h92
     obtain⟨o99,ho99⟩:=Td h99
     have hb1:0<=(p:Int)+1/\(p:Int)+1<=65536:=by omega
     clear hroom hR hI hx hxd
     repeat' (first|(refine GX hat ?_;conv=>whnf)|(refine GX ho92 ?_;conv=>whnf)|(refine GX ho99 ?_;conv=>whnf)|(refine GY (i:=a') rfl h83 ?_;conv=>whnf)|(refine GY (i:=p) rfl h92 ?_;conv=>whnf)|(refine GY (i:=p) rfl h99 ?_;conv=>whnf))
     refine HO (by omega) ?_
     (conv=>whnf)
     repeat' (first|(refine GX hat ?_;conv=>whnf)|(refine GY (i:=a') rfl h83 ?_;conv=>whnf))
     rw[s92,s99,s83]
     refine KW ?_
     (conv=>whnf)
     refine HO (by omega) ?_
     (conv=>whnf)
     exact⟨i+1,_,_,hlt,.refl _ _,⟨rfl,rfl,rfl,rfl,rfl,trivial⟩,⟨rfl,rfl,rfl,rfl,rfl,rfl,rfl,rfl,trivial⟩,by omega⟩
    ·have hie:i=E.length:=by omega
     subst hie
     have en:RN labels.length (Hu E E.length E.length) (Hy E)=U6 labels.length E:=by
      rw[wC];exact eH (λv _=>rfl)
     have ei:RN labels.length (Jv E E.length E.length) (Hy E)=jS labels.length E:=by
      rw[wD]
      exact eH (λv _=>by rw[Ip,Ah,(N9 E v).1,(N9 E v).2,Hy,Ep,Ah])
     rw[en,ei]
     ((conv=>whnf);repeat' ((first|refine odw ?_|refine nx ?_|refine AB (λ_=>?_) (λ_=>?_))<;>conv=>whnf))
     refine⟨_,_,_,[Bh labels,ET E,Bh (Hq labels.length E),Bh (U6 labels.length E),Bh (jS labels.length E)],.frz 18 rfl (.frz 92 rfl (.frz 99 rfl (.refl _ _))),rfl,rfl,rfl,?_⟩
     rfl
end Go.Proofs.YtjpmmkodoeipmaaGreatDoor
end
section
namespace Go.Proofs.YtjpmmkodoeipmaaGreatDoor
open Go.Sx Go.RowKit Go.Reg
set_option maxRecDepth 100000
def dF(c a:Int)(s:ByteArray):Da:=.iface 121 (.ref (.agg [.int .i64 c,.int .i64 a,.str s]))
def dS(s:ByteArray)(x:Da):Da:=.iface 172 (.ref (.agg [.str s,x]))
theorem CH(c a:Int)(s:ByteArray):Pure C1 20 [.int .i64 c,.int .i64 a,.str s] (λy=>y=dF c a s):=by
 refine AU Tryz.func20 Tryz.ntmps20 [] [] ?_
 ((conv=>whnf);repeat' ((first|refine odw ?_|refine nx ?_|refine AB (λ_=>?_) (λ_=>?_))<;>conv=>whnf))
 all_goals exact rfl
theorem ABT(s:ByteArray)(t:TypeId)(x:Da):Pure C1 55 [.str s,.iface t x] (λy=>y=dS s ((Da.iface t x).plain)):=by
 refine AU Tryz.func55 Tryz.ntmps55 [] [] ?_
 ((conv=>whnf);repeat' ((first|refine odw ?_|refine nx ?_|refine AB (λ_=>?_) (λ_=>?_))<;>conv=>whnf))
 all_goals exact rfl
theorem Kt(s:ByteArray)(c a:Int)(z:ByteArray):Pure C1 55 [.str s,dF c a z] (λy=>y=dS s (dF c a z)):=ABT s _ _
end Go.Proofs.YtjpmmkodoeipmaaGreatDoor
end
section
namespace Go.Proofs.YtjpmmkodoeipmaaGreatDoor
open Go.Sx Go.RowKit Go.Reg Go.Gr
set_option maxRecDepth 100000
def qR:ByteArray:=⟨#[112,97,116,116,101,114,110]⟩
def bA:ByteArray:=⟨#[108,97,98,101,108]⟩
def AAf:ByteArray:=⟨#[101,100,103,101]⟩
def FC(p:Pt):Da:=.agg [Bh p.labels,ET p.edges]
def Gu(l:List Int):Da:=match M0 l with
 |none=>.nili
 |some (c,i)=>dF c i (if c=6 then qR else bA)
def Ma(p:Pt):Da:=match M0 p.labels with
 |some (c,i)=>dF c i (if c=6 then qR else bA)
 |
  none=>match sZ p.labels.length p.edges with
  |none=>.nili
  |some (c,i)=>dF c i AAf
theorem zH {l:List Int}(h:8<l.length):M0 l=some (6,0):=if_pos h
theorem ABN {l:List Int} {i:Nat} {x:Int}(h8:¬8<l.length)(h:∀k y,k<i->l[k]? =some y->BZ y=false)(hx:l[i]? =some x)(hb:BZ x=true):M0 l=some (3,i):=by
 unfold M0
 rw[if_neg h8]
 refine S3 (i:=i) (λk hk=>?_) ?_ (Ae.1 hx).1
 ·have hkl:k<l.length:=by have:=(Ae.1 hx).1;omega
  have:=h k _ hk (Ab hkl)
  rw[Ab hkl]
  simp[this]
 ·rw[hx];simp[hb]
theorem Yq {l:List Int}(h8:¬8<l.length)(h:∀k y,k<l.length->l[k]? =some y->BZ y=false):M0 l=none:=by
 unfold M0
 rw[if_neg h8]
 refine MF λk hk=>?_
 have:=h k _ hk (Ab hk)
 rw[Ab hk]
 simp[this]
theorem AA5 {l:List Int} {i:Nat} {x:Int}(h:∀k y,k<i->l[k]? =some y->BZ y=false)(hx:l[i]? =some x)(hb:BZ x=false):∀k y,k<i+1->l[k]? =some y->BZ y=false:=by
 intro k y hk hy
 rcases BN k i with hl|hl
 ·exact h k y hl hy
 ·have:k=i:=by omega
  subst this
  rw[hx]at hy;cases hy;exact hb
theorem AEp {x:Int}(h:¬(0<=x/\x<=255)):BZ x=true:=by simp[BZ];omega
theorem AC5 {x:Int}(h:0<=x/\x<=255):BZ x=false:=by simp[BZ];omega
theorem PR(l:List Int)(hm:l.length<=9223372036854775807):Pure C1 165 [Bh l] (λy=>y=Gu l):=by
 have hdl:(l.map dI).length=l.length:=Ac _
 refine AU Tryz.func165 Tryz.ntmps165 [] [] ?_
 by_cases h8:8<l.length
 ·have e:Gu l=dF 6 0 qR:=by unfold Gu;rw[zH h8];rfl
  rw[e]
  (conv=>whnf)
  (repeat' ((first|refine Aj ?_ ?_|refine Af rfl (CH 6 0 qR) ?_|refine nx ?_|refine AB (λ_=>?_) (λ_=>?_)|exact AE)<;>conv=>whnf))
  exact rfl
 ((conv=>whnf);repeat' ((first|refine odw ?_|refine nx ?_|refine AB (λ_=>?_) (λ_=>?_))<;>conv=>whnf))
 refine AQ (ι:=Nat) (λi=>i<=l.length/\∀k y,k<i->l[k]? =some y->BZ y=false) (λi=>[(11,.d (.int .i64 i)),(10,.d (.int .i64 l.length)),(9,.d (Bh l))]) (λ_=>[]) (λi=>l.length-i) 0 (λ_=>rfl) ⟨Am _,(by intro k y h;omega)⟩ (.refl _ _) ⟨rfl,by rw[<-hdl];rfl,rfl,trivial⟩ trivial ?_
 rintro i ⟨hi,hok⟩
 refine Ca [] [] ?_
 by_cases hil:i<l.length
 ·have hx:=Ab hil
  generalize l[i]=x at hx
  have hxd:(l.map dI)[i]? =some (.int .i64 x):=by rw[Ad,hx];rfl
  by_cases hb:0<=x/\x<=255
  ·(conv=>whnf)
   (repeat' ((first|refine Aj ?_ ?_|refine AO hxd rfl ?_|refine nx ?_|refine AB (λ_=>?_) (λ_=>?_)|exact AE)<;>conv=>whnf))
   exact⟨i+1,_,_,⟨by omega,AA5 hok hx (AC5 hb)⟩,.refl _ _,⟨rfl,rfl,rfl,trivial⟩,trivial,by omega⟩
  ·have e:Gu l=dF 3 i bA:=by unfold Gu;rw[ABN h8 hok hx (AEp hb)];rfl
   rw[e]
   by_cases h0:x<0
   ·(conv=>whnf)
    (repeat' ((first|refine Aj ?_ ?_|refine AO hxd rfl ?_|refine Af rfl (CH 3 i bA) ?_|refine nx ?_|refine AB (λ_=>?_) (λ_=>?_)|exact AE)<;>conv=>whnf))
    exact rfl
   ·(conv=>whnf)
    (repeat' ((first|refine Aj ?_ ?_|refine AO hxd rfl ?_|refine Af rfl (CH 3 i bA) ?_|refine nx ?_|refine AB (λ_=>?_) (λ_=>?_)|exact AE)<;>conv=>whnf))
    exact rfl
 ·have e:Gu l=.nili:=by unfold Gu;rw[Yq h8 (λk y hk hy=>hok k y (by omega) hy)]
  rw[e]
  ((conv=>whnf);repeat' ((first|refine odw ?_|refine nx ?_|refine AB (λ_=>?_) (λ_=>?_))<;>conv=>whnf))
  exact rfl
theorem Lb(e:Edg):Pure C1 221 [dE e] (λy=>y=dE (turn e)):=by
 refine AU Tryz.func221 Tryz.ntmps221 [] [] ?_
 ((conv=>whnf);repeat' ((first|refine odw ?_|refine nx ?_|refine AB (λ_=>?_) (λ_=>?_))<;>conv=>whnf))
 exact rfl
theorem RV(e:Edg)(n:Nat):Pure C1 166 [dE e,.int .i64 n] (λy=>y=.bool (decide (0<=min e.a e.b/\max e.a e.b<n))):=by
 refine AU Tryz.func166 Tryz.ntmps166 [] [] ?_
 by_cases h1:0<=min e.a e.b
 ·by_cases h2:max e.a e.b<n
  ·rw[decide_eq_true ⟨h1,h2⟩]
   ((conv=>whnf);repeat' ((first|refine odw ?_|refine nx ?_|refine AB (λ_=>?_) (λ_=>?_))<;>conv=>whnf))
   exact congrArg Da.bool (decide_eq_true h2)
  ·rw[decide_eq_false (λh=>h2 h.2)]
   ((conv=>whnf);repeat' ((first|refine odw ?_|refine nx ?_|refine AB (λ_=>?_) (λ_=>?_))<;>conv=>whnf))
   exact congrArg Da.bool (decide_eq_false h2)
 ·rw[decide_eq_false (λh=>h1 h.1)]
  ((conv=>whnf);repeat' ((first|refine odw ?_|refine nx ?_|refine AB (λ_=>?_) (λ_=>?_))<;>conv=>whnf))
  exact rfl
def ADE:List (Nat×Plan):=[(1,.leaf [0,1,0,1,2,0,1,0,1,2,6,2,0] [0,2,5,7,1,3,6,8,4,9,10,11,12] [0,1,0,4,15,0,32,0,128,511,1023,2047,4095])]
def AFk:List FuncId:=[31,30]
theorem Mi(x y:Edg):Pure C1 34 [dE x,dE y] (λz=>z=.int .i64 (C2 x y)):=by
 refine AU Tryz.func34 Tryz.ntmps34 AFk ADE ?_
 have h1:=Fz x.a y.a
 have h2:=Fz x.b y.b
 have h3:=mT (De x.a y.a) (De x.b y.b)
 (conv=>whnf)
 (repeat' ((first|refine Aj ?_ ?_|refine Af rfl h1 ?_|refine Af rfl h2 ?_|refine Bq tab rfl h3 rfl ?_|refine nx ?_|refine AB (λ_=>?_) (λ_=>?_)|exact AE)<;>conv=>whnf))
 exact rfl
end Go.Proofs.YtjpmmkodoeipmaaGreatDoor
end
