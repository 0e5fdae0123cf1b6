/- Merged: Gra Grc Pta Grp Gri Grd Fal Ptc. -/
import Derived.Test.YtjpmmkodoeipmaaGreatDoorrkaf
import Derived.Test.YtjpmmkodoeipmaaGreatDoorrkap
section
namespace Go.Gr
structure Edg where
 a:Int
 b:Int
 deriving DecidableEq
def turn(e:Edg):Edg:=⟨min e.a e.b,max e.a e.b⟩
def Db(a b:Int):Int:=if a<b then-1 else if b<a then 1 else 0
def Cy(x y:Edg):Int:=if Db x.a y.a≠0 then Db x.a y.a else Db x.b y.b
theorem Nx(a b:Int):Db a b<0↔a<b:=by unfold Db;split<;>first|omega|(split<;>omega)
theorem JL(a b:Int):Db a b=0↔a=b:=by unfold Db;split<;>first|omega|(split<;>omega)
theorem tO(a b:Int):Db b a=-Db a b:=by unfold Db;split<;>split<;>first|omega|(split<;>omega)
theorem F9(x y:Edg):Cy x y<0↔x.a<y.a\/(x.a=y.a/\x.b<y.b):=by
 unfold Cy
 have h1:=Nx x.a y.a
 have h2:=JL x.a y.a
 have h3:=Nx x.b y.b
 split<;>omega
theorem YA(x y:Edg):Cy x y=0↔x=y:=by
 unfold Cy
 have h2:=JL x.a y.a
 have h3:=JL x.b y.b
 constructor
 ·intro h
  split at h
  ·omega
  ·cases x;cases y;simp_all
 ·rintro rfl
  rw[if_neg (by omega)];omega
theorem Q2(x y:Edg):Cy x y<0\/x=y\/Cy y x<0:=by
 rw[F9,F9]
 by_cases h:x=y
 ·exact .inr (.inl h)
 ·have:¬(x.a=y.a/\x.b=y.b):=λ⟨h1,h2⟩=>h (by cases x;cases y;simp_all)
  omega
theorem GV {x y z:Edg}(h1:Cy x y<0)(h2:Cy y z<0):Cy x z<0:=by
 rw[F9]at*;omega
theorem dY(x:Edg):¬Cy x x<0:=by rw[F9];omega
theorem RG {x y:Edg}(h:Cy x y<0):¬Cy y x<0:=by rw[F9]at*;omega
theorem VT(e:Edg):turn (turn e)=turn e:=by unfold turn;simp only[Edg.mk.injEq];omega
theorem Ii(a b:Int):turn ⟨a,b⟩=turn ⟨b,a⟩:=by unfold turn;simp only[Edg.mk.injEq];omega
theorem J7 {e:Edg}(h:e.a<=e.b):turn e=e:=by cases e;unfold turn;simp only[Edg.mk.injEq]at*;omega
theorem Qq {α β:Type} {l:List α} {f g:α->List β}(h:∀x∈l,f x=g x):l.flatMap f=l.flatMap g:=by
 induction l with
 |nil=>rfl
 |cons x l ih=>rw[BD,BD,h x (by simp),ih (λy hy=>h y (by simp[hy]))]
def CB(l:List Edg):Prop:=l.Pairwise (λx y=>Cy x y<0)
theorem Ki:∀{l1 l2:List Edg},l1.Perm l2->CB l1->CB l2->l1=l2
 |[],l2,hp,_,_=>(List.nil_perm.1 hp).symm
 |x::l1,[],hp,_,_=>by simp at hp
 |
  x::l1,y::l2,hp,h1,h2=>by
  have g1:=BZ.1 h1
  have g2:=BZ.1 h2
  have hxy:x=y:=by
   have hx:x∈y::l2:=hp.mem_iff.1 (by simp)
   have hy:y∈x::l1:=hp.mem_iff.2 (by simp)
   rcases Ai.1 hx with h|h
   ·exact h
   ·rcases Ai.1 hy with h'|h'
    ·exact h'.symm
    ·exact absurd (g2.1 x h) (RG (g1.1 y h'))
  subst hxy
  rw[Ki (List.Perm.cons_inv hp) g1.2 g2.2]
theorem Kh {l:List Edg}(hn:l.Nodup)(h:l.Pairwise (λx y=>¬Cy y x<0)):CB l:=by
 refine(hn.and h).imp ?_
 rintro x y ⟨h1,h2⟩
 rcases Q2 x y with h|h|h
 ·exact h
 ·exact absurd h h1
 ·exact absurd h h2
theorem CB.nodup {l:List Edg}(h:CB l):l.Nodup:=h.imp λh e=>by subst e;exact dY _ h
def RN(n:Nat)(R:Nat->List Int)(D:Nat->Nat):List Int:=(List.range n).flatMap λv=>R v++List.replicate (D v- (R v).length) 0
def off(D:Nat->Nat):Nat->Nat
 |0=>0
 |v+1=>off D v+D v
theorem Jh(D:Nat->Nat) {v n:Nat}(h:v<=n):off D v<=off D n:=by
 induction n with
 |zero=>
           have:v=0:=by omega
           subst this;exact Ax _
 |
  succ n ih=>
  rcases BL v (n+1)with h1|h1
  ·have:=ih (by omega);simp only[off];omega
  ·have:v=n+1:=by omega
   subst this;exact Ax _
theorem Q8(n:Nat)(R:Nat->List Int)(D:Nat->Nat):RN (n+1) R D=RN n R D++(R n++List.replicate (D n- (R n).length) 0):=by
 simp[RN,D1]
theorem YE {n:Nat} {R:Nat->List Int} {D:Nat->Nat}(h:∀v,(R v).length<=D v):(RN n R D).length=off D n:=by
 induction n with
 |zero=>rfl
 |
  succ n ih=>
  have:=h n
  rw[Q8,Ah,ih]
  simp[off];omega
def more(R:Nat->List Int)(v:Nat)(u:Int):Nat->List Int:=λw=>if w=v then R v++[u]else R w
theorem oJ {n v:Nat} {R:Nat->List Int} {D:Nat->Nat}(u:Int)(h:∀v,(R v).length<=D v)(hv:v<n)(hr:(R v).length<D v):(RN n R D).set (off D v+(R v).length) u=RN n (more R v u) D:=by
 induction n with
 |zero=>omega
 |
  succ n ih=>
  rw[Q8,Q8]
  have hl:=YE (n:=n) h
  by_cases hvn:v<n
  ·have h1:off D v+(R v).length<(RN n R D).length:=by
    have:=Jh D (show v+1<=n by omega)
    simp only[off]at this
    omega
   rw[List.set_append_left _ _ h1,ih hvn]
   have hne:¬n=v:=by omega
   simp[more,hne]
  ·have hvn':v=n:=by omega
   subst hvn'
   rw[Jy _ _ (by omega),hl,Nat.add_sub_cancel_left]
   have hsame:RN v (more R v u) D=RN v R D:=by
    unfold RN
    refine Qq λw hw=>?_
    have:¬w=v:=by have:=AM.1 hw;omega
    simp[more,this]
   rw[hsame]
   congr 1
   have hd:D v- (R v).length=(D v- (R v).length-1)+1:=by omega
   rw[Jy _ _ (Ax _),Dy,hd,List.replicate_succ,List.set_cons_zero]
   have hm:more R v u v=R v++[u]:=by simp[more]
   rw[hm,Ah,BE,Bj,show D v- ((R v).length+1)=D v- (R v).length-1 by omega]
   rfl
theorem eP {n:Nat} {R:Nat->List Int} {D:Nat->Nat}(h:∀v,v<n->(R v).length=D v):RN n R D=(List.range n).flatMap R:=by
 unfold RN
 refine Qq λw hw=>?_
 rw[h w (AM.1 hw)];simp
theorem map_set {α:Type}(m k:Nat)(f:Nat->α)(x:α):((List.range m).map f).set k x=(List.range m).map (λv=>if v=k then x else f v):=by
 apply Cb
 intro i
 rw[Bf]
 simp only[Ac,D9,Ad]
 by_cases hi:i<m
 ·rw[CN hi]
  by_cases e:k=i
  ·subst e;simp[hi]
  ·have:¬i=k:=λh=>e h.symm
   simp[e,this]
 ·have h1:(List.range m)[i]? =none:=by simp;omega
  rw[h1]
  by_cases e:k=i
  ·subst e;simp[hi]
  ·simp[e]
theorem Yl {α:Type} {m v:Nat}(f:Nat->α)(h:v<m):((List.range m).map f)[v]? =some (f v):=by simp[h]
def FP(E:List Edg)(v:Nat):List Int:=(E.filter λe=>decide (e.b=(v:Int))).map (·.a)
def Fg(E:List Edg)(v:Nat):List Int:=(E.filter λe=>decide (e.a=(v:Int))).map (·.b)
def Ep(E:List Edg)(v:Nat):List Int:=FP E v++Fg E v
def Ic(E:List Edg)(v:Nat):List Int:=(E.zipIdx.filter λp=>decide (p.1.b=(v:Int))).map λp=>(p.2:Int)
def GO(E:List Edg)(v:Nat):List Int:=(E.zipIdx.filter λp=>decide (p.1.a=(v:Int))).map λp=>(p.2:Int)
def Iq(E:List Edg)(v:Nat):List Int:=Ic E v++GO E v
def Hz(E:List Edg)(v:Nat):Nat:=(Ep E v).length
theorem bQ(E:List Edg)(e:Edg)(v:Nat):Ic (E++[e]) v=Ic E v++(if e.b=v then[(E.length:Int)]else[])/\GO (E++[e]) v=GO E v++(if e.a=v then[(E.length:Int)]else[]):=by
 unfold Ic GO
 rw[List.zipIdx_append]
 constructor
 ·simp only[List.zipIdx_singleton,Ca,A7]
  congr 1
  by_cases h:e.b=v<;>simp[h]
 ·simp only[List.zipIdx_singleton,Ca,A7]
  congr 1
  by_cases h:e.a=v<;>simp[h]
theorem Nj(E:List Edg)(e:Edg)(v:Nat):FP (E++[e]) v=FP E v++(if e.b=v then[e.a]else[])/\Fg (E++[e]) v=Fg E v++(if e.a=v then[e.b]else[]):=by
 unfold FP Fg
 constructor
 ·simp only[Ca,A7]
  congr 1
  by_cases h:e.b=v<;>simp[h]
 ·simp only[Ca,A7]
  congr 1
  by_cases h:e.a=v<;>simp[h]
theorem Nr(E:List Edg)(v:Nat):(Ic E v).length=(FP E v).length/\(GO E v).length=(Fg E v).length:=by
 have key:∀(f:Edg->Bool) (E:List Edg) (k:Nat),((E.zipIdx k).filter λp=>f p.1).length=(E.filter f).length:=by
  intro f E
  induction E with
  |nil=>intro k;rfl
  |
   cons e E ih=>
   intro k
   simp only[RS,KO]
   split<;>simp[ih]
 unfold Ic FP GO Fg
 simp only[Ac]
 exact⟨key (λe=>decide (e.b=(v:Int))) E 0,key (λe=>decide (e.a=(v:Int))) E 0⟩
theorem dB(E:List Edg)(e:Edg)(v:Nat):Hz (E++[e]) v=Hz E v+(if e.b=v then 1 else 0)+(if e.a=v then 1 else 0):=by
 unfold Hz Ep
 rw[(Nj E e v).1,(Nj E e v).2]
 simp only[Ah]
 split<;>split<;>simp<;>omega
theorem SY(E:List Edg)(n:Nat)(h:∀e∈E,0<=e.a/\e.a<n/\0<=e.b/\e.b<n):off (Hz E) n=2*E.length:=by
 have step:∀(E:List Edg) (e:Edg) (m:Nat),off (Hz (E++[e])) m=off (Hz E) m+(if 0<=e.b/\e.b<m then 1 else 0)+(if 0<=e.a/\e.a<m then 1 else 0):=by
  intro E e m
  induction m with
  |zero=>simp only[off];rw[if_neg (by omega),if_neg (by omega)]
  |
   succ m ih=>
   simp only[off,ih,dB]
   by_cases h1:e.b=(m:Int)<;>by_cases h2:e.a=(m:Int)<;>by_cases h3:(0<=e.b/\e.b<(m:Int))<;>by_cases h4:(0<=e.a/\e.a<(m:Int))<;>simp[h1,h2,h3,h4]<;>(repeat' split)<;>omega
 have key:∀k,off (Hz (E.take k)) n=2*(E.take k).length:=by
  intro k
  induction k with
  |
   zero=>
   simp only[List.take_zero,Bt]
   have:∀m,off (Hz []) m=0:=λm=>by induction m with|zero=>rfl|succ m ih=>simp[off,ih,Hz,Ep,FP,Fg]
   rw[this]
  |
   succ k ih=>
   rw[Ay]
   cases hk:E[k]? with
   |none=>simpa using ih
   |
    some e=>
    have:=h e (A8 hk)
    simp only[Option.toList]
    rw[step,ih,if_pos ⟨this.2.2.1,this.2.2.2⟩,if_pos ⟨this.1,this.2.1⟩]
    simp;omega
 have:=key E.length
 rwa [Ez]at this
end Go.Gr
namespace Go.Gr
structure Gr where
 labels:List Int
 edges:List Edg
structure Gr.Ok(G:Gr):Prop where
 size:G.labels.length<=4096
 esize:G.edges.length<=16384
 lab:∀l∈G.labels,0<=l/\l<=255
 edge:∀e∈G.edges,0<=e.a/\e.a<e.b/\e.b<G.labels.length
 sorted:CB G.edges
def BX(l:Int):Bool:=decide (l<0)||decide (255<l)
def Jr(n:Nat)(seen:List Edg)(e:Edg):Int:=
 if min e.a e.b<0\/(n:Int)<=max e.a e.b then 3 else if e.a=e.b then 1 else if turn e∈seen then 4 else 0
def Dl(n:Nat)(edges:List Edg)(i:Nat):Int:=match edges[i]? with
 |some e=>Jr n ((edges.take i).map turn) e
 |none=>0
def Eo(labels:List Int)(edges:List Edg):Option (Int×Int×Bool):=
 if 4096<labels.length\/16384<edges.length then some (6,0,false)
 else match labels.findIdx? BX with
  |some v=>some (3,(v:Int),false)
  |
   none=>match(List.range edges.length).find? (λi=>decide (Dl labels.length edges i≠0))with
   |some i=>some (Dl labels.length edges i,(i:Int),true)
   |none=>none
theorem ID {labels:List Int} {edges:List Edg}(h:4096<labels.length\/16384<edges.length):Eo labels edges=some (6,0,false):=by
 unfold Eo;rw[if_pos h]
theorem IE {labels:List Int} {edges:List Edg}(h:¬(4096<labels.length\/16384<edges.length)) {v:Nat} {l:Int}(hv:labels[v]? =some l)(hb:BX l=true)(hn:∀x∈labels.take v,BX x=false):Eo labels edges=some (3,(v:Int),false):=by
 unfold Eo
 rw[if_neg h]
 have:labels.findIdx? BX=some v:=by
  rw[Ba]
  obtain⟨h1,h2⟩:=Ae.1 hv
  refine⟨h1,by rw[h2];exact hb,λj hj=>?_⟩
  have:=hn labels[j] (Bd.2 ⟨j,by omega,rfl⟩)
  simpa using this
 rw[this]
theorem Fs {labels:List Int} {edges:List Edg}(h:¬(4096<labels.length\/16384<edges.length))(hl:∀x∈labels,BX x=false) {i:Nat}(hi:i<edges.length)(hb:Dl labels.length edges i≠0)(hn:∀j,j<i->Dl labels.length edges j=0):Eo labels edges=some (Dl labels.length edges i,(i:Int),true):=by
 unfold Eo
 rw[if_neg h]
 have h1:labels.findIdx? BX=none:=by
  rw[Be];exact hl
 have h2:(List.range edges.length).find? (λi=>decide (Dl labels.length edges i≠0))=some i:=by
  rw[List.find?_range_eq_some]
  refine⟨by simpa using hb,by simpa using hi,λj hj=>by simpa using hn j hj⟩
 rw[h1,h2]
theorem JD {labels:List Int} {edges:List Edg}(h:¬(4096<labels.length\/16384<edges.length))(hl:∀x∈labels,BX x=false)(hn:∀j,j<edges.length->Dl labels.length edges j=0):Eo labels edges=none:=by
 unfold Eo
 rw[if_neg h]
 have h1:labels.findIdx? BX=none:=by
  rw[Be];exact hl
 have h2:(List.range edges.length).find? (λi=>decide (Dl labels.length edges i≠0))=none:=by
  rw[List.find?_range_eq_none]
  intro j hj
  simpa using hn j hj
 rw[h1,h2]
theorem cV {n:Nat} {edges:List Edg}(hn:∀j,j<edges.length->Dl n edges j=0):(edges.map turn).Nodup/\∀e∈edges.map turn,0<=e.a/\e.a<e.b/\e.b<n:=by
 have key:∀k,k<=edges.length->((edges.take k).map turn).Nodup/\∀e∈(edges.take k).map turn,0<=e.a/\e.a<e.b/\e.b<n:=by
  intro k
  induction k with
  |zero=>intro _;simp
  |
   succ k ih=>
   intro hk
   obtain⟨h1,h2⟩:=ih (by omega)
   have he:edges[k]? =some edges[k]:=Ab (by omega)
   generalize edges[k]=e at he
   have hc:=hn k (by omega)
   unfold Dl at hc
   rw[he]at hc
   simp only[Jr]at hc
   split at hc
   ·omega
   ·split at hc
    ·omega
    ·split at hc
     ·omega
     ·rename_i g1 g2 g3
      rw[Ay,he]
      simp only[Option.toList,A7,Ar,Bu]
      refine⟨?_,?_⟩
      ·rw[Dm]
       exact⟨h1,by simp,λa ha b hb e'=>by simp at hb;subst hb;subst e';exact g3 ha⟩
      ·intro x hx
       rcases Ag.1 hx with hx|hx
       ·exact h2 x hx
       ·simp at hx
        subst hx
        simp only[turn]
        omega
 have:=key edges.length (Ax _)
 rwa [Ez]at this
theorem rJ {labels:List Int} {edges:List Edg}(h:Eo labels edges=none):labels.length<=4096/\edges.length<=16384/\(∀x∈labels,BX x=false)/\(edges.map turn).Nodup/\∀e∈edges.map turn,0<=e.a/\e.a<e.b/\e.b<labels.length:=by
 unfold Eo at h
 split at h
 ·cases h
 ·rename_i h0
  split at h
  ·cases h
  ·rename_i h1
   split at h
   ·cases h
   ·rename_i h2
    rw[List.find?_range_eq_none]at h2
    have h3:=cV (n:=labels.length) (edges:=edges) (λj hj=>by have:=h2 j hj;simpa using this)
    exact⟨by omega,by omega,Be.1 h1,h3.1,h3.2⟩
theorem zM {labels:List Int} {edges E:List Edg}(h:Eo labels edges=none)(hp:E.Perm (edges.map turn))(hs:E.Pairwise (λx y=>¬Cy y x<0)):Gr.Ok ⟨labels,E⟩:=by
 obtain⟨h1,h2,h3,h4,h5⟩:=rJ h
 refine⟨h1,by simp only;rw[hp.length_eq];simpa using h2,λl hl=>?_,λe he=>h5 e (hp.mem_iff.1 he),Kh (hp.nodup_iff.2 h4) hs⟩
 have:=h3 l hl
 simp[BX]at this
 omega
end Go.Gr
end
section
namespace Go.Proofs.YtjpmmkodoeipmaaGreatDoor
open Go.Sx Go.RowKit Go.Reg Go.Gr
set_option maxRecDepth 100000
def dE(e:Edg):Da:=.agg [.int .i64 e.a,.int .i64 e.b]
def dI(n:Int):Da:=.int .i64 n
def Bn(l:List Int):Da:=.list 1 (l.map dI)
def Fa(l:List Edg):Da:=.list 2 (l.map dE)
def qQ:List (Nat×Plan):=[]
def AAF:List FuncId:=[]
theorem Ih(e:Edg):Pure C1 90 [dE e] (λy=>y=dE (turn e)):=by
 refine AW Tryz.func90 Tryz.ntmps90 AAF qQ ?_
 ((conv=>whnf);repeat' ((first|refine odw ?_|refine nx ?_|refine AD (λ_=>?_) (λ_=>?_))<;>conv=>whnf))
 all_goals exact rfl
def ADD:List (Nat×Plan):=[]
def AFo:List FuncId:=[]
theorem PV(a:Int):Pure C1 79 [.int .i64 a] (λy=>y=.bool false):=by
 refine AW Tryz.func79 Tryz.ntmps79 AFo ADD ?_
 ((conv=>whnf);repeat' ((first|refine odw ?_|refine nx ?_|refine AD (λ_=>?_) (λ_=>?_))<;>conv=>whnf))
 show Da.plain _=_
 simp[Da.plain]
def iH:List (Nat×Plan):=[]
def uI:List FuncId:=[]
theorem F4(a b:Int):Pure C1 31 [.int .i64 a,.int .i64 b] (λy=>y=.int .i64 (Db a b)):=by
 refine AW Tryz.func31 Tryz.ntmps31 uI iH ?_
 ((conv=>whnf);repeat' ((first|refine odw ?_|refine nx ?_|refine AD (λ_=>?_) (λ_=>?_))<;>conv=>whnf))
 refine AS rfl (PV a) ?_;rintro y rfl;((conv=>whnf);repeat' ((first|refine odw ?_|refine nx ?_|refine AD (λ_=>?_) (λ_=>?_))<;>conv=>whnf))
 refine AS rfl (PV b) ?_;rintro y rfl;((conv=>whnf);repeat' ((first|refine odw ?_|refine nx ?_|refine AD (λ_=>?_) (λ_=>?_))<;>conv=>whnf))
 ·have e:Db a b=-1:=by unfold Db;rw[if_pos (by assumption)]
  rw[e];exact rfl
 ·have e:Db a b=1:=by unfold Db;rw[if_neg (by assumption),if_pos (by assumption)]
  rw[e];exact rfl
 ·have e:Db a b=0:=by unfold Db;rw[if_neg (by assumption),if_neg (by assumption)]
  rw[e];exact rfl
def ACR:List (Nat×Plan):=[]
def AFn:List FuncId:=[]
theorem mV(a b:Int):Pure C1 30 [.list 1 [.int .i64 a,.int .i64 b]] (λy=>y=.int .i64 (if a≠0 then a else b)):=by
 refine AW Tryz.func30 Tryz.ntmps30 AFn ACR ?_
 ((conv=>whnf);repeat' ((first|refine odw ?_|refine nx ?_|refine AD (λ_=>?_) (λ_=>?_))<;>conv=>whnf))
 refine yW (ι:=Nat) (λi=>i<=2/\(1<=i->a=0)/\(2<=i->b=0)) (λi=>[(3,.d (.int .i64 0)),(6,.d (.list 1 [.int .i64 a,.int .i64 b])),(7,.d (.int .i64 2)),(8,.d (.int .i64 i))]) (λ_=>[]) (λi=>2-i) 0 (λ_=>rfl) ⟨by omega,by omega,by omega⟩ ⟨rfl,rfl,rfl,rfl,trivial⟩ trivial ?_
 rintro i ⟨hi,h1,h2⟩
 refine Cd AFn ACR ?_
 rcases(show i=0\/i=1\/i=2 by omega)with rfl|rfl|rfl
 ·by_cases ha:a=0
  ·((conv=>whnf);repeat' ((first|refine odw ?_|refine nx ?_|refine AD (λ_=>?_) (λ_=>?_))<;>conv=>whnf))
   refine⟨0,_,rfl,rfl,?_⟩
   ((conv=>whnf);repeat' ((first|refine odw ?_|refine nx ?_|refine AD (λ_=>?_) (λ_=>?_))<;>conv=>whnf))
   exact⟨1,⟨by omega,λ_=>ha,by omega⟩,⟨rfl,rfl,rfl,rfl,trivial⟩,trivial,by omega⟩
  ·rw[if_pos ha]
   ((conv=>whnf);repeat' ((first|refine odw ?_|refine nx ?_|refine AD (λ_=>?_) (λ_=>?_))<;>conv=>whnf))
   refine⟨0,_,rfl,rfl,?_⟩
   ((conv=>whnf);repeat' ((first|refine odw ?_|refine nx ?_|refine AD (λ_=>?_) (λ_=>?_))<;>conv=>whnf))
   exact rfl
 ·rw[if_neg (by have:=h1 (by omega);omega)]
  by_cases hb:b=0
  ·((conv=>whnf);repeat' ((first|refine odw ?_|refine nx ?_|refine AD (λ_=>?_) (λ_=>?_))<;>conv=>whnf))
   refine⟨1,_,rfl,rfl,?_⟩
   ((conv=>whnf);repeat' ((first|refine odw ?_|refine nx ?_|refine AD (λ_=>?_) (λ_=>?_))<;>conv=>whnf))
   exact⟨2,⟨by omega,λ_=>h1 (by omega),λ_=>hb⟩,⟨rfl,rfl,rfl,rfl,trivial⟩,trivial,by omega⟩
  ·((conv=>whnf);repeat' ((first|refine odw ?_|refine nx ?_|refine AD (λ_=>?_) (λ_=>?_))<;>conv=>whnf))
   refine⟨1,_,rfl,rfl,?_⟩
   ((conv=>whnf);repeat' ((first|refine odw ?_|refine nx ?_|refine AD (λ_=>?_) (λ_=>?_))<;>conv=>whnf))
   exact rfl
 ·rw[if_neg (by have:=h1 (by omega);omega),h2 (by omega)]
  ((conv=>whnf);repeat' ((first|refine odw ?_|refine nx ?_|refine AD (λ_=>?_) (λ_=>?_))<;>conv=>whnf))
  exact rfl
def xE:List (Nat×Plan):=[(1,.leaf [0,1,0,1,2,0,1,0,1,2,6,2,0] [0,2,5,7,1,3,6,8,4,9,10,11,12] [0,1,0,4,15,0,32,0,128,511,1023,2047,4095])]
def ACJ:List FuncId:=[31,30]
theorem iN(x y:Edg):Pure C1 92 [dE x,dE y] (λr=>r=.int .i64 (Cy x y)):=by
 refine AW Tryz.func92 Tryz.ntmps92 ACJ xE ?_
 ((conv=>whnf);repeat' ((first|refine odw ?_|refine nx ?_|refine AD (λ_=>?_) (λ_=>?_))<;>conv=>whnf))
 refine AS rfl (F4 _ _) ?_;rintro r rfl;((conv=>whnf);repeat' ((first|refine odw ?_|refine nx ?_|refine AD (λ_=>?_) (λ_=>?_))<;>conv=>whnf))
 refine AS rfl (F4 _ _) ?_;rintro r rfl;((conv=>whnf);repeat' ((first|refine odw ?_|refine nx ?_|refine AD (λ_=>?_) (λ_=>?_))<;>conv=>whnf))
 refine SB tab rfl (mV _ _) (λy hy=>by subst hy;rfl) ?_;rintro r rfl;((conv=>whnf);repeat' ((first|refine odw ?_|refine nx ?_|refine AD (λ_=>?_) (λ_=>?_))<;>conv=>whnf))
 exact rfl
def Mo:List (Nat×Plan):=[]
def QF:List FuncId:=[]
theorem tK:CH Tryz.prog QF Mo (Tryz.f88.body.getD .skip)=true:=by kernel_rfl
theorem pW(vs:Array Value)(w:World):(callFunc 88 vs).run C1.P w=.ok (.enter 88 vs) w:=by kernel_rfl
theorem It(l:List Int)(hl:l.length<=4294967296):E5 C1 88 [Bn l] 3 1 (λds=>ds=l.map dI):=by
 have hlm:(l.map dI).length=l.length:=Ac _
 refine nC EO (pl:=Mo) (G:=QF) Tryz.func88 rfl Tryz.ntmps88 pW tK (by simp) ?_
 cases l with
 |
  nil=>
  ((conv=>whnf);repeat' ((first|refine odw ?_|refine nx ?_|refine AD (λ_=>?_) (λ_=>?_))<;>conv=>whnf))
  refine Yd rfl Tryz.underlying22 rfl rfl (.inr rfl) rfl ?_
  intro b
  cases b<;>((conv=>whnf);repeat' ((first|refine odw ?_|refine nx ?_|refine AD (λ_=>?_) (λ_=>?_))<;>conv=>whnf))
  ·exact⟨rfl,rfl,rfl⟩
  ·exact rfl
 |
  cons x l=>
  have hlm2:(([]:List Da).length+((x::l).map dI).length)<=4294967296:=by rw[hlm];simpa using hl
  ((conv=>whnf);repeat' ((first|refine odw ?_|refine nx ?_|refine AD (λ_=>?_) (λ_=>?_))<;>conv=>whnf))
  refine JE hlm2 ?_
  ((conv=>whnf);repeat' ((first|refine odw ?_|refine nx ?_|refine AD (λ_=>?_) (λ_=>?_))<;>conv=>whnf))
  exact⟨rfl,rfl,by simp⟩
end Go.Proofs.YtjpmmkodoeipmaaGreatDoor
end
section
namespace Go.Gr
structure Pt where
 labels:List Int
 edges:List Edg
theorem S3 {α:Type} {f:Nat->Option α} {n i:Nat} {y:α}(h:∀k,k<i->f k=none)(hi:f i=some y)(hn:i<n):(List.range n).findSome? f=some y:=by
 rw[List.findSome?_eq_some_iff]
 refine⟨List.range i,i,(List.range (n-i-1)).map (λk=>i+1+k),?_,hi,λk hk=>h k (AM.1 hk)⟩
 apply Cb
 intro k
 by_cases h1:k<n
 ·rw[CN h1]
  rcases fJ k i with h2|h2|h2
  ·rw[Bi (by simpa using h2),CN h2]
  ·subst h2
   rw[Bv (by simp),D9,Dy];rfl
  ·rw[Bv (by simp;omega),D9]
   obtain⟨d,hd⟩:∃d,k-i=d+1:=⟨k-i-1,by omega⟩
   rw[hd,List.getElem?_cons_succ,Ad,CN (by omega)]
   simp;omega
 ·rw[AI (by simp;omega),AI (by simp;omega)]
theorem MK {α:Type} {f:Nat->Option α} {n:Nat}(h:∀k,k<n->f k=none):(List.range n).findSome? f=none:=by
 rw[List.findSome?_eq_none_iff]
 exactλk hk=>h k (AM.1 hk)
def M6(l:List Int):Option (Int×Nat):=if 8<l.length then some (6,0)else(List.range l.length).findSome? λi=>if BX ((l[i]?).getD 0)then some (3,i)else none
def Y4(n:Nat)(p:Option Edg)(e:Edg):Option Int:=
 if¬(0<=min e.a e.b/\max e.a e.b<n)then some 3 else if e.b<=e.a then some 2 else match p with
  |none=>none
  |some q=>if Cy q e<0 then none else some 2
def Y5(n:Nat)(E:List Edg)(i:Nat):Option (Int×Nat):=match E[i]? with
 |none=>none
 |some e=>(Y4 n (if i=0 then none else E[i-1]?) e).map λc=>(c,i)
def sW(n:Nat)(E:List Edg):Option (Int×Nat):=(List.range E.length).findSome? (Y5 n E)
def Dp(p:Pt):Option (Int×Nat):=match M6 p.labels with
 |some x=>some x
 |none=>sW p.labels.length p.edges
theorem CS {l:List Int}(h:M6 l=none):l.length<=8/\∀x∈l,0<=x/\x<=255:=by
 unfold M6 at h
 split at h
 ·cases h
 ·refine⟨by omega,λx hx=>?_⟩
  obtain⟨i,hi,rfl⟩:=C4.1 hx
  have:=(List.findSome?_eq_none_iff.1 h) i (AM.2 hi)
  rw[Ab hi]at this
  simp[BX]at this
  omega
theorem sV {n:Nat} {E:List Edg}(h:sW n E=none):(∀e∈E,0<=e.a/\e.a<e.b/\e.b<n)/\∀i x y,E[i]? =some x->E[i+1]? =some y->Cy x y<0:=by
 have key:∀i e,E[i]? =some e->Y4 n (if i=0 then none else E[i-1]?) e=none:=by
  intro i e hx
  have:=(List.findSome?_eq_none_iff.1 h) i (AM.2 (Ae.1 hx).1)
  unfold Y5 at this
  rw[hx]at this
  simpa using this
 refine⟨λe he=>?_,λi x y hx hy=>?_⟩
 ·obtain⟨i,hi,rfl⟩:=C4.1 he
  have:=key i _ (Ab hi)
  unfold Y4 at this
  split at this
  ·cases this
  ·split at this
   ·cases this
   ·omega
 ·have:=key (i+1) y hy
  rw[if_neg (by omega),Nat.add_sub_cancel,hx]at this
  unfold Y4 at this
  split at this
  ·cases this
  ·split at this
   ·cases this
   ·simp only at this
    split at this
    ·assumption
    ·cases this
end Go.Gr
end
section
namespace Go.Gr
theorem rW(E:List Edg)(i v:Nat):(FP (E.take i) v).length<=(FP E v).length:=by
 unfold FP
 rw[Ac,Ac]
 exact((fK i E).filter _).length_le
theorem rM(E:List Edg)(i v:Nat):(Fg (E.take i) v).length<=(Fg E v).length:=by
 unfold Fg
 rw[Ac,Ac]
 exact((fK i E).filter _).length_le
theorem Vn(E:List Edg)(v:Nat):Hz E v<=E.length*2:=by
 unfold Hz Ep FP Fg
 rw[Ah,Ac,Ac]
 have h1:=CM (λe:Edg=>decide (e.b=(v:Int))) E
 have h2:=CM (λe:Edg=>decide (e.a=(v:Int))) E
 omega
def FU(E:List Edg):Nat->Int
 |0=>0
 |v+1=>(Hz E v:Int)
theorem Vo(E:List Edg)(v:Nat):0<=FU E v/\FU E v<=E.length*2:=by
 cases v with
 |zero=>simp only[FU];omega
 |succ v=>have:=Vn E v;simp only[FU];omega
theorem Fc {E:List Edg} {i:Nat} {e:Edg}(h:E[i]? =some e):E.take (i+1)=E.take i++[e]:=by
 rw[Ay,h];rfl
theorem lA {E:List Edg} {i:Nat} {a b:Nat}(h:E[i]? =some ⟨(a:Int),(b:Int)⟩)(hab:a<b)(v:Nat):
  FU (E.take (i+1)) v=if v=b+1 then FU (E.take i) (b+1)+1 else if v=a+1 then FU (E.take i) (a+1)+1 else FU (E.take i) v:=by
 rw[Fc h]
 cases v with
 |zero=>simp[FU]
 |
  succ v=>
  simp only[FU,dB,Nat.add_right_cancel_iff]
  by_cases h1:v=b
  ·subst h1
   rw[if_pos rfl,if_pos rfl,if_neg (by omega)];omega
  ·rw[if_neg (by omega),if_neg h1]
   by_cases h2:v=a
   ·subst h2;rw[if_pos rfl,if_pos rfl];omega
   ·rw[if_neg (by omega),if_neg h2];omega
def G4(E:List Edg)(j v:Nat):Int:=if v<=j then(off (Hz E) v:Int)else FU E v
theorem gB(E:List Edg)(v:Nat):G4 E 0 v=FU E v:=by
 cases v with
 |zero=>rfl
 |succ v=>simp[G4]
theorem gC(E:List Edg)(j v:Nat):G4 E (j+1) v=if v=j+1 then G4 E j (j+1)+G4 E j j else G4 E j v:=by
 simp only[G4]
 by_cases h:v=j+1
 ·subst h
  rw[if_pos (Ax _),if_pos rfl,if_neg (by omega),if_pos (Ax _)]
  simp only[off,FU];omega
 ·rw[if_neg h]
  by_cases h2:v<=j
  ·rw[if_pos (by omega),if_pos h2]
  ·rw[if_neg (by omega),if_neg h2]
theorem ADR(E:List Edg)(n:Nat)(h:∀e∈E,0<=e.a/\e.a<n/\0<=e.b/\e.b<n) {v:Nat}(hv:v<=n):off (Hz E) v<=2*E.length:=by
 have:=Jh (Hz E) hv
 rw[SY E n h]at this
 exact this
def Hw(E:List Edg)(i j:Nat)(v:Nat):List Int:=FP (E.take i) v++Fg (E.take j) v
def J0(E:List Edg)(i j:Nat)(v:Nat):List Int:=Ic (E.take i) v++GO (E.take j) v
theorem SS(E:List Edg)(i j v:Nat):(Hw E i j v).length<=Hz E v:=by
 unfold Hw Hz Ep
 rw[Ah,Ah]
 have:=rW E i v
 have:=rM E j v
 omega
theorem Z5(E:List Edg)(i j v:Nat):(J0 E i j v).length=(Hw E i j v).length:=by
 unfold Hw J0
 rw[Ah,Ah,(Nr _ v).1,(Nr _ v).2]
theorem mN(E:List Edg)(i j v:Nat):(J0 E i j v).length<=Hz E v:=by rw[Z5];exact SS E i j v
theorem Wi(E:List Edg)(v:Nat):Hw E 0 0 v=[]:=by simp[Hw,FP,Fg]
theorem qE(E:List Edg)(v:Nat):J0 E 0 0 v=[]:=by simp[J0,Ic,GO]
theorem qC {E:List Edg} {i:Nat} {a b:Nat}(h:E[i]? =some ⟨(a:Int),(b:Int)⟩):Hw E (i+1) 0=more (Hw E i 0) b a:=by
 funext v
 unfold Hw more
 rw[Fc h,(Nj _ _ _).1]
 simp only[List.take_zero,AAY]
 by_cases hv:v=b
 ·subst hv;simp[Fg]
 ·have:¬b=v:=λe=>hv e.symm
  simp[Fg,hv,this]
theorem qG {E:List Edg} {i:Nat} {a b:Nat}(h:E[i]? =some ⟨(a:Int),(b:Int)⟩):J0 E (i+1) 0=more (J0 E i 0) b i:=by
 funext v
 have hi:i<E.length:=(Ae.1 h).1
 unfold J0 more
 rw[Fc h,(bQ _ _ _).1]
 simp only[List.take_zero,AAY,AA,LN (Nat.le_of_lt hi)]
 by_cases hv:v=b
 ·subst hv;simp[GO]
 ·have:¬b=v:=λe=>hv e.symm
  simp[GO,hv,this]
theorem qB {E:List Edg} {k j:Nat} {a b:Nat}(h:E[j]? =some ⟨(a:Int),(b:Int)⟩):Hw E k (j+1)=more (Hw E k j) a b:=by
 funext v
 unfold Hw more
 rw[Fc h,(Nj _ _ _).2]
 simp only[AAY]
 by_cases hv:v=a
 ·subst hv;simp
 ·have:¬a=v:=λe=>hv e.symm
  simp[hv,this]
theorem qF {E:List Edg} {k j:Nat} {a b:Nat}(h:E[j]? =some ⟨(a:Int),(b:Int)⟩):J0 E k (j+1)=more (J0 E k j) a j:=by
 funext v
 have hj:j<E.length:=(Ae.1 h).1
 unfold J0 more
 rw[Fc h,(bQ _ _ _).2]
 simp only[AAY,AA,LN (Nat.le_of_lt hj)]
 by_cases hv:v=a
 ·subst hv;simp
 ·have:¬a=v:=λe=>hv e.symm
  simp[hv,this]
theorem vX(E:List Edg):Hw E E.length E.length=Ep E:=by funext v;simp[Hw,Ep]
theorem vY(E:List Edg):J0 E E.length E.length=Iq E:=by funext v;simp[J0,Iq]
theorem yN(R:Nat->List Int)(v:Nat)(u:Int)(w:Nat):((more R v u w).length:Int)=if w=v then((R v).length:Int)+1 else(R w).length:=by
 unfold more;split<;>simp
theorem Ue {E:List Edg} {i j i' j' v:Nat} {u:Int}(h:Hw E i' j'=more (Hw E i j) v u):(Hw E i j v).length<Hz E v:=by
 have:=SS E i' j' v
 rw[h]at this
 simp only[more,if_true,Ah,BE]at this
 omega
theorem eN(n:Nat)(D:Nat->Nat)(R:Nat->List Int)(h:∀v,R v=[]):RN n R D=List.replicate (off D n) 0:=by
 induction n with
 |zero=>rfl
 |succ n ih=>rw[Q8,ih,h n];simp[off,List.replicate_append_replicate]
end Go.Gr
end
section
namespace Go.Gr
def leE(x y:Edg):Bool:=decide (¬Cy y x<0)
def Hu(edges:List Edg):List Edg:=(edges.map turn).mergeSort leE
theorem HS(edges:List Edg):(Hu edges).Perm (edges.map turn):=H9 _ _
theorem L3(edges:List Edg):(Hu edges).Pairwise (λx y=>¬Cy y x<0):=by
 have h:=N2 (le:=leE) (λa b c h1 h2=>by
  simp only[leE,decide_eq_true_eq]at*
  intro h3
  rcases Q2 a b with h|h|h
  ·exact h2 (GV h3 h)
  ·subst h;exact h2 h3
  ·exact h1 h) (λa b=>by
  simp only[leE,Dj,decide_eq_true_eq]
  by_cases h:Cy b a<0
  ·exact .inr (RG h)
  ·exact .inl h) (edges.map turn)
 exact h.imp (λh=>by simpa[leE]using h)
theorem Vu {edges E:List Edg}(hn:(edges.map turn).Nodup)(hp:E.Perm (edges.map turn))(hs:E.Pairwise (λx y=>¬Cy y x<0)):E=Hu edges:=
 Ki (hp.trans (HS edges).symm) (Kh (hp.nodup_iff.2 hn) hs) (Kh ((HS edges).nodup_iff.2 hn) (L3 edges))
theorem CB.le {E:List Edg}(h:CB E):E.Pairwise (λx y=>¬Cy y x<0):=h.imp λh=>RG h
theorem Q5 {labels:List Int} {edges:List Edg}(h:Eo labels edges=none):Gr.Ok ⟨labels,Hu edges⟩:=zM h (HS edges) (L3 edges)
theorem RI(edges:List Edg):(Hu edges).length=edges.length:=by rw[(HS edges).length_eq,Ac]
def MA(S:List Edg)(k:Nat)(e:Edg):List Edg:=S.take k++[e]++S.drop k
theorem jX(S:List Edg)(k:Nat)(e:Edg):(MA S k e).Perm (e::S):=by
 unfold MA
 rw[Bj,ACC]
 refine List.perm_middle.trans ?_
 rw[Cf]
theorem Yv {S:List Edg} {k:Nat} {e:Edg}(hS:CB S)(h1:∀x∈S.take k,Cy x e<0)(h2:∀x,S[k]? =some x->¬Cy x e<0)(hn:e∉S):CB (MA S k e):=by
 unfold MA CB
 rw[Bj,ACC,Dr,BZ]
 have hS':=hS
 unfold CB at hS'
 rw[<-Cf k S,Dr]at hS'
 obtain⟨g1,g2,g3⟩:=hS'
 have hhead:∀y∈S.drop k,Cy e y<0:=by
  intro y hy
  rcases hd:S.drop k with _|⟨x,l⟩
  ·rw[hd]at hy;cases hy
  ·have hx:S[k]? =some x:=by
    have:=congrArg List.head? hd
    simpa using this
   have hxs:x∈S:=A8 hx
   have hex:Cy e x<0:=by
    rcases Q2 e x with h|h|h
    ·exact h
    ·exact absurd (h▸hxs) hn
    ·exact absurd h (h2 x hx)
   rw[hd]at hy g2
   rcases Ai.1 hy with h|h
   ·exact h▸hex
   ·exact GV hex ((BZ.1 g2).1 y h)
 refine⟨g1,⟨hhead,g2⟩,?_⟩
 intro a ha b hb
 rcases Ai.1 hb with h|h
 ·exact h▸h1 a ha
 ·exact g3 a ha b h
def idE(E:List Edg)(e:Edg):Int:=match E.findIdx? (λx=>decide (x=e))with
 |some i=>(i:Int)
 |none=>-1
theorem ADZ {E:List Edg} {e:Edg} {i:Nat}(h:E[i]? =some e)(hn:∀x∈E.take i,x≠e):idE E e=i:=by
 unfold idE
 have:E.findIdx? (λx=>decide (x=e))=some i:=by
  rw[Ba]
  obtain⟨h1,h2⟩:=Ae.1 h
  refine⟨h1,by simp[h2],λj hj=>?_⟩
  have:=hn E[j] (Bd.2 ⟨j,by omega,rfl⟩)
  simp[this]
 rw[this]
theorem UR {E:List Edg} {e:Edg}(h:e∉E):idE E e=-1:=by
 unfold idE
 have:E.findIdx? (λx=>decide (x=e))=none:=by
  rw[Be]
  intro x hx
  have:x≠e:=λh'=>h (h'▸hx)
  simp[this]
 rw[this]
theorem kC {E:List Edg} {e:Edg}:0<=idE E e↔e∈E:=by
 constructor
 ·intro h
  refine EV λhn=>?_
  rw[UR hn]at h;omega
 ·intro h
  unfold idE
  split
  ·omega
  ·rename_i hn
   rw[Be]at hn
   have:=hn e h
   simp at this
structure Part(edges:List Edg)(i:Nat)(S:List Edg):Prop where
 strict:CB S
 perm:S.Perm ((edges.take i).map turn)
theorem Part.zero(edges:List Edg):Part edges 0 []:=⟨List.Pairwise.nil,by simp⟩
theorem Part.next {edges S:List Edg} {i k:Nat} {e:Edg}(h:Part edges i S)(he:edges[i]? =some e)(hn:turn e∉S)(h1:∀x∈S.take k,Cy x (turn e)<0)(h2:∀x,S[k]? =some x->¬Cy x (turn e)<0):Part edges (i+1) (MA S k (turn e)):=by
 refine⟨Yv h.strict h1 h2 hn,(jX _ _ _).trans ?_⟩
 rw[Fc he,A7]
 simp only[Ar,Bu]
 exact(List.Perm.cons _ h.perm).trans (List.perm_append_comm (l₁:=[turn e]))
theorem Part.mem {edges S:List Edg} {i:Nat}(h:Part edges i S)(e:Edg):e∈S↔e∈(edges.take i).map turn:=h.perm.mem_iff
theorem Part.all {edges S:List Edg} {i:Nat}(h:Part edges i S)(hi:edges.length<=i):S=Hu edges:=by
 have hp:=h.perm
 rw[Al hi]at hp
 exact Vu (hp.nodup_iff.1 h.strict.nodup) hp h.strict.le
theorem IC:∀{l1 l2:List Int},l1.Pairwise (· < ·)->l2.Pairwise (· < ·)->(∀x,x∈l1↔x∈l2)->l1=l2
 |[],[],_,_,_=>rfl
 |[],y::l2,_,_,h=>absurd ((h y).2 (by simp)) (by simp)
 |x::l1,[],_,_,h=>absurd ((h x).1 (by simp)) (by simp)
 |
  x::l1,y::l2,h1,h2,h=>by
  have g1:=BZ.1 h1
  have g2:=BZ.1 h2
  have hxy:x=y:=by
   rcases Ai.1 ((h x).1 (by simp))with e|e
   ·exact e
   ·rcases Ai.1 ((h y).2 (by simp))with e'|e'
    ·exact e'.symm
    ·have:=g2.1 x e;have:=g1.1 y e';omega
  subst hxy
  rw[IC g1.2 g2.2 λz=>?_]
  constructor
  ·intro hz
   rcases Ai.1 ((h z).1 (by simp[hz]))with e|e
   ·have:=g1.1 z hz;omega
   ·exact e
  ·intro hz
   rcases Ai.1 ((h z).2 (by simp[hz]))with e|e
   ·have:=g2.1 z hz;omega
   ·exact e
theorem jB {E:List Edg} {v:Nat} {u:Int}:u∈FP E v↔⟨u,v⟩∈E:=by
 simp only[FP,An,Az,decide_eq_true_eq]
 constructor
 ·rintro⟨e,⟨he,hb⟩,rfl⟩;rw[<-hb];exact he
 ·intro h;exact⟨_,⟨h,rfl⟩,rfl⟩
theorem jA {E:List Edg} {v:Nat} {u:Int}:u∈Fg E v↔⟨v,u⟩∈E:=by
 simp only[Fg,An,Az,decide_eq_true_eq]
 constructor
 ·rintro⟨e,⟨he,hb⟩,rfl⟩;rw[<-hb];exact he
 ·intro h;exact⟨_,⟨h,rfl⟩,rfl⟩
theorem yR {G:Gr}(h:G.Ok) {v:Nat} {u:Int}:u∈Ep G.edges v↔0<=u/\u<G.labels.length/\turn ⟨u,v⟩∈G.edges:=by
 unfold Ep
 rw[Ag,jB,jA]
 constructor
 ·rintro(h1|h1)
  ·have:=h.edge _ h1
   simp only at this
   refine⟨by omega,by omega,?_⟩
   rw[J7 (by simp only;omega)];exact h1
  ·have:=h.edge _ h1
   simp only at this
   refine⟨by omega,by omega,?_⟩
   rw[Ii,J7 (by simp only;omega)];exact h1
 ·rintro⟨h0,h1,h2⟩
  by_cases hl:u<=(v:Int)
  ·rw[J7 (by simpa using hl)]at h2;exact .inl h2
  ·rw[Ii,J7 (by simp only;omega)]at h2;exact .inr h2
def Pg(E:List Edg)(v:Nat):List Int:=(E.zipIdx.filter λp=>decide (p.1.a=(v:Int)\/p.1.b=(v:Int))).map λp=>(p.2:Int)
theorem J5(E:List Edg)(p:Edg×Nat->Bool):((E.zipIdx.filter p).map λq=>(q.2:Int)).Pairwise (· < ·):=by
 have key:∀(E:List Edg) (k:Nat),((E.zipIdx k).filter p).Pairwise (λx y=>x.2<y.2)/\∀x∈E.zipIdx k,k<=x.2:=by
  intro E
  induction E with
  |nil=>intro k;simp
  |
   cons e E ih=>
   intro k
   have:=ih (k+1)
   rw[RS]
   refine⟨?_,?_⟩
   ·rw[KO]
    split
    ·rw[BZ]
     refine⟨λx hx=>?_,this.1⟩
     have:=this.2 x (Az.1 hx).1
     omega
    ·exact this.1
   ·intro x hx
    rcases Ai.1 hx with rfl|hx
    ·simp
    ·have:=this.2 x hx;omega
 rw[B7]
 exact(key E 0).1.imp λh=>by omega
theorem zH {G:Gr}(_h:G.Ok)(v:Nat):∀x,x∈Iq G.edges v↔x∈Pg G.edges v:=by
 intro x
 simp only[Iq,Ic,GO,Pg,Ag,An,Az,decide_eq_true_eq]
 constructor
 ·rintro(⟨p,⟨h1,h2⟩,rfl⟩|⟨p,⟨h1,h2⟩,rfl⟩)
  ·exact⟨p,⟨h1,.inr h2⟩,rfl⟩
  ·exact⟨p,⟨h1,.inl h2⟩,rfl⟩
 ·rintro⟨p,⟨h1,h2|h2⟩,rfl⟩
  ·exact .inr ⟨p,⟨h1,h2⟩,rfl⟩
  ·exact .inl ⟨p,⟨h1,h2⟩,rfl⟩
theorem bR {G:Gr}(h:G.Ok)(v:Nat):(Iq G.edges v).Pairwise (· < ·):=by
 unfold Iq
 rw[Dr]
 refine⟨J5 _ _,J5 _ _,?_⟩
 intro a ha b hb
 simp only[Ic,GO,An,Az,decide_eq_true_eq]at ha hb
 obtain⟨⟨x,i⟩,⟨h1,h2⟩,rfl⟩:=ha
 obtain⟨⟨y,j⟩,⟨h3,h4⟩,rfl⟩:=hb
 simp only at h2 h4⊢
 have hx:=V8.1 h1
 have hy:=V8.1 h3
 simp only at hx hy
 have ex:=h.edge x (A8 hx)
 have ey:=h.edge y (A8 hy)
 rcases fJ i j with hij|hij|hij
 ·omega
 ·subst hij;rw[hx]at hy;cases hy;omega
 ·obtain⟨hi,ei⟩:=Ae.1 hx
  obtain⟨hj,ej⟩:=Ae.1 hy
  have:=AO.1 h.sorted j i hj hi hij
  rw[ei,ej,F9]at this
  omega
theorem ABS {G:Gr}(h:G.Ok)(v:Nat):Iq G.edges v=Pg G.edges v:=IC (bR h v) (J5 _ _) (zH h v)
end Go.Gr
end
section
namespace Go.Proofs.YtjpmmkodoeipmaaGreatDoor
open Go.Sx Go.RowKit Go.Reg Go.Gr
set_option maxRecDepth 100000
def FX(m:Nat)(f:Nat->Int):List Da:=(List.range m).map λv=>dI (f v)
theorem KL(m:Nat)(f:Nat->Int):(FX m f).length=m:=by simp[FX]
theorem QA {m v:Nat} {f:Nat->Int}(h:v<m):(FX m f)[v]? =some (dI (f v)):=Yl _ h
theorem Jv {m:Nat} {f g:Nat->Int}(h:∀v,v<m->f v=g v):FX m f=FX m g:=by
 unfold FX
 exact FY λv hv=>by rw[h v (AM.1 hv)]
theorem Q9(m k:Nat)(f:Nat->Int)(x:Int):(FX m f).set k (dI x)=FX m (λv=>if v=k then x else f v):=by
 unfold FX
 rw[map_set]
 exact FY λv _=>by by_cases h:v=k<;>simp[h]
theorem tZ(m:Nat):List.replicate m (dI 0)=FX m (λ_=>0):=by
 simp[FX,List.map_const']
theorem Xt(m:Nat)(f:Nat->Int):FX m f=((List.range m).map f).map dI:=by simp[FX,Function.comp_def]
theorem AP {ds:List Da} {i:Nat} {d:Da} {n:Int} {K:Nat->Da->Prop}(hx:ds[i]? =some d)(hn:n=i)(hK:K i d):∃(j:Nat) (d:Da),n=j/\ds[j]? =some d/\K j d:=⟨i,d,hn,hx,hK⟩
theorem Lx:∀l:List Int,GL (l.map dI)=true
 |[]=>rfl
 |x::l=>by simp only[Ar,GL,Lx l];rfl
def Ht(n:Nat)(E:List Edg):List Int:=(List.range (n+1)).map λv=>(off (Hz E) v:Int)
def U4(n:Nat)(E:List Edg):List Int:=(List.range n).flatMap (Ep E)
def jZ(n:Nat)(E:List Edg):List Int:=(List.range n).flatMap (Iq E)
theorem Td {l:List Int} {p:Nat}(h:p<(l.map dI).length):∃z:Int,(l.map dI)[p]? =some (.int .i64 z):=by
 rw[Ac]at h
 exact⟨l[p],by rw[Ad,Ab h];rfl⟩
def Mw(E:List Edg)(i j:Nat)(v:Nat):Int:=(off (Hz E) v:Int)+(Hw E i j v).length
theorem wH(n:Nat)(E:List Edg)(he:∀e∈E,0<=e.a/\e.a<n/\0<=e.b/\e.b<n)(i j v:Nat)(u id:Int)(hv:v<n) {i' j':Nat}(hR:Hw E i' j'=more (Hw E i j) v u)(hI:J0 E i' j'=more (J0 E i j) v id):
  ∃p:Nat,p<2*E.length/\(FX (n+1) (Mw E i j))[v]? =some (.int .i64 (p:Int))/\p<((RN n (Hw E i j) (Hz E)).map dI).length/\p<((RN n (J0 E i j) (Hz E)).map dI).length/\
   ((RN n (Hw E i j) (Hz E)).map dI).set p (.int .i64 u)=(RN n (Hw E i' j') (Hz E)).map dI/\((RN n (J0 E i j) (Hz E)).map dI).set p (.int .i64 id)=(RN n (J0 E i' j') (Hz E)).map dI/\
   (FX (n+1) (Mw E i j)).set v (.int .i64 (p+1))=FX (n+1) (Mw E i' j'):=by
 have hroom:=Ue hR
 have hl:=Z5 E i j v
 have ho:=SY E n he
 have hm:=Jh (Hz E) (show v+1<=n by omega)
 simp only[off]at hm
 refine⟨off (Hz E) v+(Hw E i j v).length,by omega,?_,?_,?_,?_,?_,?_⟩
 ·rw[QA (by omega)]
  simp only[dI,Mw,Int.natCast_add]
 ·rw[Ac,YE (λw=>SS E i j w)];omega
 ·rw[Ac,YE (λw=>mN E i j w)];omega
 ·rw[hR,<-oJ u (λw=>SS E i j w) hv hroom,Dz];rfl
 ·rw[hI,<-oJ id (λw=>mN E i j w) hv (by rw[hl];exact hroom),Dz,hl];rfl
 ·refine(Q9 _ _ _ _).trans (Jv λw _=>?_)
  simp only[Mw,hR,yN]
  split
  ·rename_i h;subst h;omega
  ·rfl
def Nh:List (Nat×Plan):=[(1,.leaf [1,1,0,0,1,0,0,2,0,0,3] [0,1,2,3,4,5,6,7,8,9,10] [0,0,2,6,14,30,62,126,255,511,1023]),
 (5,.leaf [1,0,0,1,0,1,0,0,1,0,0,3] [4,0,1,2,3,5,6,7,8,9,10,11] [0,1,3,7,0,16,48,127,255,511,1023,2047]),
 (6,.leaf [1,0,0,1,0,1,0,0,1,0,0,3] [4,0,1,2,3,5,6,7,8,9,10,11] [0,1,3,7,0,16,48,127,255,511,1023,2047]),
 (11,.leaf [1,0,0,1,0,0,0,1,1,0,0,1,0,0,1,0,0,3] [4,5,12,0,1,2,3,6,7,8,9,10,11,13,14,15,16,17] [0,1,3,7,0,16,63,127,0,256,768,1792,0,7936,16128,32767,65535,131071]),
 (14,.split 1 18 (.split 8 15 (.split 15 18 (.leaf [1,1,1,0,0,1,0,0,2,1,0,0,1,0,0,2,0,0,3,0,0,3] [0,1,2,3,4,5,6,7,9,10,11,12,13,14,8,16,17,15,18,19,20,21] [0,0,0,4,12,28,60,124,252,0,512,1536,3584,7680,15872,32764,8189,73725,262143,524287,1048575,2097151]) (.leaf [1,1,1,0,0,1,0,0,2,1,0,0,1,0,0,2,0,0,3,0,0,3] [0,1,2,3,4,5,6,7,9,10,11,12,13,14,8,16,17,18,15,19,20,21] [0,0,0,4,12,28,60,124,252,0,512,1536,3584,7680,15872,491519,8189,73725,204799,524287,1048575,2097151])) (.leaf [1,1,1,0,0,1,0,0,2,1,0,0,1,0,0,2,0,0,3,0,0,3] [0,1,2,3,4,5,6,7,9,10,11,12,13,14,15,8,16,17,18,19,20,21] [0,0,0,4,12,28,60,124,65276,0,512,1536,3584,7680,15872,32256,65533,131069,262143,524287,1048575,2097151])) (.split 8 15 (.split 15 18 (.leaf [1,1,1,0,0,1,0,0,2,1,0,0,1,0,0,2,0,0,3,0,0,3] [0,2,3,4,5,6,7,9,10,11,12,13,14,8,16,17,15,18,1,19,20,21] [0,524285,0,4,12,28,60,124,252,0,512,1536,3584,7680,15872,32764,8189,73725,262141,524287,1048575,2097151]) (.leaf [1,1,1,0,0,1,0,0,2,1,0,0,1,0,0,2,0,0,3,0,0,3] [0,2,3,4,5,6,7,9,10,11,12,13,14,8,16,17,18,1,15,19,20,21] [0,466941,0,4,12,28,60,124,252,0,512,1536,3584,7680,15872,491517,8189,73725,204797,524287,1048575,2097151])) (.leaf [1,1,1,0,0,1,0,0,2,1,0,0,1,0,0,2,0,0,3,0,0,3] [0,2,3,4,5,6,7,9,10,11,12,13,14,15,8,16,17,18,1,19,20,21] [0,524285,0,4,12,28,60,124,65276,0,512,1536,3584,7680,15872,32256,65533,131069,262141,524287,1048575,2097151])))]
def RU:List FuncId:=[88]
theorem AAp:CH Tryz.prog RU Nh (Tryz.f93.body.getD .skip)=true:=by kernel_rfl
theorem vU(vs:Array Value)(w:World):(callFunc 93 vs).run C1.P w=.ok (.enter 93 vs) w:=by kernel_rfl
def iE:List (Nat×Plan):=[(0,.leaf [1,0,0,1,1,0,0,1,1,0,0,1,1,0,0,1,0,0,0,3,0,3] [5,13,16,17,0,1,2,3,4,6,7,8,9,10,11,12,14,15,18,19,20,21] [0,1,3,7,0,0,48,112,0,256,768,1792,0,0,12288,28672,0,0,131071,393215,1048575,2097151])]
def AAK:List FuncId:=[]
theorem oB:CH Tryz.prog AAK iE (Tryz.f138.body.getD .skip)=true:=by kernel_rfl
theorem mL(vs:Array Value)(w:World):(callFunc 138 vs).run C1.P w=.ok (.enter 138 vs) w:=by kernel_rfl
set_option maxHeartbeats 4000000 in
theorem gP(labels:List Int)(E:List Edg)(hn:labels.length<=4096)(hm:E.length<=16384)(he:∀e∈E,0<=e.a/\e.a<e.b/\e.b<labels.length):
  RQ C1 93 163 [Bn labels,Fa E,.nils,.nils,.nils] [] (λ_y ys=>ys=[Bn labels,Fa E,Bn (Ht labels.length E),Bn (U4 labels.length E),Bn (jZ labels.length E)]):=by
 have hll:(labels.map dI).length=labels.length:=Ac _
 have hel:(E.map dE).length=E.length:=Ac _
 refine AAr EO (pl:=Nh) (G:=RU) Tryz.func93 rfl Tryz.ntmps93 vU AAp (by simp) ?_
 intro vs
 (conv=>whnf)
 (repeat' ((first|refine Aj ?_ ?_|refine Mz (labels.length+1) (by omega) (by omega) (by omega) ?_|refine nx ?_|refine AD (λ_=>?_) (λ_=>?_)|exact AG)<;>conv=>whnf))
 have e0:List.replicate (labels.length+1) (dI 0)=FX (labels.length+1) (FU (E.take 0)):=by
  rw[tZ]
  refine Jv λv _=>?_
  cases v<;>simp[FU,Hz,Ep,FP,Fg]
 refine AR (ι:=Nat) (λi=>i<=E.length) (λi=>[(26,.d (.int .i64 i)),(25,.d (.int .i64 (E.map dE).length)),(24,.d (Fa E)),(1,.own 1)])
  (λi=>[(1,.cells 28 [.own 900]),(18,.slice 3 1 (FX (labels.length+1) (FU (E.take i)))),(900,.cells 163 [.d (Bn labels),.d (Fa E),.own 18,.d .nils,.d .nils]),(901,.ghost vs [.own 900])])
  (λi=>E.length-i) 0 (λ_=>rfl) (Am _) (.refl _ _) ⟨rfl,rfl,rfl,rfl,trivial⟩ ⟨rfl,Bk e0,rfl,rfl,trivial⟩ ?_
 intro i hi
 refine Cd RU Nh ?_
 by_cases hlt:i<E.length
 ·have hx:=Ab hlt
  have hb:=he _ (Bc hlt)
  generalize E[i]=x at hx hb
  obtain⟨a,b⟩:=x
  simp only at hb
  obtain⟨a',rfl⟩:=A6 hb.1
  obtain⟨b',rfl⟩:=A6 (show 0<=b by omega)
  have hxd:(E.map dE)[i]? =some (.agg [.int .i64 (a':Int),.int .i64 (b':Int)]):=by rw[Ad,hx];rfl
  have hstep:=lA hx (by omega)
  have ha1:=Vo (E.take i) (a'+1)
  have hb1:=Vo (E.take i) (b'+1)
  have htl:(E.take i).length<=16384:=by rw[AA];omega
  (repeat' ((first|refine Aj ?_ ?_|refine AP hxd (by omega) ?_|refine Hd (i:=a'+1) (by omega) (by rw[KL];omega) ?_|refine Hc (QA (v:=a'+1) (by omega)) ?_|refine nx ?_|refine AD (λ_=>?_) (λ_=>?_)|exact AG)<;>conv=>whnf))
  generalize hf1:(λv=>if v=a'+1 then FU (E.take i) (a'+1)+1 else FU (E.take i) v)=f1
  have hs1:(FX (labels.length+1) (FU (E.take i))).set (a'+1) (.int .i64 (FU (E.take i) (a'+1)+1))=FX (labels.length+1) f1:=by rw[<-hf1];exact Q9 _ _ _ _
  rw[hs1]
  have hat:(FX (labels.length+1) f1)[b'+1]? =some (.int .i64 (FU (E.take i) (b'+1))):=by
   rw[QA (by omega),<-hf1]
   have:¬b'+1=a'+1:=by omega
   simp only[this,if_false];rfl
  (repeat' ((first|refine Aj ?_ ?_|refine Hd (i:=b'+1) (by omega) (by rw[KL];omega) ?_|refine Hc hat ?_|refine nx ?_|refine AD (λ_=>?_) (λ_=>?_)|exact AG)<;>conv=>whnf))
  have hs2:(FX (labels.length+1) f1).set (b'+1) (.int .i64 (FU (E.take i) (b'+1)+1))=FX (labels.length+1) (FU (E.take (i+1))):=by
   refine(Q9 _ _ _ _).trans (Jv λv _=>?_)
   rw[hstep v,<-hf1]
  exact⟨i+1,_,_,hlt,.refl _ _,⟨rfl,rfl,rfl,rfl,trivial⟩,⟨rfl,Bk hs2,rfl,rfl,trivial⟩,by omega⟩
 ·have hie:i=E.length:=by omega
  subst hie
  rw[Ez]
  ((conv=>whnf);repeat' ((first|refine odw ?_|refine nx ?_|refine AD (λ_=>?_) (λ_=>?_))<;>conv=>whnf))
  have hedge:∀e∈E,0<=e.a/\e.a<labels.length/\0<=e.b/\e.b<labels.length:=λe h=>by have:=he e h;omega
  have e1:FX (labels.length+1) (FU E)=FX (labels.length+1) (G4 E 0):=Jv λv _=>(gB E v).symm
  refine AR (ι:=Nat) (λj=>j<=labels.length) (λj=>[(58,.d (.int .i64 j)),(57,.d (.int .i64 (labels.map dI).length)),(1,.own 1)])
   (λj=>[(1,.cells 28 [.own 900]),(18,.slice 3 1 (FX (labels.length+1) (G4 E j))),(900,.cells 163 [.d (Bn labels),.d (Fa E),.own 18,.d .nils,.d .nils]),(901,.ghost vs [.own 900])])
   (λj=>labels.length-j) 0 (λ_=>rfl) (Am _) (.refl _ _) ⟨rfl,rfl,rfl,trivial⟩ ⟨rfl,Bk e1,rfl,rfl,trivial⟩ ?_
  intro j hj
  refine Cd RU Nh ?_
  by_cases hlt:j<labels.length
  ·have hsb:∀v,v<=labels.length->0<=G4 E j v/\G4 E j v<=65536:=λv hv=>by
    unfold G4
    have h1:=ADR E labels.length hedge hv
    have h2:=Vo E v
    split<;>omega
   have h0:=hsb j (by omega)
   have h1:=hsb (j+1) (by omega)
   have hat0:(FX (labels.length+1) (G4 E j))[j]? =some (.int .i64 (G4 E j j)):=QA (by omega)
   have hat1:(FX (labels.length+1) (G4 E j))[j+1]? =some (.int .i64 (G4 E j (j+1))):=QA (by omega)
   (repeat' ((first|refine Aj ?_ ?_|refine Hd (i:=j+1) (by omega) (by rw[KL];omega) ?_|refine Hd (i:=j) (by omega) (by rw[KL];omega) ?_|refine Hc hat1 ?_|refine Hc hat0 ?_|refine nx ?_|refine AD (λ_=>?_) (λ_=>?_)|exact AG)<;>conv=>whnf))
   have hs2:(FX (labels.length+1) (G4 E j)).set (j+1) (.int .i64 (G4 E j (j+1)+G4 E j j))=FX (labels.length+1) (G4 E (j+1)):=
    (Q9 _ _ _ _).trans (Jv λv _=>(gC E j v).symm)
   exact⟨j+1,_,_,hlt,.refl _ _,⟨rfl,rfl,rfl,trivial⟩,⟨rfl,Bk hs2,rfl,rfl,trivial⟩,by omega⟩
  ·have hje:j=labels.length:=by omega
   subst hje
   have e2:FX (labels.length+1) (G4 E labels.length)=(Ht labels.length E).map dI:=by
    rw[Ht,<-Xt]
    refine Jv λv hv=>?_
    simp only[G4]
    rw[if_pos (by omega)]
   rw[e2]
   have hfl:(Ht labels.length E).length=labels.length+1:=by simp[Ht]
   ((conv=>whnf);repeat' ((first|refine odw ?_|refine nx ?_|refine AD (λ_=>?_) (λ_=>?_))<;>conv=>whnf))
   refine Vv tab 83 rfl rfl (It (Ht labels.length E) (by omega)) (λds h=>by rw[h];exact Lx _) ?_
   rintro ds rfl
   (conv=>whnf)
   refine HP (by omega) ?_
   (conv=>whnf)
   refine HP (by omega) ?_
   (conv=>whnf)
   refine Mz (2*E.length) (by omega) (by omega) (by omega) ?_
   (conv=>whnf)
   refine Mz (2*E.length) (by omega) (by omega) (by omega) ?_
   (conv=>whnf)
   refine Aj ?_ ?_
   focus
    (conv=>whnf)
    repeat' (first|(refine HP (by omega) ?_;conv=>whnf)|(refine Mz (2*E.length) (by omega) (by omega) (by omega) ?_;conv=>whnf))
    all_goals (repeat' (first|exact trivial|exact rfl|refine And.intro ?_ ?_))
    done
   (conv=>whnf)
   refine Aj ?_ ?_
   focus
    (conv=>whnf)
    repeat' (first|(refine HP (by omega) ?_;conv=>whnf)|(refine Mz (2*E.length) (by omega) (by omega) (by omega) ?_;conv=>whnf))
    all_goals (repeat' (first|exact trivial|exact rfl|refine And.intro ?_ ?_))
    done
   (conv=>whnf)
   refine Aj ?_ ?_
   focus
    (conv=>whnf)
    repeat' (first|(refine HP (by omega) ?_;conv=>whnf)|(refine Mz (2*E.length) (by omega) (by omega) (by omega) ?_;conv=>whnf))
    all_goals (repeat' (first|exact trivial|exact rfl|refine And.intro ?_ ?_))
    done
   (conv=>whnf)
   refine Aj ?_ ?_
   focus
    (conv=>whnf)
    repeat' (first|(refine HP (by omega) ?_;conv=>whnf)|(refine Mz (2*E.length) (by omega) (by omega) (by omega) ?_;conv=>whnf))
    all_goals (repeat' (first|exact trivial|exact rfl|refine And.intro ?_ ?_))
    done
   (conv=>whnf)
   refine Aj ?_ ?_
   focus
    (conv=>whnf)
    repeat' (first|(refine HP (by omega) ?_;conv=>whnf)|(refine Mz (2*E.length) (by omega) (by omega) (by omega) ?_;conv=>whnf))
    all_goals (repeat' (first|exact trivial|exact rfl|refine And.intro ?_ ?_))
    done
   (conv=>whnf)
   have hz92:List.replicate (2*E.length) (dI 0)=(RN labels.length (Hw E 0 0) (Hz E)).map dI:=by
    rw[eN _ _ _ (Wi E),SY E _ hedge];simp
   have hz99:List.replicate (2*E.length) (dI 0)=(RN labels.length (J0 E 0 0) (Hz E)).map dI:=by
    rw[eN _ _ _ (qE E),SY E _ hedge];simp
   have hz83:(Ht labels.length E).map dI=FX (labels.length+1) (Mw E 0 0):=by
    rw[Ht,<-Xt]
    exact Jv λv _=>by simp[Mw,Wi]
   refine AR (ι:=Nat) (λi=>i<=E.length) (λi=>[(110,.d (.int .i64 i)),(109,.d (.int .i64 (E.map dE).length)),(108,.d (Fa E)),(6,.func (.func 138) [] [.own 1,.own 5]),(1,.own 1)])
    (λi=>[(1,.cells 28 [.own 900]),(5,.cells 22 [.own 83]),(18,.slice 3 1 ((Ht labels.length E).map dI)),(83,.slice 3 1 (FX (labels.length+1) (Mw E i 0))),(92,.slice 3 1 ((RN labels.length (Hw E i 0) (Hz E)).map dI)),(99,.slice 3 1 ((RN labels.length (J0 E i 0) (Hz E)).map dI)),
     (900,.cells 163 [.d (Bn labels),.d (Fa E),.own 18,.own 92,.own 99]),(901,.ghost vs [.own 900])])
    (λi=>E.length-i) 0 (λ_=>rfl) (Am _) (.refl _ _) ⟨rfl,rfl,rfl,rfl,rfl,trivial⟩ ⟨rfl,rfl,rfl,Bk hz83,Bk hz92,Bk hz99,rfl,rfl,trivial⟩ ?_
   intro i hi
   refine Cd RU Nh ?_
   by_cases hlt:i<E.length
   ·have hx:=Ab hlt
    have hb:=he _ (Bc hlt)
    generalize E[i]=x at hx hb
    obtain⟨a,b⟩:=x
    simp only at hb
    obtain⟨a',rfl⟩:=A6 hb.1
    obtain⟨b',rfl⟩:=A6 (show 0<=b by omega)
    have hxd:(E.map dE)[i]? =some (.agg [.int .i64 (a':Int),.int .i64 (b':Int)]):=by rw[Ad,hx];rfl
    have hR:=qC hx
    have hI:=qG hx
    have hroom:=Ue hR
    have hput:=wH labels.length E hedge i 0 b' (a':Int) (i:Int) (by omega) hR hI
    obtain⟨p,hp,hat,h92,h99,s92,s99,s83⟩:=hput
    (repeat' ((first|refine Aj ?_ ?_|refine AP hxd (by omega) ?_|refine nx ?_|refine AD (λ_=>?_) (λ_=>?_)|exact AG)<;>conv=>whnf))
    refine MS 200 [(110,.d (.int .i64 i)),(109,.d (.int .i64 (E.map dE).length)),(108,.d (Fa E)),(6,.func (.func 138) [] [.own 1,.own 5]),(1,.own 1)] EO (pl:=iE) (G:=AAK) Tryz.func138 rfl Tryz.ntmps138 mL oB (QH rfl) rfl ⟨rfl,rfl,rfl,rfl,rfl,trivial⟩ rfl ?_
    intro us
    (conv=>whnf)
    have h83:b'<(FX (labels.length+1) (Mw E i 0)).length:=by rw[KL];omega
    obtain⟨o92,ho92⟩:=Td h92
    obtain⟨o99,ho99⟩:=Td h99
    have hb1:0<=(p:Int)+1/\(p:Int)+1<=65536:=by omega
    clear e0 e1 e2 hz92 hz99 hz83 hfl hroom hR hI hx hxd hedge he hn hi
    repeat' (first|(refine Hc hat ?_;conv=>whnf)|(refine Hc ho92 ?_;conv=>whnf)|(refine Hc ho99 ?_;conv=>whnf)|(refine Hd (i:=b') rfl h83 ?_;conv=>whnf)|(refine Hd (i:=p) rfl h92 ?_;conv=>whnf)|(refine Hd (i:=p) rfl h99 ?_;conv=>whnf))
    refine HP (by omega) ?_
    (conv=>whnf)
    repeat' (first|(refine Hc hat ?_;conv=>whnf)|(refine Hd (i:=b') rfl h83 ?_;conv=>whnf))
    rw[s92,s99,s83]
    refine Lb ?_
    (conv=>whnf)
    refine HP (by omega) ?_
    (conv=>whnf)
    exact⟨i+1,_,_,hlt,.refl _ _,⟨rfl,rfl,rfl,rfl,rfl,trivial⟩,⟨rfl,rfl,rfl,rfl,rfl,rfl,rfl,rfl,trivial⟩,by omega⟩
   ·have hie:i=E.length:=by omega
    subst hie
    ((conv=>whnf);repeat' ((first|refine odw ?_|refine nx ?_|refine AD (λ_=>?_) (λ_=>?_))<;>conv=>whnf))
    refine AR (ι:=Nat) (λi=>i<=E.length) (λi=>[(128,.d (.int .i64 i)),(127,.d (.int .i64 (E.map dE).length)),(126,.d (Fa E)),(6,.func (.func 138) [] [.own 1,.own 5]),(1,.own 1)])
     (λi=>[(1,.cells 28 [.own 900]),(5,.cells 22 [.own 83]),(18,.slice 3 1 ((Ht labels.length E).map dI)),(83,.slice 3 1 (FX (labels.length+1) (Mw E E.length i))),(92,.slice 3 1 ((RN labels.length (Hw E E.length i) (Hz E)).map dI)),(99,.slice 3 1 ((RN labels.length (J0 E E.length i) (Hz E)).map dI)),
      (900,.cells 163 [.d (Bn labels),.d (Fa E),.own 18,.own 92,.own 99]),(901,.ghost vs [.own 900])])
     (λi=>E.length-i) 0 (λ_=>rfl) (Am _) (.refl _ _) ⟨rfl,rfl,rfl,rfl,rfl,trivial⟩ ⟨rfl,rfl,rfl,rfl,rfl,rfl,rfl,rfl,trivial⟩ ?_
    intro i hi
    refine Cd RU Nh ?_
    by_cases hlt:i<E.length
    ·have hx:=Ab hlt
     have hb:=he _ (Bc hlt)
     generalize E[i]=x at hx hb
     obtain⟨a,b⟩:=x
     simp only at hb
     obtain⟨a',rfl⟩:=A6 hb.1
     obtain⟨b',rfl⟩:=A6 (show 0<=b by omega)
     have hxd:(E.map dE)[i]? =some (.agg [.int .i64 (a':Int),.int .i64 (b':Int)]):=by rw[Ad,hx];rfl
     have hR:=qB (k:=E.length) hx
     have hI:=qF (k:=E.length) hx
     have hroom:=Ue hR
     have hput:=wH labels.length E hedge E.length i a' (b':Int) (i:Int) (by omega) hR hI
     obtain⟨p,hp,hat,h92,h99,s92,s99,s83⟩:=hput
     (repeat' ((first|refine Aj ?_ ?_|refine AP hxd (by omega) ?_|refine nx ?_|refine AD (λ_=>?_) (λ_=>?_)|exact AG)<;>conv=>whnf))
     refine MS 200 [(128,.d (.int .i64 i)),(127,.d (.int .i64 (E.map dE).length)),(126,.d (Fa E)),(6,.func (.func 138) [] [.own 1,.own 5]),(1,.own 1)] EO (pl:=iE) (G:=AAK) Tryz.func138 rfl Tryz.ntmps138 mL oB (QH rfl) rfl ⟨rfl,rfl,rfl,rfl,rfl,trivial⟩ rfl ?_
     intro us
     (conv=>whnf)
     have h83:a'<(FX (labels.length+1) (Mw E E.length i)).length:=by rw[KL];omega
     obtain⟨o92,ho92⟩:=Td h92
     obtain⟨o99,ho99⟩:=Td h99
     have hb1:0<=(p:Int)+1/\(p:Int)+1<=65536:=by omega
     clear hroom hR hI hx hxd
     repeat' (first|(refine Hc hat ?_;conv=>whnf)|(refine Hc ho92 ?_;conv=>whnf)|(refine Hc ho99 ?_;conv=>whnf)|(refine Hd (i:=a') rfl h83 ?_;conv=>whnf)|(refine Hd (i:=p) rfl h92 ?_;conv=>whnf)|(refine Hd (i:=p) rfl h99 ?_;conv=>whnf))
     refine HP (by omega) ?_
     (conv=>whnf)
     repeat' (first|(refine Hc hat ?_;conv=>whnf)|(refine Hd (i:=a') rfl h83 ?_;conv=>whnf))
     rw[s92,s99,s83]
     refine Lb ?_
     (conv=>whnf)
     refine HP (by omega) ?_
     (conv=>whnf)
     exact⟨i+1,_,_,hlt,.refl _ _,⟨rfl,rfl,rfl,rfl,rfl,trivial⟩,⟨rfl,rfl,rfl,rfl,rfl,rfl,rfl,rfl,trivial⟩,by omega⟩
    ·have hie:i=E.length:=by omega
     subst hie
     have en:RN labels.length (Hw E E.length E.length) (Hz E)=U4 labels.length E:=by
      rw[vX];exact eP (λv _=>rfl)
     have ei:RN labels.length (J0 E E.length E.length) (Hz E)=jZ labels.length E:=by
      rw[vY]
      exact eP (λv _=>by rw[Iq,Ah,(Nr E v).1,(Nr E v).2,Hz,Ep,Ah])
     rw[en,ei]
     ((conv=>whnf);repeat' ((first|refine odw ?_|refine nx ?_|refine AD (λ_=>?_) (λ_=>?_))<;>conv=>whnf))
     refine⟨_,_,_,[Bn labels,Fa E,Bn (Ht labels.length E),Bn (U4 labels.length E),Bn (jZ labels.length E)],.frz 18 rfl (.frz 92 rfl (.frz 99 rfl (.refl _ _))),rfl,rfl,rfl,?_⟩
     rfl
end Go.Proofs.YtjpmmkodoeipmaaGreatDoor
end
section
namespace Go.Proofs.YtjpmmkodoeipmaaGreatDoor
open Go.Sx Go.RowKit Go.Reg
set_option maxRecDepth 100000
def dF(c a:Int)(s:ByteArray):Da:=.iface 121 (.ref (.agg [.int .i64 c,.int .i64 a,.str s]))
def dS(s:ByteArray)(x:Da):Da:=.iface 172 (.ref (.agg [.str s,x]))
theorem CG(c a:Int)(s:ByteArray):Pure C1 20 [.int .i64 c,.int .i64 a,.str s] (λy=>y=dF c a s):=by
 refine AW Tryz.func20 Tryz.ntmps20 [] [] ?_
 ((conv=>whnf);repeat' ((first|refine odw ?_|refine nx ?_|refine AD (λ_=>?_) (λ_=>?_))<;>conv=>whnf))
 all_goals exact rfl
theorem ABP(s:ByteArray)(t:TypeId)(x:Da):Pure C1 55 [.str s,.iface t x] (λy=>y=dS s ((Da.iface t x).plain)):=by
 refine AW Tryz.func55 Tryz.ntmps55 [] [] ?_
 ((conv=>whnf);repeat' ((first|refine odw ?_|refine nx ?_|refine AD (λ_=>?_) (λ_=>?_))<;>conv=>whnf))
 all_goals exact rfl
theorem K0(s:ByteArray)(c a:Int)(z:ByteArray):Pure C1 55 [.str s,dF c a z] (λy=>y=dS s (dF c a z)):=ABP s _ _
end Go.Proofs.YtjpmmkodoeipmaaGreatDoor
end
section
namespace Go.Proofs.YtjpmmkodoeipmaaGreatDoor
open Go.Sx Go.RowKit Go.Reg Go.Gr
set_option maxRecDepth 100000
def qS:ByteArray:=⟨#[112,97,116,116,101,114,110]⟩
def bF:ByteArray:=⟨#[108,97,98,101,108]⟩
def zZ:ByteArray:=⟨#[101,100,103,101]⟩
def FE(p:Pt):Da:=.agg [Bn p.labels,Fa p.edges]
def Gy(l:List Int):Da:=match M6 l with
 |none=>.nili
 |some (c,i)=>dF c i (if c=6 then qS else bF)
def Mf(p:Pt):Da:=match M6 p.labels with
 |some (c,i)=>dF c i (if c=6 then qS else bF)
 |
  none=>match sW p.labels.length p.edges with
  |none=>.nili
  |some (c,i)=>dF c i zZ
theorem zC {l:List Int}(h:8<l.length):M6 l=some (6,0):=if_pos h
theorem ABJ {l:List Int} {i:Nat} {x:Int}(h8:¬8<l.length)(h:∀k y,k<i->l[k]? =some y->BX y=false)(hx:l[i]? =some x)(hb:BX x=true):M6 l=some (3,i):=by
 unfold M6
 rw[if_neg h8]
 refine S3 (i:=i) (λk hk=>?_) ?_ (Ae.1 hx).1
 ·have hkl:k<l.length:=by have:=(Ae.1 hx).1;omega
  have:=h k _ hk (Ab hkl)
  rw[Ab hkl]
  simp[this]
 ·rw[hx];simp[hb]
theorem Yq {l:List Int}(h8:¬8<l.length)(h:∀k y,k<l.length->l[k]? =some y->BX y=false):M6 l=none:=by
 unfold M6
 rw[if_neg h8]
 refine MK λk hk=>?_
 have:=h k _ hk (Ab hk)
 rw[Ab hk]
 simp[this]
theorem AA0 {l:List Int} {i:Nat} {x:Int}(h:∀k y,k<i->l[k]? =some y->BX y=false)(hx:l[i]? =some x)(hb:BX x=false):∀k y,k<i+1->l[k]? =some y->BX y=false:=by
 intro k y hk hy
 rcases BL k i with hl|hl
 ·exact h k y hl hy
 ·have:k=i:=by omega
  subst this
  rw[hx]at hy;cases hy;exact hb
theorem AEk {x:Int}(h:¬(0<=x/\x<=255)):BX x=true:=by simp[BX];omega
theorem AC3 {x:Int}(h:0<=x/\x<=255):BX x=false:=by simp[BX];omega
theorem PN(l:List Int)(hm:l.length<=9223372036854775807):Pure C1 165 [Bn l] (λy=>y=Gy l):=by
 have hdl:(l.map dI).length=l.length:=Ac _
 refine AW Tryz.func165 Tryz.ntmps165 [] [] ?_
 by_cases h8:8<l.length
 ·have e:Gy l=dF 6 0 qS:=by unfold Gy;rw[zC h8];rfl
  rw[e]
  (conv=>whnf)
  (repeat' ((first|refine Aj ?_ ?_|refine Af rfl (CG 6 0 qS) ?_|refine nx ?_|refine AD (λ_=>?_) (λ_=>?_)|exact AG)<;>conv=>whnf))
  exact rfl
 ((conv=>whnf);repeat' ((first|refine odw ?_|refine nx ?_|refine AD (λ_=>?_) (λ_=>?_))<;>conv=>whnf))
 refine AR (ι:=Nat) (λi=>i<=l.length/\∀k y,k<i->l[k]? =some y->BX y=false) (λi=>[(11,.d (.int .i64 i)),(10,.d (.int .i64 l.length)),(9,.d (Bn l))]) (λ_=>[]) (λi=>l.length-i) 0 (λ_=>rfl) ⟨Am _,(by intro k y h;omega)⟩ (.refl _ _) ⟨rfl,by rw[<-hdl];rfl,rfl,trivial⟩ trivial ?_
 rintro i ⟨hi,hok⟩
 refine Cd [] [] ?_
 by_cases hil:i<l.length
 ·have hx:=Ab hil
  generalize l[i]=x at hx
  have hxd:(l.map dI)[i]? =some (.int .i64 x):=by rw[Ad,hx];rfl
  by_cases hb:0<=x/\x<=255
  ·(conv=>whnf)
   (repeat' ((first|refine Aj ?_ ?_|refine AP hxd rfl ?_|refine nx ?_|refine AD (λ_=>?_) (λ_=>?_)|exact AG)<;>conv=>whnf))
   exact⟨i+1,_,_,⟨by omega,AA0 hok hx (AC3 hb)⟩,.refl _ _,⟨rfl,rfl,rfl,trivial⟩,trivial,by omega⟩
  ·have e:Gy l=dF 3 i bF:=by unfold Gy;rw[ABJ h8 hok hx (AEk hb)];rfl
   rw[e]
   by_cases h0:x<0
   ·(conv=>whnf)
    (repeat' ((first|refine Aj ?_ ?_|refine AP hxd rfl ?_|refine Af rfl (CG 3 i bF) ?_|refine nx ?_|refine AD (λ_=>?_) (λ_=>?_)|exact AG)<;>conv=>whnf))
    exact rfl
   ·(conv=>whnf)
    (repeat' ((first|refine Aj ?_ ?_|refine AP hxd rfl ?_|refine Af rfl (CG 3 i bF) ?_|refine nx ?_|refine AD (λ_=>?_) (λ_=>?_)|exact AG)<;>conv=>whnf))
    exact rfl
 ·have e:Gy l=.nili:=by unfold Gy;rw[Yq h8 (λk y hk hy=>hok k y (by omega) hy)]
  rw[e]
  ((conv=>whnf);repeat' ((first|refine odw ?_|refine nx ?_|refine AD (λ_=>?_) (λ_=>?_))<;>conv=>whnf))
  exact rfl
theorem Lg(e:Edg):Pure C1 221 [dE e] (λy=>y=dE (turn e)):=by
 refine AW Tryz.func221 Tryz.ntmps221 [] [] ?_
 ((conv=>whnf);repeat' ((first|refine odw ?_|refine nx ?_|refine AD (λ_=>?_) (λ_=>?_))<;>conv=>whnf))
 exact rfl
theorem RV(e:Edg)(n:Nat):Pure C1 166 [dE e,.int .i64 n] (λy=>y=.bool (decide (0<=min e.a e.b/\max e.a e.b<n))):=by
 refine AW Tryz.func166 Tryz.ntmps166 [] [] ?_
 by_cases h1:0<=min e.a e.b
 ·by_cases h2:max e.a e.b<n
  ·rw[decide_eq_true ⟨h1,h2⟩]
   ((conv=>whnf);repeat' ((first|refine odw ?_|refine nx ?_|refine AD (λ_=>?_) (λ_=>?_))<;>conv=>whnf))
   exact congrArg Da.bool (decide_eq_true h2)
  ·rw[decide_eq_false (λh=>h2 h.2)]
   ((conv=>whnf);repeat' ((first|refine odw ?_|refine nx ?_|refine AD (λ_=>?_) (λ_=>?_))<;>conv=>whnf))
   exact congrArg Da.bool (decide_eq_false h2)
 ·rw[decide_eq_false (λh=>h1 h.1)]
  ((conv=>whnf);repeat' ((first|refine odw ?_|refine nx ?_|refine AD (λ_=>?_) (λ_=>?_))<;>conv=>whnf))
  exact rfl
def ADB:List (Nat×Plan):=[(1,.leaf [0,1,0,1,2,0,1,0,1,2,6,2,0] [0,2,5,7,1,3,6,8,4,9,10,11,12] [0,1,0,4,15,0,32,0,128,511,1023,2047,4095])]
def AFf:List FuncId:=[31,30]
theorem Mn(x y:Edg):Pure C1 34 [dE x,dE y] (λz=>z=.int .i64 (Cy x y)):=by
 refine AW Tryz.func34 Tryz.ntmps34 AFf ADB ?_
 have h1:=F4 x.a y.a
 have h2:=F4 x.b y.b
 have h3:=mV (Db x.a y.a) (Db x.b y.b)
 (conv=>whnf)
 (repeat' ((first|refine Aj ?_ ?_|refine Af rfl h1 ?_|refine Af rfl h2 ?_|refine Br tab rfl h3 rfl ?_|refine nx ?_|refine AD (λ_=>?_) (λ_=>?_)|exact AG)<;>conv=>whnf))
 exact rfl
end Go.Proofs.YtjpmmkodoeipmaaGreatDoor
end
