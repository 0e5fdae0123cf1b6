/- Merged: Grh Grk Srp Lna Rfa Lnb Lnc Lnf Grs Vla Vsb. -/
import Derived.Test.YtjpmmkodoeipmaaGreatDoorrtat
import Derived.Test.YtjpmmkodoeipmaaGreatDoorrtaq
import Derived.Test.YtjpmmkodoeipmaaGreatDoorrtan
import Derived.Test.YtjpmmkodoeipmaaGreatDoorrtas
section
namespace Go.Gr
theorem kD(f:Nat->List Int)(D:Nat->Nat)(hD:∀v,(f v).length=D v) {n v:Nat}(h:v<n):∃pre post,(List.range n).flatMap f=pre++(f v++post)/\pre.length=off D v:=by
 have key:∀n,((List.range n).flatMap f).length=off D n:=by
  intro n
  induction n with
  |zero=>rfl
  |succ n ih=>rw[CR,Cy,Ah,ih];simp[off,hD]
 induction n with
 |zero=>omega
 |
  succ n ih=>
  rw[CR,Cy]
  by_cases hv:v<n
  ·obtain⟨pre,post,e,hl⟩:=ih hv
   exact⟨pre,post++[n].flatMap f,by rw[e];simp,hl⟩
  ·have:v=n:=by omega
   subst this
   exact⟨(List.range v).flatMap f,[],by simp,key v⟩
theorem bY(f:Nat->List Int)(D:Nat->Nat)(hD:∀v,(f v).length=D v) {n v:Nat}(h:v<n):(((List.range n).flatMap f).take (off D (v+1))).drop (off D v)=f v:=by
 obtain⟨pre,post,e,hl⟩:=kD f D hD h
 rw[e,<-Bk]
 have h1:off D (v+1)=(pre++f v).length:=by simp[off,hl,hD]
 rw[h1,List.take_left,<-hl,List.drop_left]
theorem ZZ(f:Nat->List Int)(D:Nat->Nat)(hD:∀v,(f v).length=D v)(n:Nat):((List.range n).flatMap f).length=off D n:=by
 induction n with
 |zero=>rfl
 |succ n ih=>rw[CR,Cy,Ah,ih];simp[off,hD]
end Go.Gr
namespace Go.Proofs.YtjpmmkodoeipmaaGreatDoor
open Go.Sx Go.RowKit Go.Reg Go.Gr
set_option maxRecDepth 100000
theorem Ks(G:Gr):Pure C1 101 [dG G] (λy=>y=.int .i64 G.labels.length):=by
 have hl:(G.labels.map dI).length=G.labels.length:=Ac _
 refine AU Tryz.func101 Tryz.ntmps101 [] [] ?_
 ((conv=>whnf);repeat' ((first|refine odw ?_|refine nx ?_|refine AB (λ_=>?_) (λ_=>?_))<;>conv=>whnf))
 show Da.int .i64 _=_
 rw[hl]
theorem QT(G:Gr):Pure C1 103 [dG G] (λy=>y=.int .i64 G.edges.length):=by
 have hl:(G.edges.map dE).length=G.edges.length:=Ac _
 refine AU Tryz.func103 Tryz.ntmps103 [] [] ?_
 ((conv=>whnf);repeat' ((first|refine odw ?_|refine nx ?_|refine AB (λ_=>?_) (λ_=>?_))<;>conv=>whnf))
 show Da.int .i64 _=_
 rw[hl]
def Gc(G:Gr)(v:Int):Bool:=decide (0<=v/\v<G.labels.length)
theorem Kv(G:Gr)(v:Int):Pure C1 148 [dG G,.int .i64 v] (λy=>y=.bool (Gc G v)):=by
 refine AU Tryz.func148 Tryz.ntmps148 [] [] ?_
 by_cases h0:0<=v
 ·((conv=>whnf);repeat' ((first|refine odw ?_|refine nx ?_|refine AB (λ_=>?_) (λ_=>?_))<;>conv=>whnf))
  refine AR rfl (Ks G) ?_;rintro y rfl
  by_cases h1:v<G.labels.length
  ·have:Gc G v=true:=by simp[Gc,h0,h1]
   rw[this]
   ((conv=>whnf);repeat' ((first|refine odw ?_|refine nx ?_|refine AB (λ_=>?_) (λ_=>?_))<;>conv=>whnf))
   show Da.plain _=_
   simp[Da.plain,h1]
  ·have:Gc G v=false:=by simp[Gc,h1]
   rw[this]
   ((conv=>whnf);repeat' ((first|refine odw ?_|refine nx ?_|refine AB (λ_=>?_) (λ_=>?_))<;>conv=>whnf))
   show Da.plain _=_
   simp[Da.plain,h1]
 ·have:Gc G v=false:=by simp[Gc,h0]
  rw[this]
  ((conv=>whnf);repeat' ((first|refine odw ?_|refine nx ?_|refine AB (λ_=>?_) (λ_=>?_))<;>conv=>whnf))
  exact rfl
theorem Qm {G:Gr} {v:Int}(h:0<=v)(h2:v<G.labels.length):Gc G v=true:=by simp[Gc,h,h2]
theorem Yy {G:Gr} {v:Int}(h:¬(0<=v/\v<G.labels.length)):Gc G v=false:=by simp only[Gc,decide_eq_false_iff_not];exact h
def EO(G:Gr)(v:Int):Int:=if 0<=v/\v<G.labels.length then(G.labels[v.toNat]?).getD 0 else-1
theorem jI(G:Gr)(v:Int):Pure C1 223 [dG G,.int .i64 v] (λy=>y=.int .i64 (EO G v)):=by
 refine AU Tryz.func223 Tryz.ntmps223 [] [] ?_
 by_cases h:0<=v/\v<G.labels.length
 ·obtain⟨m,rfl⟩:=A9 h.1
  have hm:m<G.labels.length:=by omega
  have hx:=Ab hm
  have e:EO G (m:Int)=G.labels[m]:=by unfold EO;rw[if_pos h,Bi,hx];rfl
  rw[e]
  generalize G.labels[m]=x at hx
  have hxd:(G.labels.map dI)[m]? =some (.int .i64 x):=by rw[Ad,hx];rfl
  ((conv=>whnf);repeat' ((first|refine odw ?_|refine nx ?_|refine AB (λ_=>?_) (λ_=>?_))<;>conv=>whnf))
  refine AR rfl (Kv G m) ?_;rintro y rfl
  rw[Qm h.1 h.2]
  (repeat' ((first|refine Aj ?_ ?_|refine AO hxd rfl ?_|refine nx ?_|refine AB (λ_=>?_) (λ_=>?_)|exact AE)<;>conv=>whnf))
  exact rfl
 ·have e:EO G v=-1:=by unfold EO;rw[if_neg h]
  rw[e]
  ((conv=>whnf);repeat' ((first|refine odw ?_|refine nx ?_|refine AB (λ_=>?_) (λ_=>?_))<;>conv=>whnf))
  refine AR rfl (Kv G v) ?_;rintro y rfl
  rw[Yy h]
  ((conv=>whnf);repeat' ((first|refine odw ?_|refine nx ?_|refine AB (λ_=>?_) (λ_=>?_))<;>conv=>whnf))
  exact rfl
def Ff(E:List Edg)(id:Int):Da:=if 0<=id/\id<E.length then .tuple [dE ((E[id.toNat]?).getD ⟨0,0⟩),.bool true]else .tuple [dE ⟨0,0⟩,.bool false]
theorem K7(G:Gr)(id:Int):Pure C1 217 [dG G,.int .i64 id] (λy=>y=Ff G.edges id):=by
 refine AU Tryz.func217 Tryz.ntmps217 [] [] ?_
 by_cases h0:0<=id
 ·by_cases h1:id<G.edges.length
  ·obtain⟨m,rfl⟩:=A9 h0
   have hm:m<G.edges.length:=by omega
   have hx:=Ab hm
   have e:Ff G.edges (m:Int)=.tuple [dE G.edges[m],.bool true]:=by unfold Ff;rw[if_pos ⟨h0,h1⟩,Bi,hx];rfl
   rw[e]
   generalize G.edges[m]=x at hx
   have hxd:(G.edges.map dE)[m]? =some (.agg [.int .i64 x.a,.int .i64 x.b]):=by rw[Ad,hx];rfl
   ((conv=>whnf);repeat' ((first|refine odw ?_|refine nx ?_|refine AB (λ_=>?_) (λ_=>?_))<;>conv=>whnf))
   refine AR rfl (QT G) ?_;rintro y rfl
   (repeat' ((first|refine Aj ?_ ?_|refine AO hxd rfl ?_|refine nx ?_|refine AB (λ_=>?_) (λ_=>?_)|exact AE)<;>conv=>whnf))
   exact rfl
  ·have e:Ff G.edges id=.tuple [dE ⟨0,0⟩,.bool false]:=by unfold Ff;rw[if_neg (by omega)]
   rw[e]
   ((conv=>whnf);repeat' ((first|refine odw ?_|refine nx ?_|refine AB (λ_=>?_) (λ_=>?_))<;>conv=>whnf))
   refine AR rfl (QT G) ?_;rintro y rfl
   ((conv=>whnf);repeat' ((first|refine odw ?_|refine nx ?_|refine AB (λ_=>?_) (λ_=>?_))<;>conv=>whnf))
   exact rfl
 ·have e:Ff G.edges id=.tuple [dE ⟨0,0⟩,.bool false]:=by unfold Ff;rw[if_neg (by omega)]
  rw[e]
  ((conv=>whnf);repeat' ((first|refine odw ?_|refine nx ?_|refine AB (λ_=>?_) (λ_=>?_))<;>conv=>whnf))
  exact rfl
def xM:List (Nat×Plan):=[(3,.leaf [0,0,0,1,0,0,0,1,0,0,1,0,0,0,1,0,0,0,1,0,2,0] [0,1,2,4,5,6,8,11,12,13,15,16,3,7,9,10,14,17,18,19,20,21] [0,1,3,7,0,16,48,112,0,496,1008,0,2048,6144,14336,0,32768,129024,260096,524287,1048575,2097151])]
def ACN:List FuncId:=[88]
def Mt(G:Gr)(v:Int):Da:=if 0<=v/\v<G.labels.length then Bh (Ep G.edges v.toNat)else .nils
theorem NC {n v:Nat}(E:List Edg)(h:v<=n):((Hq n E).map dI)[v]? =some (.int .i64 (off (Hy E) v)):=by
 rw[Ad,Hq,Ad,Df (by omega)];rfl
theorem yN {n v:Nat}(E:List Edg)(h:v<n):(((U6 n E).map dI).take (off (Hy E) (v+1))).drop (off (Hy E) v)=(Ep E v).map dI:=by
 rw[<-Fj,<-lO,U6,bY (Ep E) (Hy E) (λ_=>rfl) h]
theorem Rn(G:Gr)(hG:G.Ok)(v:Int):Pure C1 142 [dG G,.int .i64 v] (λy=>y=Mt G v):=by
 refine AU Tryz.func142 Tryz.ntmps142 ACN xM ?_
 by_cases h:0<=v/\v<G.labels.length
 ·obtain⟨m,rfl⟩:=A9 h.1
  have hm:m<G.labels.length:=by omega
  have e:Mt G (m:Int)=Bh (Ep G.edges m):=by unfold Mt;rw[if_pos h,Bi]
  rw[e]
  have hs:=hG.size
  have h1:=NC G.edges (n:=G.labels.length) (v:=m) (by omega)
  have h2:=NC G.edges (n:=G.labels.length) (v:=m+1) (by omega)
  ((conv=>whnf);repeat' ((first|refine odw ?_|refine nx ?_|refine AB (λ_=>?_) (λ_=>?_))<;>conv=>whnf))
  refine AR rfl (Kv G m) ?_;rintro y rfl
  rw[Qm h.1 h.2]
  (conv=>whnf)
  (repeat' ((first|refine Aj ?_ ?_|refine AO h1 rfl ?_|refine AO h2 rfl ?_|refine nx ?_|refine AB (λ_=>?_) (λ_=>?_)|exact AE)<;>conv=>whnf))
  refine⟨_,_,rfl,rfl,Je _ (by omega),?_,?_⟩
  ·rw[Ac,U6,ZZ (Ep G.edges) (Hy G.edges) (λ_=>rfl)];exact Je _ (by omega)
  rw[yN G.edges hm]
  (conv=>whnf)
  have hb:=Vo G.edges m
  have hes:=hG.esize
  refine EF 29 rfl rfl (It (Ep G.edges m) (by unfold Hy at hb;omega)) ?_;rintro ds rfl
  ((conv=>whnf);repeat' ((first|refine odw ?_|refine nx ?_|refine AB (λ_=>?_) (λ_=>?_))<;>conv=>whnf))
  exact rfl
 ·have e:Mt G v=.nils:=by unfold Mt;rw[if_neg h]
  rw[e]
  ((conv=>whnf);repeat' ((first|refine odw ?_|refine nx ?_|refine AB (λ_=>?_) (λ_=>?_))<;>conv=>whnf))
  refine AR rfl (Kv G v) ?_;rintro y rfl
  rw[Yy h]
  ((conv=>whnf);repeat' ((first|refine odw ?_|refine nx ?_|refine AB (λ_=>?_) (λ_=>?_))<;>conv=>whnf))
  exact rfl
def kR(G:Gr)(v:Int):Nat:=if 0<=v/\v<G.labels.length then Hy G.edges v.toNat else 0
theorem cV(G:Gr)(hG:G.Ok)(v:Int):Pure C1 147 [dG G,.int .i64 v] (λy=>y=.int .i64 (kR G v)):=by
 refine AU Tryz.func147 Tryz.ntmps147 [] [] ?_
 ((conv=>whnf);repeat' ((first|refine odw ?_|refine nx ?_|refine AB (λ_=>?_) (λ_=>?_))<;>conv=>whnf))
 refine AR rfl (Rn G hG v) ?_;rintro y rfl
 by_cases h:0<=v/\v<G.labels.length
 ·have e:Mt G v=Bh (Ep G.edges v.toNat):=by unfold Mt;rw[if_pos h]
  have e2:kR G v=((Ep G.edges v.toNat).map dI).length:=by unfold kR;rw[if_pos h,Ac];rfl
  rw[e,e2]
  ((conv=>whnf);repeat' ((first|refine odw ?_|refine nx ?_|refine AB (λ_=>?_) (λ_=>?_))<;>conv=>whnf))
  exact rfl
 ·have e:Mt G v=.nils:=by unfold Mt;rw[if_neg h]
  have e2:kR G v=0:=by unfold kR;rw[if_neg h]
  rw[e,e2]
  ((conv=>whnf);repeat' ((first|refine odw ?_|refine nx ?_|refine AB (λ_=>?_) (λ_=>?_))<;>conv=>whnf))
  exact rfl
end Go.Proofs.YtjpmmkodoeipmaaGreatDoor
end
section
namespace Go.Proofs.YtjpmmkodoeipmaaGreatDoor
open Go.Sx Go.RowKit Go.Reg Go.Gr
set_option maxRecDepth 100000
theorem Ic(l:List Int):Pure C1 71 [Bh l] (λy=>y=.func (.func 122) [] [.ref (Bh l)]):=by
 refine AU Tryz.func71 Tryz.ntmps71 [] [] ?_
 ((conv=>whnf);repeat' ((first|refine odw ?_|refine nx ?_|refine AB (λ_=>?_) (λ_=>?_))<;>conv=>whnf))
 exact rfl
theorem Zg {l:List Int}(h:l.Pairwise (· < ·)):l.mergeSort (λx y=>decide (x<=y))=l:=
 List.mergeSort_of_pairwise (h.imp λh=>by simp;omega)
theorem R4(E:List Edg)(v:Nat):(Ip E v).length=Hy E v:=by
 rw[Ip,Ah,(N9 E v).1,(N9 E v).2,Hy,Ep,Ah]
theorem ABX {n v:Nat}(E:List Edg)(h:v<n):(((jS n E).map dI).take (off (Hy E) (v+1))).drop (off (Hy E) v)=(Ip E v).map dI:=by
 rw[<-Fj,<-lO,jS,bY (Ip E) (Hy E) (R4 E) h]
def ADL:List (Nat×Plan):=[(3,.leaf [0,0,0,1,0,0,0,1,0,0,1,0,0,0,1,0,0,0,1,0,2,2,0] [0,1,2,4,5,6,8,11,12,13,15,16,3,7,9,10,14,17,18,19,20,21,22] [0,1,3,7,0,16,48,112,0,496,1008,0,2048,6144,14336,0,32768,129024,260096,524287,1048575,2097151,4194303])]
def AF4:List FuncId:=[71,70]
def atY(G:Gr)(v:Int):Da:=if 0<=v/\v<G.labels.length then Bh (Pg G.edges v.toNat)else .nils
theorem AC6(G:Gr)(hG:G.Ok)(v:Int):Pure C1 102 [dG G,.int .i64 v] (λy=>y=atY G v):=by
 refine AU Tryz.func102 Tryz.ntmps102 AF4 ADL ?_
 by_cases h:0<=v/\v<G.labels.length
 ·obtain⟨m,rfl⟩:=A9 h.1
  have hm:m<G.labels.length:=by omega
  have e:atY G (m:Int)=Bh (Ip G.edges m):=by unfold atY;rw[if_pos h,Bi,ABW hG]
  rw[e]
  have hs:=hG.size
  have h1:=NC G.edges (n:=G.labels.length) (v:=m) (by omega)
  have h2:=NC G.edges (n:=G.labels.length) (v:=m+1) (by omega)
  ((conv=>whnf);repeat' ((first|refine odw ?_|refine nx ?_|refine AB (λ_=>?_) (λ_=>?_))<;>conv=>whnf))
  refine AR rfl (Kv G m) ?_;rintro y rfl
  rw[Qm h.1 h.2]
  (conv=>whnf)
  (repeat' ((first|refine Aj ?_ ?_|refine AO h1 rfl ?_|refine AO h2 rfl ?_|refine nx ?_|refine AB (λ_=>?_) (λ_=>?_)|exact AE)<;>conv=>whnf))
  refine⟨_,_,rfl,rfl,Je _ (by omega),?_,?_⟩
  ·rw[Ac,jS,ZZ (Ip G.edges) (Hy G.edges) (R4 G.edges)];exact Je _ (by omega)
  rw[ABX G.edges hm]
  (conv=>whnf)
  have hb:=Vo G.edges m
  have hes:=hG.esize
  refine AR rfl (Ic (Ip G.edges m)) ?_;rintro y rfl
  (conv=>whnf)
  refine AR rfl (LR (Ip G.edges m) (by rw[R4];omega)) ?_;rintro y rfl
  rw[Zg (bL hG m)]
  ((conv=>whnf);repeat' ((first|refine odw ?_|refine nx ?_|refine AB (λ_=>?_) (λ_=>?_))<;>conv=>whnf))
  exact rfl
 ·have e:atY G v=.nils:=by unfold atY;rw[if_neg h]
  rw[e]
  ((conv=>whnf);repeat' ((first|refine odw ?_|refine nx ?_|refine AB (λ_=>?_) (λ_=>?_))<;>conv=>whnf))
  refine AR rfl (Kv G v) ?_;rintro y rfl
  rw[Yy h]
  ((conv=>whnf);repeat' ((first|refine odw ?_|refine nx ?_|refine AB (λ_=>?_) (λ_=>?_))<;>conv=>whnf))
  exact rfl
end Go.Proofs.YtjpmmkodoeipmaaGreatDoor
end
section
namespace Go.Reg
open Go Go.RowKit Go.Sort Go.Proofs
section
variable {E:Nat} {w:World} {l:List Int} {g cap:Nat}
theorem K0(l:List Int):l.flatMap (λn=>[Value.int .i64 n])=l.map (Value.int .i64):=by
 induction l with
 |nil=>rfl
 |cons x l ih=>simp[ih]
theorem Sl.holds1(h:Sl E 1 (λn:Int=>[Value.int .i64 n]) w (.slice (some ⟨g,0,none⟩) l.length cap) l):Go.Sort.Holds (Value.int .i64) w g 0 l.toArray:=by
 intro j hj
 have hj':j<l.length:=by simpa using hj
 have hx:l[j]? =some l.toArray[j]! :=by rw[getElem!_pos l.toArray j hj];simp[hj']
 have hc:=Sl.cells (enc:=λn:Int=>[Value.int .i64 n]) (k:=1) (λ_=>rfl) h rfl hx (j:=0) (u:=Value.int .i64 l.toArray[j]!) rfl
 refine⟨by simpa using hc,?_⟩
 rcases h.2 with⟨h1,_⟩|⟨g',cap',cur,h1,_,hg,_⟩
 ·cases h1
 ·cases h1
  simp[World.frozen?,hg]
theorem Sl.put1(h:Sl E 1 (λn:Int=>[Value.int .i64 n]) w (.slice (some ⟨g,0,none⟩) l.length cap) l)(d:Array Int)(hd:d.size=l.length)(m:Nat)(hm:m<=l.length)(q:Nat):
  Sl E 1 (λn:Int=>[Value.int .i64 n]) (putRow (Value.int .i64) (Sort.ahead w q) g 0 d) (.slice (some ⟨g,0,none⟩) m cap) (d.toList.take m)/\Tch [g] w (putRow (Value.int .i64) (Sort.ahead w q) g 0 d):=by
 have hlm:(d.toList.take m).length=m:=by rw[A8,HE];omega
 constructor
 ·unfold Sl
  rw[K0]
  refine⟨by simp,?_⟩
  rcases h.2 with⟨h1,_⟩|⟨g',cap',cur,h1,h0,hg,hc,hmx,hs,ht⟩
  ·cases h1
  ·cases h1
   refine .inr ⟨g,cap,putCells (Value.int .i64) 0 d cur,by rw[hlm],Am _,?_,by rw[hlm];omega,hmx,by simp[putCells,hs],?_⟩
   ·simp[putRow,mapBlock,Sort.ahead,CB,hg,onCells]
   ·rw[hlm]
    apply BY
    intro t
    rw[CX,Ad,CX]
    split
    ·rename_i hlt
     have h1:t<cur.size:=by omega
     have h2:t<d.size:=by omega
     have h3:t<m:=by omega
     simp[putCells,h1,h2,h3]
    ·rename_i hlt
     have h3:¬t<m:=by omega
     simp[h3]
 ·refine⟨rfl,rfl,rfl,?_,?_⟩
  ·simp[putRow,mapBlock,Sort.ahead]
  ·intro j hj hn
   have hne:g≠j:=λe=>hn (by simp[e])
   simp[putRow,mapBlock,Sort.ahead,CB,hne]
end
end Go.Reg
namespace Go.Proofs.YtjpmmkodoeipmaaGreatDoor
open Go.RowKit Go.Shelf Go.Sx Go.Reg Go.Sort Go.Gr Go.Proofs
set_option maxRecDepth 100000
theorem Yu {O:List Nat} {w:World}:∀{l:List Int} {css:List (List Value)},Aq O w (l.map dI) css->css=l.map (λn=>[Value.int .i64 n])
 |[],css,h=>by simpa only[Bt,Aq]using h
 |
  e::l,css,h=>by
  simp only[Ap,Aq,dI,RepC]at h
  obtain⟨c1,c2,rfl,rfl,h⟩:=h
  rw[Yu h];rfl
theorem Tc {E:Nat} {w:World} {v:Value} {l:List Int}:Sl E 1 id w v (l.map λn=>[Value.int .i64 n])↔Sl E 1 (λn:Int=>[Value.int .i64 n]) w v l:=by
 unfold Sl
 rw[Ac,Gw]
 exact SD
theorem AEh {f:FuncId} {l:List Int} {xs:List Da} {r:List Int} {vs:List Value}(hxs:∀(O:List Nat) (w:World) (us:List Value),Jt O w xs us->us=vs)(hrl:r.length<=l.length)
  (hrun:∀(us:Array Value) (w:World),(callFunc f us).run C1.P w=.ok (.enter f us) w)
  (hnil:l=[]->∀w:World,Calls C1.P f (.slice none 0 0::vs).toArray w λe w'=>e=.returned (.slice none 0 0)/\w'=w)
  (hmem:∀(g cap:Nat) (w:World),Go.Sort.Holds (Value.int .i64) w g 0 l.toArray->l.length<=cap->cap<=9223372036854775807->Calls C1.P f (.slice (some ⟨g,0,none⟩) l.length cap::vs).toArray w λe w'=>e=.returned (.slice (some ⟨g,0,none⟩) r.length cap)/\∃q,∃rest:List Int,r.length+rest.length=l.length/\w'=putRow (Value.int .i64) (Sort.ahead w q) g 0 (r++rest).toArray):
  VD C1 f 3 1 (l.map dI) xs (λds=>ds=r.map dI):=by
 intro O w v css us hs hb hO hr hk hg hus
 obtain rfl:=hxs O w us hus
 obtain rfl:=Yu hr
 refine⟨hrun _ _,?_⟩
 have hs1:=Tc.1 hs
 rcases hs1.shape with⟨rfl,rfl⟩|⟨g,cap,rfl,hc⟩
 ·refine(hnil rfl w).mono ?_
  rintro e w' ⟨rfl,rfl⟩
  have:r=[]:=AF (by simpa using hrl)
  subst this
  exact⟨_,_,[],rfl,rfl,Sl.nil _ _ _ _,λb hb=>(by cases hb),by simp[Aq],by simp,Tch.refl _ _⟩
 ·have hcm:cap<=9223372036854775807:=by
   rcases hs1.2 with⟨h1,_⟩|⟨g',cap',cur,h1,_,_,_,hm,_⟩
   ·cases h1
   ·cases h1;unfold maxLen at hm;omega
  refine(hmem g cap w hs1.holds1 hc hcm).mono ?_
  rintro e w' ⟨rfl,q,rest,hrl2,rfl⟩
  obtain⟨h1,h2⟩:=hs1.put1 (r++rest).toArray (by simp;omega) r.length hrl q
  have ht:(r++rest).toArray.toList.take r.length=r:=by simp
  rw[ht]at h1
  exact⟨_,_,r.map λn=>[Value.int .i64 n],rfl,rfl,Tc.2 h1,λb hb=>.inl hb,Q3 r,Y8 r,h2⟩
theorem ZB {O:List Nat} {w:World} {us:List Value}(h:Jt O w [] us):us=[]:=Dv h
theorem MK(l:List Int):(Lib.compact l).length<=l.length:=by
 unfold Lib.compact Lib.compactUpTo
 rw[Ac]
 have:=CM (Lib.keeps l.toArray) (List.range l.length)
 rwa [Dt]at this
theorem S6(l:List Int)(hl:l.length<=9223372036854775807):VD C1 214 3 1 (l.map dI) [] (λds=>ds=(Lib.compact l).map dI):=
 AEh (vs:=[]) (λO w us h=>ZB h) (MK l) (λus w=>enters_of Tryz.func214 (by kernel_rfl) rfl us w)
  (λ_ w=>AnyG.slices_Compact_int_empty Tryz.compactI none 0 w)
  (λg cap w hH hc hm=>(AnyG.slices_Compact_int Tryz.compactI g 0 cap l w hH hl hc).mono λe w' ⟨h1,q,h2⟩=>⟨h1,q,List.replicate (l.length- (Lib.compact l).length) 0,by have:=MK l;simp;omega,h2⟩)
end Go.Proofs.YtjpmmkodoeipmaaGreatDoor
namespace Go.Gr
open Go.Lib in
theorem cY(d:Array Int)(hd:∀i j,i<=j->j<d.size->d[i]! <=d[j]!):∀m,m<=d.size->(compactUpTo d m).Pairwise (· < ·)/\∀x,x∈compactUpTo d m↔∃j,j<m/\x=d[j]! :=by
 intro m
 induction m with
 |zero=>intro _;simp[compactUpTo]
 |
  succ m ih=>
  intro hm
  obtain⟨h1,h2⟩:=ih (by omega)
  rw[compactUpTo_succ]
  cases hk:keeps d m with
  |
   true=>
   rw[if_pos rfl]
   refine⟨CU.2 ⟨h1,by simp,λa ha b hb=>?_⟩,λx=>?_⟩
   ·simp only[As]at hb
    subst hb
    obtain⟨j,hj,rfl⟩:=(h2 a).1 ha
    simp only[keeps,decide_eq_true_eq]at hk
    have g1:=hd j (m-1) (by omega) (by omega)
    have g2:=hd (m-1) m (by omega) (by omega)
    have:d[m]! ≠d[m-1]! :=hk.resolve_left (by omega)
    omega
   ·rw[Ag,h2,As]
    constructor
    ·rintro(⟨j,hj,rfl⟩|rfl)
     ·exact⟨j,by omega,rfl⟩
     ·exact⟨m,by omega,rfl⟩
    ·rintro⟨j,hj,rfl⟩
     by_cases e:j=m
     ·subst e;exact .inr rfl
     ·exact .inl ⟨j,by omega,rfl⟩
  |
   false=>
   simp only[CY,if_false,Cq]
   refine⟨h1,λx=>?_⟩
   rw[h2]
   simp only[keeps,decide_eq_false_iff_not,not_or,Classical.not_not]at hk
   constructor
   ·rintro⟨j,hj,rfl⟩;exact⟨j,by omega,rfl⟩
   ·rintro⟨j,hj,rfl⟩
    by_cases e:j=m
    ·subst e;exact⟨j-1,by omega,hk.2⟩
    ·exact⟨j,by omega,rfl⟩
def D3(l:List Int):List Int:=Lib.compact (l.mergeSort λx y=>decide (x<=y))
theorem BG(l:List Int):(D3 l).Pairwise (· < ·)/\∀x,x∈D3 l↔x∈l:=by
 have hp:=L5 l λx y=>decide (x<=y)
 have hs:(l.mergeSort λx y=>decide (x<=y)).Pairwise (λx y=>decide (x<=y)=true):=NM (by intro a b c;simp;omega) (by intro a b;simp;omega) l
 generalize hz:(l.mergeSort λx y=>decide (x<=y))=z at hp hs
 have hd:∀i j,i<=j->j<z.toArray.size->z.toArray[i]! <=z.toArray[j]! :=by
  intro i j hij hj
  have hj':j<z.length:=by simpa using hj
  rw[getElem!_pos z.toArray j hj,getElem!_pos z.toArray i (by omega)]
  by_cases e:i=j
  ·subst e;exact Int.le_refl _
  ·have:=AM.1 hs i j (by omega) hj' (by omega)
   simpa using this
 obtain⟨h1,h2⟩:=cY z.toArray hd z.length (by simp)
 unfold D3 Lib.compact
 rw[hz]
 refine⟨h1,λx=>?_⟩
 rw[h2,<-hp.mem_iff,C7]
 constructor
 ·rintro⟨j,hj,rfl⟩
  refine⟨j,hj,?_⟩
  rw[getElem!_pos z.toArray j (by simpa using hj)];simp
 ·rintro⟨j,hj,rfl⟩
  refine⟨j,hj,?_⟩
  rw[getElem!_pos z.toArray j (by simpa using hj)];simp
end Go.Gr
namespace Go.Proofs.YtjpmmkodoeipmaaGreatDoor
open Go.Sx Go.RowKit Go.Reg Go.Gr
set_option maxRecDepth 100000
theorem HI(l:List Int):(D3 l).length<=l.length:=by
 have:=MK (l.mergeSort λx y=>decide (x<=y))
 rwa [QI]at this
theorem PV(l:List Int)(hl:l.length<=4294967296):Pure C1 144 [Bh l] (λy=>y=Bh (D3 l)):=by
 refine AU Tryz.func144 Tryz.ntmps144 [] [] ?_
 (conv=>whnf)
 (repeat' ((first|refine Aj ?_ ?_|refine Af rfl (Ic l) ?_|refine nx ?_|refine AB (λ_=>?_) (λ_=>?_)|exact AE)<;>conv=>whnf))
 refine EF 29 rfl rfl (RZ l hl) ?_;rintro ds rfl
 (conv=>whnf)
 refine dX rfl rfl (S6 (l.mergeSort λx y=>decide (x<=y)) (by rw[QI];omega)) ?_;rintro ds rfl
 ((conv=>whnf);repeat' ((first|refine odw ?_|refine nx ?_|refine AB (λ_=>?_) (λ_=>?_))<;>conv=>whnf))
 exact rfl
end Go.Proofs.YtjpmmkodoeipmaaGreatDoor
end
section
namespace Go.Gr
def HK:List Int->List Edg
 |[]=>[]
 |a::l=>l.map (λb=>⟨a,b⟩)++HK l
theorem OG:∀{l:List Int},l.Pairwise (· < ·)->∀{e:Edg},e∈HK l↔e.a∈l/\e.b∈l/\e.a<e.b
 |[],_,e=>by simp[HK]
 |
  x::l,h,e=>by
  have g:=Cl.1 h
  simp only[HK,Ag,An,OG g.2,Ai]
  constructor
  ·rintro(⟨b,hb,rfl⟩|⟨h1,h2,h3⟩)
   ·exact⟨.inl rfl,.inr hb,g.1 b hb⟩
   ·exact⟨.inr h1,.inr h2,h3⟩
  ·rintro⟨h1|h1,h2|h2,h3⟩
   ·omega
   ·exact .inl ⟨e.b,h2,by cases e;simp_all⟩
   ·have:=g.1 _ h1;omega
   ·exact .inr ⟨h1,h2,h3⟩
theorem PT:∀{l:List Int},l.Pairwise (· < ·)->(HK l).Nodup
 |[],_=>by simp[HK]
 |
  x::l,h=>by
  have g:=Cl.1 h
  simp only[HK]
  rw[Ds]
  refine⟨?_,PT g.2,?_⟩
  ·have hn:l.Nodup:=g.2.imp (λh=>by omega)
   unfold List.Nodup
   rw[B7]
   exact hn.imp λh e=>h (by cases e;rfl)
  ·intro a ha b hb e
   subst e
   obtain⟨y,hy,rfl⟩:=An.1 ha
   have:=(OG g.2).1 hb
   have:=g.1 _ this.1
   simp only at this
   omega
def Lh(d:Nat):Nat:=d*(d-1)/2
theorem ZN(d:Nat):Lh (d+1)=d+Lh d:=by
 unfold Lh
 cases d with
 |zero=>rfl
 |
  succ d=>
  simp only[Nat.add_sub_cancel]
  have h:(d+1+1)*(d+1)=(d+1)*2+(d+1)*d:=by
   rw[<-Nat.mul_add,AAG,AAI 2 d]
  rw[h,AAI,Nat.add_mul_div_right _ _ (by omega)]
  omega
theorem Li:∀l:List Int,(HK l).length=Lh l.length
 |[]=>rfl
 |
  x::l=>by
  simp only[HK,Ah,Ac,Li l,Ax,ZN]
theorem Oh:∀{l1 l2:List Edg},CC l1->CC l2->(∀x,x∈l1↔x∈l2)->l1=l2:=by
 intro l1 l2 h1 h2 h
 refine Kc ?_ h1 h2
 have n1:=h1.nodup
 have n2:=h2.nodup
 exact(List.perm_ext_iff_of_nodup n1 n2).2 h
def tch(E:List Edg)(i j:Nat):Bool:=match E[i]?,E[j]? with
 |some x,some y=>decide (i≠j)&&(decide (x.a=y.a)||decide (x.a=y.b)||decide (x.b=y.a)||decide (x.b=y.b))
 |_,_=>false
def pW(E:List Edg)(a k:Nat):List Edg:=((List.range k).filter (λb:Nat=>decide (a<b)&&tch E a b)).map λb:Nat=>⟨(a:Int),(b:Int)⟩
def JW(E:List Edg)(k:Nat):List Edg:=(List.range k).flatMap λa=>pW E a E.length
theorem fH(E:List Edg)(k:Nat):JW E (k+1)=JW E k++pW E k E.length:=by
 simp[JW,CR]
theorem aM {E:List Edg} {a k:Nat} {e:Edg}:e∈pW E a k↔∃b:Nat,b<k/\a<b/\tch E a b=true/\e=⟨(a:Int),(b:Int)⟩:=by
 simp only[pW,An,A0,AN,Ar,decide_eq_true_eq]
 constructor
 ·rintro⟨b,⟨h1,h2,h3⟩,rfl⟩;exact⟨b,h1,h2,h3,rfl⟩
 ·rintro⟨b,h1,h2,h3,rfl⟩;exact⟨b,⟨h1,h2,h3⟩,rfl⟩
theorem N4 {E:List Edg} {k:Nat} {e:Edg}:e∈JW E k↔∃a b:Nat,a<k/\b<E.length/\a<b/\tch E a b=true/\e=⟨(a:Int),(b:Int)⟩:=by
 simp only[JW,AL,AN,aM]
 constructor
 ·rintro⟨a,ha,b,h1,h2,h3,rfl⟩;exact⟨a,b,ha,h1,h2,h3,rfl⟩
 ·rintro⟨a,b,ha,h1,h2,h3,rfl⟩;exact⟨a,ha,b,h1,h2,h3,rfl⟩
theorem Z1(E:List Edg)(a k:Nat):CC (pW E a k):=by
 unfold pW CC
 rw[B7]
 refine(List.pairwise_lt_range.filter _).imp λh=>?_
 rw[F3]
 exact .inr ⟨rfl,Int.ofNat_lt.2 h⟩
theorem X0(E:List Edg)(k:Nat):CC (JW E k):=by
 induction k with
 |zero=>exact List.Pairwise.nil
 |
  succ k ih=>
  rw[fH]
  unfold CC
  rw[CU]
  refine⟨ih,Z1 _ _ _,λx hx y hy=>?_⟩
  obtain⟨a,b,h1,h2,h3,h4,rfl⟩:=N4.1 hx
  obtain⟨c,h5,h6,h7,rfl⟩:=aM.1 hy
  rw[F3];simp only;omega
theorem nC {E:List Edg} {v:Nat} {x:Int}:x∈Pg E v↔∃(i:Nat) (e:Edg),x=(i:Int)/\E[i]? =some e/\(e.a=v\/e.b=v):=by
 simp only[Pg,An,A0,decide_eq_true_eq]
 constructor
 ·rintro⟨p,⟨h1,h2⟩,rfl⟩
  exact⟨p.2,p.1,rfl,VA.1 h1,h2⟩
 ·rintro⟨i,e,rfl,h1,h2⟩
  exact⟨(e,i),⟨VA.2 h1,h2⟩,rfl⟩
theorem eD(E:List Edg)(v:Nat):(Pg E v).Pairwise (· < ·):=J0 _ _
def Cu(E:List Edg)(n:Nat):List Edg:=(List.range n).flatMap λv=>HK (Pg E v)
theorem Fx(E:List Edg)(n:Nat):Cu E (n+1)=Cu E n++HK (Pg E n):=by simp[Cu,CR]
theorem JM {E:List Edg} {v:Nat} {e:Edg}:e∈HK (Pg E v)↔∃(i j:Nat) (x y:Edg),e=⟨(i:Int),(j:Int)⟩/\i<j/\E[i]? =some x/\E[j]? =some y/\(x.a=v\/x.b=v)/\(y.a=v\/y.b=v):=by
 rw[OG (eD E v),nC,nC]
 constructor
 ·rintro⟨⟨i,x,h1,h2,h3⟩,⟨j,y,h4,h5,h6⟩,h7⟩
  exact⟨i,j,x,y,by cases e;simp_all,by omega,h2,h5,h3,h6⟩
 ·rintro⟨i,j,x,y,rfl,h1,h2,h3,h4,h5⟩
  exact⟨⟨i,x,rfl,h2,h4⟩,⟨j,y,rfl,h3,h5⟩,by simp only;omega⟩
theorem rD {G:Gr}(h:G.Ok) {i j:Nat} {x y:Edg}(hi:G.edges[i]? =some x)(hj:G.edges[j]? =some y)(hij:i<j) {u v:Nat}(h1:x.a=u\/x.b=u)(h2:y.a=u\/y.b=u)(h3:x.a=v\/x.b=v)(h4:y.a=v\/y.b=v):u=v:=by
 obtain⟨l1,e1⟩:=Ae.1 hi
 obtain⟨l2,e2⟩:=Ae.1 hj
 have hs:=AM.1 h.sorted i j l1 l2 hij
 rw[e1,e2,F3]at hs
 have hx:=h.edge x (A6 hi)
 have hy:=h.edge y (A6 hj)
 omega
theorem Oq {G:Gr}(h:G.Ok)(n:Nat):(Cu G.edges n).Nodup:=by
 induction n with
 |zero=>simp[Cu]
 |
  succ n ih=>
  rw[Fx,Ds]
  refine⟨ih,PT (eD _ _),λa ha b hb e=>?_⟩
  subst e
  simp only[Cu,AL,AN]at ha
  obtain⟨v,hv,ha⟩:=ha
  obtain⟨i,j,x,y,rfl,h1,h2,h3,h4,h5⟩:=JM.1 ha
  obtain⟨i',j',x',y',he,h1',h2',h3',h4',h5'⟩:=JM.1 hb
  simp only[Edg.mk.injEq,ABe]at he
  obtain⟨rfl,rfl⟩:=he
  rw[h2]at h2';rw[h3]at h3'
  cases h2';cases h3'
  have:=rD h h2 h3 h1 h4 h5 h4' h5'
  omega
theorem Sr {G:Gr}(h:G.Ok) {e:Edg}:e∈Cu G.edges G.labels.length↔e∈JW G.edges G.edges.length:=by
 simp only[Cu,AL,AN,JM,N4]
 constructor
 ·rintro⟨v,hv,i,j,x,y,rfl,h1,h2,h3,h4,h5⟩
  have l1:=(Ae.1 h2).1
  have l2:=(Ae.1 h3).1
  refine⟨i,j,l1,l2,h1,?_,rfl⟩
  unfold tch
  rw[h2,h3]
  have:i≠j:=by omega
  simp only[this,ne_eq,not_false_eq_true,decide_true,lT,Dj,decide_eq_true_eq]
  omega
 ·rintro⟨i,j,l1,l2,h1,ht,rfl⟩
  unfold tch at ht
  have hx:=Ab l1
  have hy:=Ab l2
  rw[hx,hy]at ht
  simp only[Ar,Dj,decide_eq_true_eq]at ht
  have ex:=h.edge _ (AZ l1)
  have ey:=h.edge _ (AZ l2)
  generalize G.edges[i]=x at*
  generalize G.edges[j]=y at*
  have key:∀v:Int,0<=v->v<G.labels.length->(x.a=v\/x.b=v)->(y.a=v\/y.b=v)->∃a:Nat,a<G.labels.length/\∃(i_1 j_1:Nat) (x y:Edg),(⟨(i:Int),(j:Int)⟩:Edg)=⟨(i_1:Int),(j_1:Int)⟩/\i_1<j_1/\G.edges[i_1]? =some x/\G.edges[j_1]? =some y/\(x.a=(a:Int)\/x.b=(a:Int))/\(y.a=(a:Int)\/y.b=(a:Int)):=by
   intro v h0 hn g1 g2
   obtain⟨m,rfl⟩:=A9 h0
   exact⟨m,by omega,i,j,x,y,rfl,h1,hx,hy,g1,g2⟩
  obtain⟨_,((h|h)|h)|h⟩:=ht
  ·exact key x.a (by omega) (by omega) (.inl rfl) (.inl h.symm)
  ·exact key x.a (by omega) (by omega) (.inl rfl) (.inr h.symm)
  ·exact key x.b (by omega) (by omega) (.inr rfl) (.inl h.symm)
  ·exact key x.b (by omega) (by omega) (.inr rfl) (.inr h.symm)
theorem OF {G:Gr}(h:G.Ok) {e:Edg}(he:e∈Cu G.edges G.labels.length):0<=e.a/\e.a<e.b/\e.b<G.edges.length:=by
 rw[Sr h,N4]at he
 obtain⟨i,j,h1,h2,h3,_,rfl⟩:=he
 exact⟨by simp only;omega,by simp only;omega,by simp only;omega⟩
theorem Ss {l:List Edg}(h:∀e∈l,e.a<=e.b):l.map turn=l:=by
 induction l with
 |nil=>rfl
 |cons e l ih=>rw[Ap,J2 (h e (by simp)),ih λx hx=>h x (by simp[hx])]
theorem Qh {G:Gr}(h:G.Ok)(hm:G.edges.length<=4096)(hp:(Cu G.edges G.labels.length).length<=16384):Eo (List.replicate G.edges.length 0) (Cu G.edges G.labels.length)=none:=by
 refine J8 (by rw[B9];omega) (λx hx=>by rw[(List.mem_replicate.1 hx).2];rfl) λj hj=>?_
 unfold Dm
 rw[Ab hj]
 simp only[Jn,B9]
 have he:=OF h (AZ hj)
 have hnd:=Oq h G.labels.length
 have hmt:((Cu G.edges G.labels.length).take j).map turn=(Cu G.edges G.labels.length).take j:=Ss λe he=>by
  have:=OF h (DO he);omega
 rw[hmt]
 have hnot:turn (Cu G.edges G.labels.length)[j]∉(Cu G.edges G.labels.length).take j:=by
  rw[J2 (by omega)]
  intro hmem
  obtain⟨k,hk,e⟩:=Bc.1 hmem
  have h2:=(AM.1 hnd) k j (by omega) hj (by omega)
  exact h2 e
 rw[if_neg (by omega),if_neg (by omega),if_neg hnot]
theorem Sv {G:Gr}(h:G.Ok):Hs (Cu G.edges G.labels.length)=JW G.edges G.edges.length:=by
 have hmt:(Cu G.edges G.labels.length).map turn=Cu G.edges G.labels.length:=Ss λe he=>by
  have:=OF h he;omega
 refine Oh ?_ (X0 _ _) λx=>?_
 ·refine Kb ((HQ _).nodup_iff.2 ?_) (Lw _)
  rw[hmt];exact Oq h _
 ·rw[(HQ _).mem_iff,hmt,Sr h]
theorem AC8(E:List Edg)(v:Nat)(h:∀e∈E,e.a≠e.b):(Pg E v).length=Hy E v:=by
 have key:∀(E:List Edg),(∀e∈E,e.a≠e.b)->∀k,((E.zipIdx k).filter λp=>decide (p.1.a=(v:Int)\/p.1.b=(v:Int))).length=(FM E v).length+(Fb E v).length:=by
  intro E
  induction E with
  |nil=>intro _ k;rfl
  |
   cons e E ih=>
   intro h k
   have:=ih (λx hx=>h x (by simp[hx])) (k+1)
   have hne:=h e (by simp)
   simp only[RT,KJ,FM,Fb]at this⊢
   by_cases h1:e.a=(v:Int)<;>by_cases h2:e.b=(v:Int)
   ·omega
   ·have e1:(decide (e.a=(v:Int)\/e.b=(v:Int)))=true:=by simp[h1]
    rw[e1];simp only[h1,h2,decide_true,decide_false,if_true,if_false,Ax,Ap,CY];omega
   ·have e1:(decide (e.a=(v:Int)\/e.b=(v:Int)))=true:=by simp[h2]
    rw[e1];simp only[h1,h2,decide_true,decide_false,if_true,if_false,Ax,Ap,CY];omega
   ·have e1:(decide (e.a=(v:Int)\/e.b=(v:Int)))=false:=by simp[h1,h2]
    rw[e1];simp only[h1,h2,decide_false,if_false,CY];omega
 unfold Pg Hy Ep
 rw[Ac,Ah]
 exact key E h 0
end Go.Gr
end
section
namespace Go.Proofs.YtjpmmkodoeipmaaGreatDoor
open Go.Sx Go.RowKit Go.Reg Go.Gr
set_option maxRecDepth 100000
def dM(labels:List Int)(S:List Edg):Da:=.agg [Bh labels,ET S]
def dM0:Da:=.agg [.nils,.nils]
theorem PC(e:Edg):Pure C1 85 [dE e] (λy=>y=dE (turn e)):=by
 refine AU Tryz.func85 Tryz.ntmps85 [] [] ?_
 by_cases h:e.b<e.a
 ·have e1:turn e=⟨e.b,e.a⟩:=by unfold turn;simp only[Edg.mk.injEq];omega
  rw[e1]
  ((conv=>whnf);repeat' ((first|refine odw ?_|refine nx ?_|refine AB (λ_=>?_) (λ_=>?_))<;>conv=>whnf))
  exact rfl
 ·rw[J2 (by omega)]
  ((conv=>whnf);repeat' ((first|refine odw ?_|refine nx ?_|refine AB (λ_=>?_) (λ_=>?_))<;>conv=>whnf))
  exact rfl
theorem Uk(x y:Edg):Pure C1 87 [dE x,dE y] (λr=>r=.bool (decide (C2 x y<0))):=by
 refine AU Tryz.func87 Tryz.ntmps87 [] [] ?_
 have hc:=F3 x y
 by_cases h:x.a=y.a
 ·((conv=>whnf);repeat' ((first|refine odw ?_|refine nx ?_|refine AB (λ_=>?_) (λ_=>?_))<;>conv=>whnf))
  show Da.plain _=_
  have:(C2 x y<0)↔x.b<y.b:=by rw[hc];omega
  simp[Da.plain,this]
 ·((conv=>whnf);repeat' ((first|refine odw ?_|refine nx ?_|refine AB (λ_=>?_) (λ_=>?_))<;>conv=>whnf))
  show Da.plain _=_
  have:(C2 x y<0)↔x.a<y.a:=by rw[hc];omega
  simp[Da.plain,this]
theorem AEj {O:List Nat} {w:World} {labels:List Int} {S:List Edg} {v:Value}(h:Rep O w (dM labels S) v):S.length<=maxLen:=by
 obtain⟨cs,r,rfl⟩:=h
 simp only[dM,ET,RepC,RepCs]at r
 obtain⟨_,_,_,_,c1,c2,_,⟨a,c,css,_,h1,h2,_⟩,_⟩:=r
 rw[Ac]at h1
 omega
def xA:List (Nat×Plan):=[(5,.leaf [0,1,0,0,1,1,3] [0,2,1,3,4,5,6] [0,1,0,7,15,0,63])]
theorem wH(labels:List Int)(S:List Edg)(a b:Int):Pure C1 86 [dM labels S,.int .i64 a,.int .i64 b] (λy=>y=.int .i64 (idE S (turn ⟨a,b⟩))):=by
 have hl:(S.map dE).length=S.length:=Ac _
 refine Pure.assume (P:=S.length<=maxLen) (λO w us h=>?_) (λhm=>?_)
 ·obtain⟨v,vs,rfl,h1,_⟩:=Cg h
  exact AEj h1
 unfold maxLen at hm
 refine AU Tryz.func86 Tryz.ntmps86 [] xA ?_
 ((conv=>whnf);repeat' ((first|refine odw ?_|refine nx ?_|refine AB (λ_=>?_) (λ_=>?_))<;>conv=>whnf))
 refine AR rfl (PC ⟨a,b⟩) ?_;rintro y rfl
 generalize turn ⟨a,b⟩=t
 obtain⟨ta,tb⟩:=t
 ((conv=>whnf);repeat' ((first|refine odw ?_|refine nx ?_|refine AB (λ_=>?_) (λ_=>?_))<;>conv=>whnf))
 refine AQ (ι:=Nat) (λi=>i<=S.length/\∀x∈S.take i,x≠⟨ta,tb⟩) (λi=>[(8,.d (.int .i64 i)),(7,.own 7),(3,.own 3)])
  (λi=>[(3,.cells 30 [.d (Bh labels),.d (ET S)]),(7,.cells 66 [.d (.int .i64 ta),.d (.int .i64 tb)])]) (λi=>S.length-i) 0 (λ_=>rfl) ⟨Am _,by simp⟩ (.refl _ _) ⟨rfl,rfl,rfl,trivial⟩ ⟨rfl,rfl,trivial⟩ ?_
 rintro i ⟨hi,hne⟩
 refine Ca [] xA ?_
 by_cases hlt:i<S.length
 ·have hx:=Ab hlt
  generalize S[i]=x at hx
  obtain⟨xa,xb⟩:=x
  have hxd:(S.map dE)[i]? =some (.agg [.int .i64 xa,.int .i64 xb]):=by rw[Ad,hx];rfl
  by_cases he:xa=ta/\xb=tb
  ·obtain⟨rfl,rfl⟩:=he
   rw[AEd hx hne]
   (repeat' ((first|refine Aj ?_ ?_|refine AO hxd rfl ?_|refine nx ?_|refine AB (λ_=>?_) (λ_=>?_)|exact AE)<;>conv=>whnf))
   exact rfl
  ·(repeat' ((first|refine Aj ?_ ?_|refine AO hxd rfl ?_|refine nx ?_|refine AB (λ_=>?_) (λ_=>?_)|exact AE)<;>conv=>whnf))
   refine⟨i+1,_,_,⟨hlt,?_⟩,.refl _ _,⟨rfl,rfl,rfl,trivial⟩,⟨rfl,rfl,trivial⟩,by omega⟩
   intro z hz
   rw[EZ hx]at hz
   rcases Ag.1 hz with hz|hz
   ·exact hne z hz
   ·simp only[As]at hz
    subst hz
    intro h
    exact he ⟨congrArg Edg.a h,congrArg Edg.b h⟩
 ·have hii:S.take i=S:=Ak (by omega)
  rw[hii]at hne
  rw[US (λh=>hne _ h rfl)]
  ((conv=>whnf);repeat' ((first|refine odw ?_|refine nx ?_|refine AB (λ_=>?_) (λ_=>?_))<;>conv=>whnf))
  exact rfl
def Z5(labels:List Int)(edges:List Edg):Da:=match Eo labels edges with
 |some (c,a,_)=>.tuple [dM0,.int .i64 c,.int .i64 a]
 |none=>.tuple [dM labels (Hs edges),.int .i64 0,.int .i64 0]
theorem Fu {labels:List Int} {edges:List Edg} {c a:Int} {b:Bool}(h:Eo labels edges=some (c,a,b)):Z5 labels edges=.tuple [dM0,.int .i64 c,.int .i64 a]:=by unfold Z5;rw[h]
theorem Uj {labels:List Int} {edges:List Edg}(h:Eo labels edges=none):Z5 labels edges=.tuple [dM labels (Hs edges),.int .i64 0,.int .i64 0]:=by unfold Z5;rw[h]
theorem bT {t k:Nat} {d:Dat} {a b:List Da}(h:a=b):some (Own.cells t [d,.d (.list k a)])=some (Own.cells t [d,.d (.list k b)]):=by rw[h]
def SV:List (Nat×Plan):=[(20,.leaf [0,0,1,0,0,0,0,1,0,0,1,1,2,0] [0,1,2,3,4,5,6,8,7,9,10,11,12,13] [0,0,2,6,15,31,63,127,63,511,1023,63,4095,8191])]
def YL:List FuncId:=[87]
set_option maxHeartbeats 4000000 in
theorem qE(labels:List Int)(edges:List Edg):Pure C1 46 [Bh labels,ET edges] (λy=>y=Z5 labels edges):=by
 have hll:(labels.map dI).length=labels.length:=Ac _
 have hel:(edges.map dE).length=edges.length:=Ac _
 refine AU Tryz.func46 Tryz.ntmps46 YL SV ?_
 by_cases h1:4096<labels.length
 ·rw[Fu (IC (.inl h1))]
  ((conv=>whnf);repeat' ((first|refine odw ?_|refine nx ?_|refine AB (λ_=>?_) (λ_=>?_))<;>conv=>whnf))
  exact rfl
 by_cases h2:16384<edges.length
 ·rw[Fu (IC (.inr h2))]
  ((conv=>whnf);repeat' ((first|refine odw ?_|refine nx ?_|refine AB (λ_=>?_) (λ_=>?_))<;>conv=>whnf))
  exact rfl
 have h0:¬(4096<labels.length\/16384<edges.length):=by omega
 ((conv=>whnf);repeat' ((first|refine odw ?_|refine nx ?_|refine AB (λ_=>?_) (λ_=>?_))<;>conv=>whnf))
 refine AQ (ι:=Nat) (λv=>v<=labels.length/\∀x∈labels.take v,BZ x=false) (λv=>[(7,.d (.int .i64 v)),(4,.own 4),(1,.d (ET edges)),(0,.d (Bh labels))])
  (λ_=>[(4,.cells 30 [.d .nils,.d .nils])]) (λv=>labels.length-v) 0 (λ_=>rfl) ⟨Am _,by simp⟩ (.refl _ _) ⟨rfl,rfl,rfl,rfl,trivial⟩ ⟨rfl,trivial⟩ ?_
 rintro v ⟨hv,hgood⟩
 refine Ca YL SV ?_
 by_cases hlt:v<labels.length
 ·have hx:=Ab hlt
  generalize labels[v]=x at hx
  have hxd:(labels.map dI)[v]? =some (.int .i64 x):=by rw[Ad,hx];rfl
  by_cases b1:x<0
  ·have hb:BZ x=true:=by simp[BZ,b1]
   rw[Fu (ID h0 hx hb hgood)]
   (repeat' ((first|refine Aj ?_ ?_|refine AO hxd rfl ?_|refine nx ?_|refine AB (λ_=>?_) (λ_=>?_)|exact AE)<;>conv=>whnf))
   exact rfl
  by_cases b2:255<x
  ·have hb:BZ x=true:=by simp[BZ,b2]
   rw[Fu (ID h0 hx hb hgood)]
   (repeat' ((first|refine Aj ?_ ?_|refine AO hxd rfl ?_|refine nx ?_|refine AB (λ_=>?_) (λ_=>?_)|exact AE)<;>conv=>whnf))
   exact rfl
  ·have hb:BZ x=false:=by simp[BZ];omega
   (repeat' ((first|refine Aj ?_ ?_|refine AO hxd rfl ?_|refine nx ?_|refine AB (λ_=>?_) (λ_=>?_)|exact AE)<;>conv=>whnf))
   refine⟨v+1,_,_,⟨hlt,?_⟩,.refl _ _,⟨rfl,rfl,rfl,rfl,trivial⟩,⟨rfl,trivial⟩,by omega⟩
   intro z hz
   rw[Au,hx]at hz
   rcases Ag.1 hz with hz|hz
   ·exact hgood z hz
   ·simp at hz;subst hz;exact hb
 ·have hve:labels.take v=labels:=Ak (by omega)
  rw[hve]at hgood
  have hvn:v=labels.length:=by omega
  subst hvn
  clear hve hv hlt
  ((conv=>whnf);repeat' ((first|refine odw ?_|refine nx ?_|refine AB (λ_=>?_) (λ_=>?_))<;>conv=>whnf))
  refine AQ (ι:=Nat×List Edg) (λp=>p.1<=edges.length/\Part edges p.1 p.2/\∀j,j<p.1->Dm labels.length edges j=0) (λp=>[(9,.d (.int .i64 p.1)),(8,.own 8),(4,.own 4),(1,.d (ET edges)),(0,.d (Bh labels))])
   (λp=>[(4,.cells 30 [.d .nils,.d .nils]),(8,.cells 30 [.d (Bh labels),.d (ET p.2)])]) (λp=>edges.length-p.1) (0,[]) (λ_=>rfl) ⟨Am _,Part.zero _,λj hj=>absurd hj (Nat.not_lt_zero j)⟩
   (.laxc 8 rfl (.same _ (.lax (.nils 2) .nil)) (.refl _ _)) ⟨rfl,rfl,rfl,rfl,rfl,trivial⟩ ⟨rfl,rfl,trivial⟩ ?_
  rintro⟨i,S⟩ ⟨hi,hpart,hcode⟩
  simp only at hi hpart hcode
  refine Ca YL SV ?_
  by_cases hlt:i<edges.length
  ·have hx:=Ab hlt
   have hec:Dm labels.length edges i=Jn labels.length ((edges.take i).map turn) edges[i]:=by unfold Dm;rw[hx]
   generalize edges[i]=e at hx hec
   have hmem:=hpart.mem (turn e)
   have hSl:S.length=i:=by rw[hpart.perm.length_eq,Ac,A8];omega
   have hxd:(edges.map dE)[i]? =some (dE e):=by rw[Ad,hx];rfl
   have hta:(turn e).a=min e.a e.b:=rfl
   have htb:(turn e).b=max e.a e.b:=rfl
   have htt:turn (turn e)=turn e:=VW e
   (repeat' ((first|refine Aj ?_ ?_|refine AO hxd rfl ?_|refine nx ?_|refine AB (λ_=>?_) (λ_=>?_)|exact AE)<;>conv=>whnf))
   refine AR rfl (PC e) ?_;rintro y rfl
   have hnext:=λk h1 h2=>hpart.next (k:=k) hx h1 h2
   generalize htE:turn e=t at hmem hta htb htt hnext⊢
   obtain⟨ta,tb⟩:=t
   simp only at hta htb
   rw[show dE ⟨ta,tb⟩=.agg [.int .i64 ta,.int .i64 tb]from rfl]
   by_cases c1:ta<0
   ·have hc:Dm labels.length edges i=3:=by rw[hec];unfold Jn;rw[if_pos (.inl (by omega))]
    rw[Fu (Fo h0 hgood hlt (by rw[hc];decide) hcode),hc]
    ((conv=>whnf);repeat' ((first|refine odw ?_|refine nx ?_|refine AB (λ_=>?_) (λ_=>?_))<;>conv=>whnf))
    exact rfl
   by_cases c2:(labels.length:Int)<=tb
   ·have hc:Dm labels.length edges i=3:=by rw[hec];unfold Jn;rw[if_pos (.inr (by omega))]
    rw[Fu (Fo h0 hgood hlt (by rw[hc];decide) hcode),hc]
    ((conv=>whnf);repeat' ((first|refine odw ?_|refine nx ?_|refine AB (λ_=>?_) (λ_=>?_))<;>conv=>whnf))
    exact rfl
   by_cases c3:ta=tb
   ·have hc:Dm labels.length edges i=1:=by rw[hec];unfold Jn;rw[if_neg (by omega),if_pos (by omega)]
    rw[Fu (Fo h0 hgood hlt (by rw[hc];decide) hcode),hc]
    ((conv=>whnf);repeat' ((first|refine odw ?_|refine nx ?_|refine AB (λ_=>?_) (λ_=>?_))<;>conv=>whnf))
    exact rfl
   ((conv=>whnf);repeat' ((first|refine odw ?_|refine nx ?_|refine AB (λ_=>?_) (λ_=>?_))<;>conv=>whnf))
   refine AR rfl (wH labels S ta tb) ?_;rintro y rfl
   rw[htt]
   by_cases c4:(⟨ta,tb⟩:Edg)∈S
   ·have hc:Dm labels.length edges i=4:=by rw[hec];unfold Jn;rw[if_neg (by omega),if_neg (by omega),if_pos (by rw[htE];exact hmem.1 c4)]
    rw[Fu (Fo h0 hgood hlt (by rw[hc];decide) hcode),hc]
    have FW:=jT.2 c4
    generalize idE S ⟨ta,tb⟩=z at FW
    ((conv=>whnf);repeat' ((first|refine odw ?_|refine nx ?_|refine AB (λ_=>?_) (λ_=>?_))<;>conv=>whnf))
    exact rfl
   ·have hc:Dm labels.length edges i=0:=by rw[hec];unfold Jn;rw[if_neg (by omega),if_neg (by omega),if_neg (by rw[htE];exactλh=>c4 (hmem.2 h))]
    have FW:idE S ⟨ta,tb⟩<0:=by rw[US c4];decide
    generalize idE S ⟨ta,tb⟩=z at FW
    ((conv=>whnf);repeat' ((first|refine odw ?_|refine nx ?_|refine AB (λ_=>?_) (λ_=>?_))<;>conv=>whnf))
    refine AQ (ι:=Nat) (λk=>k<=S.length/\∀x∈S.take k,C2 x ⟨ta,tb⟩<0) (λk=>[(11,.d (.int .i64 k)),(10,.own 10),(9,.d (.int .i64 i)),(8,.own 8),(4,.own 4),(1,.d (ET edges)),(0,.d (Bh labels))])
     (λ_=>[(4,.cells 30 [.d .nils,.d .nils]),(8,.cells 30 [.d (Bh labels),.d (ET S)]),(10,.cells 66 [.d (.int .i64 ta),.d (.int .i64 tb)])])
     (λk=>S.length-k) 0 (λ_=>rfl) ⟨Am _,by simp⟩ (.refl _ _) ⟨rfl,rfl,rfl,rfl,rfl,rfl,rfl,trivial⟩ ⟨rfl,rfl,rfl,trivial⟩ ?_
    rintro k ⟨hk,hkl⟩
    refine Ca YL SV ?_
    have hSd:(S.map dE).length=S.length:=Ac _
    by_cases hks:k<S.length
    ·have hxk:=Ab hks
     generalize S[k]=x at hxk
     have hxkd:(S.map dE)[k]? =some (dE x):=by rw[Ad,hxk];rfl
     by_cases hl:C2 x ⟨ta,tb⟩<0
     ·(repeat' ((first|refine Aj ?_ ?_|refine AO hxkd rfl ?_|refine nx ?_|refine AB (λ_=>?_) (λ_=>?_)|exact AE)<;>conv=>whnf))
      refine AR rfl (Uk x ⟨ta,tb⟩) ?_;rintro y rfl
      rw[decide_eq_true hl]
      ((conv=>whnf);repeat' ((first|refine odw ?_|refine nx ?_|refine AB (λ_=>?_) (λ_=>?_))<;>conv=>whnf))
      refine⟨k+1,_,_,⟨hks,?_⟩,.refl _ _,⟨rfl,rfl,rfl,rfl,rfl,rfl,rfl,trivial⟩,⟨rfl,rfl,rfl,trivial⟩,by omega⟩
      intro z hz
      rw[EZ hxk]at hz
      rcases Ag.1 hz with hz|hz
      ·exact hkl z hz
      ·simp only[As]at hz
       subst hz;exact hl
     ·have hstop:∀z,S[k]? =some z->¬C2 z ⟨ta,tb⟩<0:=λz hz=>by rw[hxk]at hz;cases hz;exact hl
      (repeat' ((first|refine Aj ?_ ?_|refine AO hxkd rfl ?_|refine nx ?_|refine AB (λ_=>?_) (λ_=>?_)|exact AE)<;>conv=>whnf))
      refine AR rfl (Uk x ⟨ta,tb⟩) ?_;rintro y rfl
      rw[decide_eq_false hl]
      ((conv=>whnf);repeat' ((first|refine odw ?_|refine nx ?_|refine AB (λ_=>?_) (λ_=>?_))<;>conv=>whnf))
      (repeat' ((first|refine Aj ?_ ?_|refine TI k rfl (by rw[Ac];omega) ?_|refine nx ?_|refine AB (λ_=>?_) (λ_=>?_)|exact AE)<;>conv=>whnf))
      have hfin:([]++(S.map dE).take k)++[.agg [.int .i64 ta,.int .i64 tb]]++(S.map dE).drop k=(M6 S k ⟨ta,tb⟩).map dE:=by simp[M6,dE]
      refine⟨(i+1,M6 S k ⟨ta,tb⟩),_,_,⟨hlt,hnext k c4 hkl hstop,?_⟩,.frz 99 rfl (.refl _ _),⟨rfl,rfl,rfl,rfl,rfl,trivial⟩,⟨rfl,bT hfin,trivial⟩,by simp only;omega⟩
      intro j hj
      rcases Nat.lt_succ_iff_lt_or_eq.1 hj with h|h
      ·exact hcode j h
      ·rw[h];exact hc
    ·have hke:k=S.length:=by omega
     have hstop:∀z,S[k]? =some z->¬C2 z ⟨ta,tb⟩<0:=λz hz=>by rw[AI (by omega)]at hz;cases hz
     (repeat' ((first|refine Aj ?_ ?_|refine TI k rfl (by rw[Ac];omega) ?_|refine nx ?_|refine AB (λ_=>?_) (λ_=>?_)|exact AE)<;>conv=>whnf))
     have hfin:([]++(S.map dE).take k)++[.agg [.int .i64 ta,.int .i64 tb]]++(S.map dE).drop k=(M6 S k ⟨ta,tb⟩).map dE:=by simp[M6,dE]
     refine⟨(i+1,M6 S k ⟨ta,tb⟩),_,_,⟨hlt,hnext k c4 hkl hstop,?_⟩,.frz 99 rfl (.refl _ _),⟨rfl,rfl,rfl,rfl,rfl,trivial⟩,⟨rfl,bT hfin,trivial⟩,by simp only;omega⟩
     intro j hj
     rcases Nat.lt_succ_iff_lt_or_eq.1 hj with h|h
     ·exact hcode j h
     ·rw[h];exact hc
  ·have hin:i=edges.length:=by omega
   subst hin
   obtain rfl:=hpart.all (Ay _)
   rw[Uj (J8 h0 hgood hcode)]
   ((conv=>whnf);repeat' ((first|refine odw ?_|refine nx ?_|refine AB (λ_=>?_) (λ_=>?_))<;>conv=>whnf))
   exact rfl
theorem UJ(edges:List Edg)(hm:edges.length<=4294967296):Pure C1 48 [ET edges] (λy=>y=ET edges):=by
 have hel:(edges.map dE).length=edges.length:=Ac _
 refine AU Tryz.func48 Tryz.ntmps48 [] [] ?_
 ((conv=>whnf);repeat' ((first|refine odw ?_|refine nx ?_|refine AB (λ_=>?_) (λ_=>?_))<;>conv=>whnf))
 refine AQ (ι:=Nat) (λi=>i<=edges.length) (λi=>[(4,.d (.int .i64 i)),(3,.own 300),(0,.d (ET edges))]) (λi=>[(300,.slice 90 2 ((edges.take i).map dE))]) (λi=>edges.length-i) 0 (λ_=>rfl) (Am _)
  (.own 3 300 90 2 rfl rfl (.refl _ _)) ⟨rfl,rfl,rfl,trivial⟩ ⟨rfl,trivial⟩ ?_
 intro i hi
 refine Ca [] [] ?_
 by_cases hlt:i<edges.length
 ·have hx:=Ab hlt
  generalize edges[i]=e at hx
  have hxd:(edges.map dE)[i]? =some (dE e):=by rw[Ad,hx];rfl
  have htl:(edges.take i).length=i:=by rw[A8];omega
  (repeat' ((first|refine Aj ?_ ?_|refine AO hxd rfl ?_|refine nx ?_|refine AB (λ_=>?_) (λ_=>?_)|exact AE)<;>conv=>whnf))
  have hfin:(edges.take i).map dE++[dE e]=(edges.take (i+1)).map dE:=by rw[EZ hx,A7];rfl
  exact⟨i+1,_,_,hlt,.refl _ _,⟨rfl,rfl,rfl,trivial⟩,⟨Bj hfin,trivial⟩,by omega⟩
 ·have hii:edges.take i=edges:=Ak (by omega)
  rw[hii]
  ((conv=>whnf);repeat' ((first|refine odw ?_|refine nx ?_|refine AB (λ_=>?_) (λ_=>?_))<;>conv=>whnf))
  exact rfl
def Qf(labels:List Int)(edges:List Edg):Option Gr:=if labels.length<=10/\edges.length<=30 then(match Eo labels edges with|some _=>none|none=>some ⟨labels,Hs edges⟩)else none
def Jj(labels:List Int)(edges:List Edg):Da:=match Qf labels edges with
 |some G=>.tuple [dG G,dM G.labels G.edges,.bool true]
 |none=>.tuple [.nilp,dM0,.bool false]
theorem iX {labels:List Int} {edges:List Edg} {G:Gr}(h:Qf labels edges=some G):G=⟨labels,Hs edges⟩/\G.Ok/\labels.length<=10/\edges.length<=30/\Eo labels edges=none:=by
 unfold Qf at h
 split at h
 ·rename_i hl
  split at h
  ·cases h
  ·rename_i hn
   cases h
   exact⟨rfl,Q6 hn,hl.1,hl.2,hn⟩
 ·cases h
def AB9:List (Nat×Plan):=[(5,.leaf [0,1,0,0,0,0,0,0,0,3,0] [0,2,3,4,5,6,7,8,1,9,10] [0,0,0,4,12,28,60,124,29,287,1023])]
theorem WR(labels:List Int)(edges:List Edg):Pure C1 15 [Bh labels,ET edges] (λy=>y=Jj labels edges):=by
 have hll:(labels.map dI).length=labels.length:=Ac _
 have hel:(edges.map dE).length=edges.length:=Ac _
 refine AU Tryz.func15 Tryz.ntmps15 [] AB9 ?_
 by_cases h1:10<labels.length
 ·have e:Jj labels edges=.tuple [.nilp,dM0,.bool false]:=by unfold Jj Qf;rw[if_neg (by omega)]
  rw[e]
  ((conv=>whnf);repeat' ((first|refine odw ?_|refine nx ?_|refine AB (λ_=>?_) (λ_=>?_))<;>conv=>whnf))
  exact rfl
 by_cases h2:30<edges.length
 ·have e:Jj labels edges=.tuple [.nilp,dM0,.bool false]:=by unfold Jj Qf;rw[if_neg (by omega)]
  rw[e]
  ((conv=>whnf);repeat' ((first|refine odw ?_|refine nx ?_|refine AB (λ_=>?_) (λ_=>?_))<;>conv=>whnf))
  exact rfl
 ((conv=>whnf);repeat' ((first|refine odw ?_|refine nx ?_|refine AB (λ_=>?_) (λ_=>?_))<;>conv=>whnf))
 refine AR rfl (qE labels edges) ?_;rintro y rfl
 rcases hn:Eo labels edges with _|⟨c,a,b⟩
 ·have e:Jj labels edges=.tuple [dG ⟨labels,Hs edges⟩,dM labels (Hs edges),.bool true]:=by unfold Jj Qf;rw[if_pos (by omega),hn]
  rw[e,Uj hn]
  ((conv=>whnf);repeat' ((first|refine odw ?_|refine nx ?_|refine AB (λ_=>?_) (λ_=>?_))<;>conv=>whnf))
  refine AR rfl (UJ edges (by omega)) ?_;rintro y rfl
  ((conv=>whnf);repeat' ((first|refine odw ?_|refine nx ?_|refine AB (λ_=>?_) (λ_=>?_))<;>conv=>whnf))
  refine AR rfl (U4 labels edges) ?_;rintro y rfl
  rw[Rm hn]
  ((conv=>whnf);repeat' ((first|refine odw ?_|refine nx ?_|refine AB (λ_=>?_) (λ_=>?_))<;>conv=>whnf))
  all_goals exact rfl
 ·have e:Jj labels edges=.tuple [.nilp,dM0,.bool false]:=by unfold Jj Qf;rw[if_pos (by omega),hn]
  rw[e,Fu hn]
  ((conv=>whnf);repeat' ((first|refine odw ?_|refine nx ?_|refine AB (λ_=>?_) (λ_=>?_))<;>conv=>whnf))
  refine AR rfl (UJ edges (by omega)) ?_;rintro y rfl
  ((conv=>whnf);repeat' ((first|refine odw ?_|refine nx ?_|refine AB (λ_=>?_) (λ_=>?_))<;>conv=>whnf))
  refine AR rfl (U4 labels edges) ?_;rintro y rfl
  rw[Gp hn]
  cases b
  ·((conv=>whnf);repeat' ((first|refine odw ?_|refine nx ?_|refine AB (λ_=>?_) (λ_=>?_))<;>conv=>whnf))
   all_goals exact rfl
  ·((conv=>whnf);repeat' ((first|refine odw ?_|refine nx ?_|refine AB (λ_=>?_) (λ_=>?_))<;>conv=>whnf))
   all_goals exact rfl
theorem rU(labels:List Int)(edges:List Edg):Jj labels edges=.tuple [.nilp,dM0,.bool false]\/
  ∃G:Gr,Jj labels edges=.tuple [dG G,dM G.labels G.edges,.bool true]/\G.Ok/\G.labels.length<=10/\G.edges.length<=30/\G=⟨labels,Hs edges⟩/\Eo labels edges=none/\edges.length=G.edges.length:=by
 rcases h:Qf labels edges with _|G
 ·left;unfold Jj;rw[h]
 ·right
  obtain⟨h1,h2,h3,h4,h5⟩:=iX h
  refine⟨G,by unfold Jj;rw[h],h2,?_,?_,h1,h5,?_⟩
  ·rw[h1];exact h3
  ·rw[h1];simp only;rw[RI];exact h4
  ·rw[h1];simp only;rw[RI]
end Go.Proofs.YtjpmmkodoeipmaaGreatDoor
end
section
namespace Go.Gr
theorem Rf(d:Nat):Lh d<=d*d:=by
 unfold Lh
 have h:d*(d-1)<=d*d:=Nat.mul_le_mul_left d (by omega)
 omega
theorem qU(d:Nat)(hd:d<=32768):0<=(d:Int)*((d:Int)-1)/\(d:Int)*((d:Int)-1)<=1073741824/\((d:Int)*((d:Int)-1)).tdiv 2=(Lh d:Int):=by
 cases d with
 |zero=>decide
 |
  succ d=>
  have e:((d+1:Nat):Int)*(((d+1:Nat):Int)-1)=(((d+1)*d:Nat):Int):=by push_cast;congr 1;omega
  rw[e]
  have h2:(d+1)*d<=32768*32768:=DN hd (by omega)
  refine⟨by omega,by omega,?_⟩
  rw[Int.tdiv_eq_ediv_of_nonneg (by omega)]
  unfold Lh
  simp
theorem XW(E:List Edg) {v n:Nat}(h:v<=n):(Cu E v).length<=(Cu E n).length:=by
 induction n with
 |zero=>
           have:v=0:=by omega
           subst this;exact Ay _
 |
  succ n ih=>
  rcases BN v (n+1)with h1|h1
  ·have:=ih (by omega);rw[Fx,Ah];omega
  ·have:v=n+1:=by omega
   subst this;exact Ay _
theorem Sm(E:List Edg)(v:Nat)(h:∀u,(Pg E u).length<=32768):(Cu E v).length<=v*1073741824:=by
 induction v with
 |zero=>simp[Cu]
 |
  succ v ih=>
  rw[Fx,Ah,Li]
  have h1:=Rf (Pg E v).length
  have h2:(Pg E v).length*(Pg E v).length<=32768*32768:=DN (h v) (h v)
  omega
def pu(l:List Int):Nat->List Edg
 |0=>[]
 |i+1=>pu l i++(l.drop (i+1)).map (λb=>⟨(l[i]?).getD 0,b⟩)
theorem mP(x:Int)(l:List Int):∀i,pu (x::l) (i+1)=l.map (λb=>⟨x,b⟩)++pu l i
 |0=>by simp[pu]
 |
  i+1=>by
  rw[pu,mP x l i,pu]
  simp
theorem wO:∀l:List Int,pu l l.length=HK l
 |[]=>rfl
 |x::l=>by rw[Ax,mP,wO l];rfl
theorem AB6(l:List Int) {i n:Nat}(h:i<=n):(pu l i).length<=(pu l n).length:=by
 induction n with
 |zero=>
           have:i=0:=by omega
           subst this;exact Ay _
 |
  succ n ih=>
  rcases BN i (n+1)with h1|h1
  ·have:=ih (by omega);rw[pu,Ah];omega
  ·have:i=n+1:=by omega
   subst this;exact Ay _
end Go.Gr
namespace Go.Proofs.YtjpmmkodoeipmaaGreatDoor
open Go.Sx Go.RowKit Go.Reg Go.Gr
set_option maxRecDepth 100000
theorem AEL {G:Gr}(h:G.Ok):∀e∈G.edges,e.a≠e.b:=λe he=>by have:=h.edge e he;omega
theorem AA6 {G:Gr}(h:G.Ok)(v:Nat):(Pg G.edges v).length=Hy G.edges v:=AC8 G.edges v (AEL h)
theorem oF {G:Gr}(h:G.Ok)(v:Nat):(Pg G.edges v).length<=32768:=by
 rw[AA6 h]
 have h1:=Vo G.edges v
 have h2:=h.esize
 omega
theorem iF(G:Gr)(hG:G.Ok):Pure C1 100 [dG G] (λy=>y=.int .i64 (Cu G.edges G.labels.length).length):=by
 have hs:=hG.size
 refine AU Tryz.func100 Tryz.ntmps100 [] [] ?_
 ((conv=>whnf);repeat' ((first|refine odw ?_|refine nx ?_|refine AB (λ_=>?_) (λ_=>?_))<;>conv=>whnf))
 refine AR rfl (Ks G) ?_;rintro y rfl
 ((conv=>whnf);repeat' ((first|refine odw ?_|refine nx ?_|refine AB (λ_=>?_) (λ_=>?_))<;>conv=>whnf))
 refine AQ (ι:=Nat) (λv=>v<=G.labels.length) (λv=>[(8,.d (.int .i64 v)),(7,.d (.int .i64 G.labels.length)),(3,.d (.int .i64 (Cu G.edges v).length)),(0,.d (dG G))]) (λ_=>[]) (λv=>G.labels.length-v) 0 (λ_=>rfl) (Am _) (.refl _ _) ⟨rfl,rfl,rfl,rfl,trivial⟩ trivial ?_
 intro v hv
 refine Ca [] [] ?_
 by_cases hlt:v<G.labels.length
 ·((conv=>whnf);repeat' ((first|refine odw ?_|refine nx ?_|refine AB (λ_=>?_) (λ_=>?_))<;>conv=>whnf))
  refine AR rfl (cV G hG v) ?_;rintro y rfl
  have e:kR G v=(Pg G.edges v).length:=by unfold kR;rw[if_pos (by omega),Bi,AA6 hG]
  have hd:=oF hG v
  have hp:=qU (Pg G.edges v).length hd
  have hb:=Sm G.edges v (oF hG)
  have hn2:=Rf (Pg G.edges v).length
  have hst:(Cu G.edges (v+1)).length=(Cu G.edges v).length+Lh (Pg G.edges v).length:=by rw[Fx,Ah,Li]
  have hbn:=Sm G.edges (v+1) (oF hG)
  rw[e]
  generalize (Pg G.edges v).length=d at*
  ((conv=>whnf);repeat' ((first|refine odw ?_|refine nx ?_|refine AB (λ_=>?_) (λ_=>?_))<;>conv=>whnf))
  exact⟨v+1,_,_,hlt,.refl _ _,⟨rfl,rfl,OU (by rw[hp.2.2,hst];omega),rfl,trivial⟩,trivial,by omega⟩
 ·have hvn:v=G.labels.length:=by omega
  subst hvn
  ((conv=>whnf);repeat' ((first|refine odw ?_|refine nx ?_|refine AB (λ_=>?_) (λ_=>?_))<;>conv=>whnf))
  exact rfl
def jC:ByteArray:=⟨#[108,105,110,101,115]⟩
def aR(G:Gr):Da:=if 16384<(Cu G.edges G.labels.length).length then .tuple [.nilp,dS jC (dF 6 0 OW)]else .tuple [dG ⟨List.replicate G.edges.length 0,JW G.edges G.edges.length⟩,.nili]
set_option maxHeartbeats 4000000 in
theorem zC(G:Gr)(hG:G.Ok)(hm:G.edges.length<=4096):Pure C1 56 [dG G] (λy=>y=aR G):=by
 have hs:=hG.size
 refine AU Tryz.func56 Tryz.ntmps56 [] [] ?_
 ((conv=>whnf);repeat' ((first|refine odw ?_|refine nx ?_|refine AB (λ_=>?_) (λ_=>?_))<;>conv=>whnf))
 refine AR rfl (iF G hG) ?_;rintro y rfl
 by_cases hbig:16384<(Cu G.edges G.labels.length).length
 ·have e:aR G=.tuple [.nilp,dS jC (dF 6 0 OW)]:=by unfold aR;rw[if_pos hbig]
  rw[e]
  ((conv=>whnf);repeat' ((first|refine odw ?_|refine nx ?_|refine AB (λ_=>?_) (λ_=>?_))<;>conv=>whnf))
  refine AR rfl (CH 6 0 OW) ?_;rintro y rfl
  ((conv=>whnf);repeat' ((first|refine odw ?_|refine nx ?_|refine AB (λ_=>?_) (λ_=>?_))<;>conv=>whnf))
  refine AR rfl (Kt jC 6 0 OW) ?_;rintro y rfl
  ((conv=>whnf);repeat' ((first|refine odw ?_|refine nx ?_|refine AB (λ_=>?_) (λ_=>?_))<;>conv=>whnf))
  exact rfl
 have e:aR G=.tuple [dG ⟨List.replicate G.edges.length 0,JW G.edges G.edges.length⟩,.nili]:=by unfold aR;rw[if_neg hbig]
 rw[e]
 ((conv=>whnf);repeat' ((first|refine odw ?_|refine nx ?_|refine AB (λ_=>?_) (λ_=>?_))<;>conv=>whnf))
 refine AR rfl (Ks G) ?_;rintro y rfl
 ((conv=>whnf);repeat' ((first|refine odw ?_|refine nx ?_|refine AB (λ_=>?_) (λ_=>?_))<;>conv=>whnf))
 refine AQ (ι:=Nat) (λv=>v<=G.labels.length) (λv=>[(20,.d (.int .i64 v)),(19,.d (.int .i64 G.labels.length)),(4,.own 300),(0,.d (dG G))]) (λv=>[(300,.slice 90 2 ((Cu G.edges v).map dE))]) (λv=>G.labels.length-v) 0 (λ_=>rfl) (Am _)
  (.own 4 300 90 2 rfl rfl (.refl _ _)) ⟨rfl,rfl,rfl,rfl,trivial⟩ ⟨rfl,trivial⟩ ?_
 intro v hv
 refine Ca [] [] ?_
 by_cases hlt:v<G.labels.length
 ·have hcap:=XW G.edges (show v+1<=G.labels.length by omega)
  rw[Fx,Ah]at hcap
  have hat:atY G v=Bh (Pg G.edges v):=by unfold atY;rw[if_pos (by omega),Bi]
  have hpall:=wO (Pg G.edges v)
  have hstep:=Fx G.edges v
  have hl32:=oF hG v
  ((conv=>whnf);repeat' ((first|refine odw ?_|refine nx ?_|refine AB (λ_=>?_) (λ_=>?_))<;>conv=>whnf))
  refine AR rfl (AC6 G hG v) ?_;rintro y rfl
  rw[hat]
  generalize Pg G.edges v=l at*
  have hll:(l.map dI).length=l.length:=Ac _
  ((conv=>whnf);repeat' ((first|refine odw ?_|refine nx ?_|refine AB (λ_=>?_) (λ_=>?_))<;>conv=>whnf))
  refine AQ (ι:=Nat) (λi=>i<=l.length) (λi=>[(28,.d (.int .i64 i)),(27,.d (.int .i64 (l.map dI).length)),(26,.d (Bh l)),(6,.d (Bh l)),(20,.d (.int .i64 v)),(19,.d (.int .i64 G.labels.length)),(4,.own 300),(0,.d (dG G))])
   (λi=>[(300,.slice 90 2 ((Cu G.edges v++pu l i).map dE))]) (λi=>l.length-i) 0 (λ_=>rfl) (Am _) (.refl _ _) ⟨rfl,rfl,rfl,rfl,rfl,rfl,rfl,rfl,trivial⟩ ⟨Bj (by simp[pu]),trivial⟩ ?_
  intro i hi
  refine Ca [] [] ?_
  by_cases hil:i<l.length
  ·have hx:=Ab hil
   have hpu:pu l (i+1)=pu l i++(l.drop (i+1)).map (λb=>⟨l[i],b⟩):=by rw[pu,hx];rfl
   generalize l[i]=a at hx hpu
   have hxd:(l.map dI)[i]? =some (.int .i64 a):=by rw[Ad,hx];rfl
   have hmn:=AB6 l (show i+1<=l.length by omega)
   rw[hpall]at hmn
   rw[hpu,Ah,Ac]at hmn
   (repeat' ((first|refine Aj ?_ ?_|refine AO hxd rfl ?_|refine TI (i+1) rfl (by rw[Ac];omega) ?_|refine nx ?_|refine AB (λ_=>?_) (λ_=>?_)|exact AE)<;>conv=>whnf))
   rw[<-lO]
   generalize hD:l.drop (i+1)=D at hmn hpu⊢
   have hDl:(D.map dI).length=D.length:=Ac _
   refine AQ (ι:=Nat) (λk=>k<=D.length) (λk=>[(38,.d (.int .i64 k)),(37,.d (.int .i64 (D.map dI).length)),(36,.d (Bh D)),(8,.d (.int .i64 a)),(28,.d (.int .i64 i)),(27,.d (.int .i64 (l.map dI).length)),(26,.d (Bh l)),(6,.d (Bh l)),(20,.d (.int .i64 v)),(19,.d (.int .i64 G.labels.length)),(4,.own 300),(0,.d (dG G))])
    (λk=>[(300,.slice 90 2 ((Cu G.edges v++pu l i++(D.take k).map (λb=>(⟨a,b⟩:Edg))).map dE))]) (λk=>D.length-k) 0 (λ_=>rfl) (Am _) (.refl _ _) ⟨rfl,rfl,rfl,rfl,rfl,rfl,rfl,rfl,rfl,rfl,rfl,rfl,trivial⟩ ⟨Bj (by simp),trivial⟩ ?_
   intro k hk
   refine Ca [] [] ?_
   by_cases hkl:k<D.length
   ·have hxk:=Ab hkl
    generalize D[k]=b at hxk
    have hxkd:(D.map dI)[k]? =some (.int .i64 b):=by rw[Ad,hxk];rfl
    have hfin:(Cu G.edges v++pu l i++(D.take k).map (λb=>(⟨a,b⟩:Edg))).map dE++[.agg [.int .i64 a,.int .i64 b]]=(Cu G.edges v++pu l i++(D.take (k+1)).map (λb=>(⟨a,b⟩:Edg))).map dE:=by
     rw[Au,hxk];simp[dE]
    (repeat' ((first|refine Aj ?_ ?_|refine AO hxkd rfl ?_|refine nx ?_|refine AB (λ_=>?_) (λ_=>?_)|exact AE)<;>conv=>whnf))
    exact⟨k+1,_,_,hkl,.refl _ _,⟨rfl,rfl,rfl,rfl,rfl,rfl,rfl,rfl,rfl,rfl,rfl,rfl,trivial⟩,⟨Bj hfin,trivial⟩,by omega⟩
   ·have hkD:D.take k=D:=Ak (by omega)
    rw[hkD]
    ((conv=>whnf);repeat' ((first|refine odw ?_|refine nx ?_|refine AB (λ_=>?_) (λ_=>?_))<;>conv=>whnf))
    exact⟨i+1,_,_,hil,.refl _ _,⟨rfl,rfl,rfl,rfl,rfl,rfl,rfl,rfl,trivial⟩,⟨Bj (by rw[hpu,Bk]),trivial⟩,by omega⟩
  ·have hii:i=l.length:=by omega
   subst hii
   rw[hpall]
   ((conv=>whnf);repeat' ((first|refine odw ?_|refine nx ?_|refine AB (λ_=>?_) (λ_=>?_))<;>conv=>whnf))
   exact⟨v+1,_,_,hlt,.refl _ _,⟨rfl,rfl,rfl,rfl,trivial⟩,⟨Bj (by rw[hstep]),trivial⟩,by omega⟩
 ·have hvn:v=G.labels.length:=by omega
  subst hvn
  ((conv=>whnf);repeat' ((first|refine odw ?_|refine nx ?_|refine AB (λ_=>?_) (λ_=>?_))<;>conv=>whnf))
  refine AR rfl (QT G) ?_;rintro y rfl
  (conv=>whnf)
  (repeat' ((first|refine Aj ?_ ?_|refine Mv G.edges.length rfl rfl (by omega) ?_|refine nx ?_|refine AB (λ_=>?_) (λ_=>?_)|exact AE)<;>conv=>whnf))
  have hz:List.replicate G.edges.length (dI 0)=(List.replicate G.edges.length 0).map dI:=by simp
  refine Dq 54 rfl ?_
  refine Dq 300 rfl ?_
  refine AR (xs:=[Bh (List.replicate G.edges.length 0),ET (Cu G.edges G.labels.length)]) (by show some [Da.list 1 (List.replicate G.edges.length (dI 0)),_]=_;rw[hz];rfl) (U4 _ _) ?_;rintro y rfl
  rw[Rm (Qh hG hm (by omega)),Sv hG]
  ((conv=>whnf);repeat' ((first|refine odw ?_|refine nx ?_|refine AB (λ_=>?_) (λ_=>?_))<;>conv=>whnf))
  all_goals exact rfl
def Iz(E:List Edg)(a b:Int):Bool:=decide (0<=a)&&decide (0<=b)&&tch E a.toNat b.toNat
theorem QO {E:List Edg} {a b:Int}(h:¬(0<=a/\a<E.length)\/¬(0<=b/\b<E.length)\/a=b):Iz E a b=false:=by
 unfold Iz tch
 by_cases ha:0<=a
 ·by_cases hb:0<=b
  ·obtain⟨m,rfl⟩:=A9 ha
   obtain⟨n,rfl⟩:=A9 hb
   simp only[Bi]
   by_cases hm:m<E.length
   ·by_cases hn:n<E.length
    ·have:m=n:=by omega
     subst this
     rw[Ab hm];simp
    ·rw[AI (l:=E) (i:=n) (by omega),Ab hm];simp
   ·rw[AI (l:=E) (i:=m) (by omega)];simp
  ·simp[hb]
 ·simp[ha]
theorem oY {E:List Edg} {m n:Nat} {x y:Edg}(hx:E[m]? =some x)(hy:E[n]? =some y)(hne:m≠n):Iz E m n=(decide (x.a=y.a)||decide (x.a=y.b)||decide (x.b=y.a)||decide (x.b=y.b)):=by
 unfold Iz tch
 have h1:(0:Int)<=m:=by omega
 have h2:(0:Int)<=n:=by omega
 simp only[Bi,hx,hy,h1,h2,decide_true,lT,ne_eq,hne,not_false_eq_true]
set_option maxHeartbeats 1000000 in
theorem fN(G:Gr)(a b:Int):Pure C1 219 [dG G,.int .i64 a,.int .i64 b] (λy=>y=.bool (Iz G.edges a b)):=by
 refine AU Tryz.func219 Tryz.ntmps219 [] [] ?_
 ((conv=>whnf);repeat' ((first|refine odw ?_|refine nx ?_|refine AB (λ_=>?_) (λ_=>?_))<;>conv=>whnf))
 refine AR rfl (K7 G a) ?_;rintro y rfl
 by_cases ha:0<=a/\a<G.edges.length
 ·obtain⟨m,rfl⟩:=A9 ha.1
  have hmm:m<G.edges.length:=by omega
  have hx:=Ab hmm
  generalize G.edges[m]=x at hx
  have e:Ff G.edges (m:Int)=.tuple [dE x,.bool true]:=by unfold Ff;rw[if_pos ha,Bi,hx];rfl
  obtain⟨xa,xb⟩:=x
  rw[e,show dE ⟨xa,xb⟩=.agg [.int .i64 xa,.int .i64 xb]from rfl]
  ((conv=>whnf);repeat' ((first|refine odw ?_|refine nx ?_|refine AB (λ_=>?_) (λ_=>?_))<;>conv=>whnf))
  refine AR rfl (K7 G b) ?_;rintro y rfl
  by_cases hb:0<=b/\b<G.edges.length
  ·obtain⟨n,rfl⟩:=A9 hb.1
   have hnn:n<G.edges.length:=by omega
   have hy:=Ab hnn
   generalize G.edges[n]=y at hy
   have e:Ff G.edges (n:Int)=.tuple [dE y,.bool true]:=by unfold Ff;rw[if_pos hb,Bi,hy];rfl
   obtain⟨ya,yb⟩:=y
   rw[e,show dE ⟨ya,yb⟩=.agg [.int .i64 ya,.int .i64 yb]from rfl]
   by_cases hne:m=n
   ·rw[QO (.inr (.inr (by rw[hne])))]
    ((conv=>whnf);repeat' ((first|refine odw ?_|refine nx ?_|refine AB (λ_=>?_) (λ_=>?_))<;>conv=>whnf))
    exact rfl
   ·rw[oY hx hy hne]
    by_cases h1:xa=ya
    ·((conv=>whnf);repeat' ((first|refine odw ?_|refine nx ?_|refine AB (λ_=>?_) (λ_=>?_))<;>conv=>whnf))
     exact Eq.trans (b:=Da.bool true) rfl (by simp[h1])
    by_cases h2:xa=yb
    ·((conv=>whnf);repeat' ((first|refine odw ?_|refine nx ?_|refine AB (λ_=>?_) (λ_=>?_))<;>conv=>whnf))
     exact Eq.trans (b:=Da.bool true) rfl (by simp[h2])
    by_cases h3:xb=ya
    ·((conv=>whnf);repeat' ((first|refine odw ?_|refine nx ?_|refine AB (λ_=>?_) (λ_=>?_))<;>conv=>whnf))
     exact Eq.trans (b:=Da.bool true) rfl (by simp[h3])
    ·((conv=>whnf);repeat' ((first|refine odw ?_|refine nx ?_|refine AB (λ_=>?_) (λ_=>?_))<;>conv=>whnf))
     show Da.plain _=_
     simp[Da.plain,h1,h2,h3]
  ·have e:Ff G.edges b=.tuple [dE ⟨0,0⟩,.bool false]:=by unfold Ff;rw[if_neg hb]
   rw[e,QO (.inr (.inl hb))]
   ((conv=>whnf);repeat' ((first|refine odw ?_|refine nx ?_|refine AB (λ_=>?_) (λ_=>?_))<;>conv=>whnf))
   exact rfl
 ·have e:Ff G.edges a=.tuple [dE ⟨0,0⟩,.bool false]:=by unfold Ff;rw[if_neg ha]
  rw[e,QO (.inl ha)]
  ((conv=>whnf);repeat' ((first|refine odw ?_|refine nx ?_|refine AB (λ_=>?_) (λ_=>?_))<;>conv=>whnf))
  refine AR rfl (K7 G b) ?_;rintro y rfl
  by_cases hb:0<=b/\b<G.edges.length
  ·have e:Ff G.edges b=.tuple [dE ((G.edges[b.toNat]?).getD ⟨0,0⟩),.bool true]:=by unfold Ff;rw[if_pos hb]
   rw[e]
   ((conv=>whnf);repeat' ((first|refine odw ?_|refine nx ?_|refine AB (λ_=>?_) (λ_=>?_))<;>conv=>whnf))
   exact rfl
  ·have e:Ff G.edges b=.tuple [dE ⟨0,0⟩,.bool false]:=by unfold Ff;rw[if_neg hb]
   rw[e]
   ((conv=>whnf);repeat' ((first|refine odw ?_|refine nx ?_|refine AB (λ_=>?_) (λ_=>?_))<;>conv=>whnf))
   exact rfl
theorem fO(E:List Edg)(m n:Nat):Iz E m n=tch E m n:=by
 unfold Iz
 have h1:(0:Int)<=m:=by omega
 have h2:(0:Int)<=n:=by omega
 simp[h1,h2]
end Go.Proofs.YtjpmmkodoeipmaaGreatDoor
end
section
namespace Go.Proofs.YtjpmmkodoeipmaaGreatDoor
open Go.Sx Go.RowKit Go.Reg Go.Gr
set_option maxRecDepth 100000
theorem Sk {G:Gr}(_hG:G.Ok)(hn:G.labels.length<=10)(hm:G.edges.length<=30):(Cu G.edges G.labels.length).length<=16384:=by
 have key:∀v,(Cu G.edges v).length<=v*900:=by
  intro v
  induction v with
  |zero=>simp[Cu]
  |
   succ v ih=>
   rw[Fx,Ah,Li]
   have h0:(Pg G.edges v).length<=30:=by
    unfold Pg
    rw[Ac]
    have:=CM (λp:Edg×Nat=>decide (p.1.a=(v:Int)\/p.1.b=(v:Int))) G.edges.zipIdx
    rw[List.length_zipIdx]at this
    omega
   have h1:=Rf (Pg G.edges v).length
   have h2:(Pg G.edges v).length*(Pg G.edges v).length<=30*30:=DN h0 h0
   omega
 have:=key G.labels.length
 omega
def lnG(G:Gr):Gr:=⟨List.replicate G.edges.length 0,JW G.edges G.edges.length⟩
theorem iY {G:Gr}(hG:G.Ok)(hn:G.labels.length<=10)(hm:G.edges.length<=30):aR G=.tuple [dG (lnG G),.nili]:=by
 unfold aR
 have:=Sk hG hn hm
 rw[if_neg (by omega)]
 rfl
end Go.Proofs.YtjpmmkodoeipmaaGreatDoor
end
section
namespace Go.Gr
def C0(E:List Edg)(l:List Int):List Edg:=l.filterMap λid:Int=>if 0<=id/\id<E.length then E[id.toNat]? else none
def I3(out:List Int)(x:Int):List Int:=if x∈out then out else out++[x]
def C8(l:List Edg):List Int:=l.foldl (λout e=>I3 (I3 out e.a) e.b) []
theorem KO(l:List Edg)(e:Edg):C8 (l++[e])=I3 (I3 (C8 l) e.a) e.b:=by simp[C8]
theorem QD(out:List Int)(x:Int):(I3 out x).length<=out.length+1:=by unfold I3;split<;>simp
theorem RW(l:List Edg):(C8 l).length<=2*l.length:=by
 suffices h:∀l:List Edg,(C8 l.reverse).length<=2*l.length by have:=h l.reverse;rwa [F5,List.length_reverse]at this
 intro l
 induction l with
 |nil=>simp[C8]
 |
  cons e l ih=>
  rw[Hd,KO]
  have h1:=QD (I3 (C8 l.reverse) e.a) e.b
  have h2:=QD (C8 l.reverse) e.a
  simp only[Ax];omega
theorem S5(E:List Edg)(l:List Int)(x:Int):C0 E (l++[x])=C0 E l++(if 0<=x/\x<E.length then E[x.toNat]? else none).toList:=by
 simp only[C0,List.filterMap_append,List.filterMap_cons,List.filterMap_nil]
 congr 1
theorem sW {E:List Edg} {l:List Int} {m:Nat} {e:Edg}(h:E[m]? =some e):C0 E (l++[(m:Int)])=C0 E l++[e]:=by
 have:=(Ae.1 h).1
 rw[S5,if_pos ⟨by omega,by omega⟩,Bi,h];rfl
theorem kK {E:List Edg} {l:List Int} {x:Int}(h:¬(0<=x/\x<E.length)):C0 E (l++[x])=C0 E l:=by
 rw[S5,if_neg h];simp
theorem Pb(E:List Edg)(l:List Int):(C0 E l).length<=l.length:=List.length_filterMap_le _ _
def SG(l:List Int)(x:Int):Int:=match l.findIdx? (λy=>decide (x=y))with|some i=>(i:Int)|none=>-1
theorem ABU {l:List Int} {x:Int} {i:Nat}(h:l[i]? =some x)(hn:∀y∈l.take i,¬x=y):SG l x=i:=by
 unfold SG
 have:l.findIdx? (λy=>decide (x=y))=some i:=by
  rw[Ba]
  obtain⟨h1,h2⟩:=Ae.1 h
  refine⟨h1,by simp[h2],λj hj=>?_⟩
  have:=hn l[j] (Bc.2 ⟨j,by omega,rfl⟩)
  simp[this]
 rw[this]
theorem Xb {l:List Int} {x:Int}(h:¬x∈l):SG l x=-1:=by
 unfold SG
 have:l.findIdx? (λy=>decide (x=y))=none:=by
  rw[Bd]
  intro y hy
  have:¬x=y:=λe=>h (e▸hy)
  simp[this]
 rw[this]
theorem bJ {l:List Int} {x:Int}(h:x∈l):0<=SG l x:=by
 unfold SG
 split
 ·omega
 ·rename_i hn
  rw[Bd]at hn
  have:=hn x h
  simp at this
end Go.Gr
namespace Go.Proofs.YtjpmmkodoeipmaaGreatDoor
open Go.Sx Go.RowKit Go.Reg Go.Gr
set_option maxRecDepth 100000
theorem M4 {O:List Nat} {w:World} {l:List Int} {v:Value}(h:Rep O w (Bh l) v):l.length<=9223372036854775807:=by
 have:=mM h
 rw[Ac]at this
 unfold maxLen at this
 omega
theorem Pure.len1 {f:FuncId} {l:List Int} {xs:List Da} {Q:Da->Prop}(h:l.length<=9223372036854775807->Sx.Pure C1 f (Bh l::xs) Q):Sx.Pure C1 f (Bh l::xs) Q:=
 Sx.Pure.assume (λO w us hr=>by obtain⟨v,vs,rfl,h1,_⟩:=Cg hr;exact M4 h1) h
theorem jW(l:List Int)(x:Int):Pure C1 80 [Bh l,.int .i64 x] (λy=>y=.bool (decide (x∈l))):=by
 refine Pure.len1 λhm=>?_
 have hl:(l.map dI).length=l.length:=Ac _
 refine AU Tryz.func80 Tryz.ntmps80 [] [] ?_
 ((conv=>whnf);repeat' ((first|refine odw ?_|refine nx ?_|refine AB (λ_=>?_) (λ_=>?_))<;>conv=>whnf))
 refine AQ (ι:=Nat) (λi=>i<=l.length/\∀y∈l.take i,¬x=y) (λi=>[(5,.d (.int .i64 i)),(1,.d (.int .i64 x)),(0,.d (Bh l))]) (λ_=>[]) (λi=>l.length-i) 0 (λ_=>rfl) ⟨Am _,by simp⟩ (.refl _ _) ⟨rfl,rfl,rfl,trivial⟩ trivial ?_
 rintro i ⟨hi,hne⟩
 refine Ca [] [] ?_
 by_cases hlt:i<l.length
 ·have hx:=Ab hlt
  generalize l[i]=y at hx
  have hxd:(l.map dI)[i]? =some (.int .i64 y):=by rw[Ad,hx];rfl
  by_cases he:y=x
  ·subst he
   rw[decide_eq_true (A6 hx)]
   (conv=>whnf)
   (repeat' ((first|refine Aj ?_ ?_|refine AO hxd rfl ?_|refine nx ?_|refine AB (λ_=>?_) (λ_=>?_)|exact AE)<;>conv=>whnf))
   exact rfl
  ·(conv=>whnf)
   (repeat' ((first|refine Aj ?_ ?_|refine AO hxd rfl ?_|refine nx ?_|refine AB (λ_=>?_) (λ_=>?_)|exact AE)<;>conv=>whnf))
   refine⟨i+1,_,_,⟨hlt,?_⟩,.refl _ _,⟨rfl,rfl,rfl,trivial⟩,trivial,by omega⟩
   intro z hz
   rw[Au,hx]at hz
   rcases Ag.1 hz with hz|hz
   ·exact hne z hz
   ·simp at hz;subst hz;exactλe=>he e.symm
 ·have hii:l.take i=l:=Ak (by omega)
  rw[hii]at hne
  rw[decide_eq_false (λh=>hne x h rfl)]
  ((conv=>whnf);repeat' ((first|refine odw ?_|refine nx ?_|refine AB (λ_=>?_) (λ_=>?_))<;>conv=>whnf))
  exact rfl
theorem OV(l:List Int)(x:Int):Pure C1 158 [Bh l,.int .i64 x] (λy=>y=.int .i64 (SG l x)):=by
 refine Pure.len1 λhm=>?_
 have hl:(l.map dI).length=l.length:=Ac _
 refine AU Tryz.func158 Tryz.ntmps158 [] [] ?_
 ((conv=>whnf);repeat' ((first|refine odw ?_|refine nx ?_|refine AB (λ_=>?_) (λ_=>?_))<;>conv=>whnf))
 refine AQ (ι:=Nat) (λi=>i<=l.length/\∀y∈l.take i,¬x=y) (λi=>[(8,.d (.int .i64 i)),(7,.d (.int .i64 (l.map dI).length)),(1,.d (.int .i64 x)),(0,.d (Bh l))]) (λ_=>[]) (λi=>l.length-i) 0 (λ_=>rfl) ⟨Am _,by simp⟩ (.refl _ _) ⟨rfl,rfl,rfl,rfl,trivial⟩ trivial ?_
 rintro i ⟨hi,hne⟩
 refine Ca [] [] ?_
 by_cases hlt:i<l.length
 ·have hx:=Ab hlt
  generalize l[i]=y at hx
  have hxd:(l.map dI)[i]? =some (.int .i64 y):=by rw[Ad,hx];rfl
  by_cases he:x=y
  ·subst he
   rw[ABU hx hne]
   (conv=>whnf)
   (repeat' ((first|refine Aj ?_ ?_|refine AO hxd rfl ?_|refine nx ?_|refine AB (λ_=>?_) (λ_=>?_)|exact AE)<;>conv=>whnf))
   exact rfl
  ·(conv=>whnf)
   (repeat' ((first|refine Aj ?_ ?_|refine AO hxd rfl ?_|refine nx ?_|refine AB (λ_=>?_) (λ_=>?_)|exact AE)<;>conv=>whnf))
   refine⟨i+1,_,_,⟨hlt,?_⟩,.refl _ _,⟨rfl,rfl,rfl,rfl,trivial⟩,trivial,by omega⟩
   intro z hz
   rw[Au,hx]at hz
   rcases Ag.1 hz with hz|hz
   ·exact hne z hz
   ·simp at hz;subst hz;exact he
 ·have hii:l.take i=l:=Ak (by omega)
  rw[hii]at hne
  rw[Xb (λh=>hne x h rfl)]
  ((conv=>whnf);repeat' ((first|refine odw ?_|refine nx ?_|refine AB (λ_=>?_) (λ_=>?_))<;>conv=>whnf))
  exact rfl
theorem Ib(l:List Int)(x:Int):Pure C1 152 [Bh l,.int .i64 x] (λy=>y=.bool (decide (x∈l))):=by
 refine AU Tryz.func152 Tryz.ntmps152 [] [] ?_
 ((conv=>whnf);repeat' ((first|refine odw ?_|refine nx ?_|refine AB (λ_=>?_) (λ_=>?_))<;>conv=>whnf))
 refine Af rfl (OV l x) ?_
 by_cases h:x∈l
 ·have:=bJ h
  ((conv=>whnf);repeat' ((first|refine odw ?_|refine nx ?_|refine AB (λ_=>?_) (λ_=>?_))<;>conv=>whnf))
  show Da.plain _=_
  simp[Da.plain,h,this]
 ·rw[Xb h]
  ((conv=>whnf);repeat' ((first|refine odw ?_|refine nx ?_|refine AB (λ_=>?_) (λ_=>?_))<;>conv=>whnf))
  show Da.plain _=_
  simp[Da.plain,h]
def wZ:List (Nat×Plan):=[(6,.leaf [0,0,0,1,0,0,0,1,0] [0,1,2,4,5,6,3,7,8] [0,0,3,7,0,0,48,112,255])]
theorem pQ(l r:List Int):Pure C1 11 [Bh l,Bh r] (λy=>y=.bool (decide (l=r))):=by
 refine Pure.len1 λhm=>?_
 have hl:(l.map dI).length=l.length:=Ac _
 have hr:(r.map dI).length=r.length:=Ac _
 refine AU Tryz.func11 Tryz.ntmps11 [] wZ ?_
 by_cases hlen:l.length=r.length
 ·((conv=>whnf);repeat' ((first|refine odw ?_|refine nx ?_|refine AB (λ_=>?_) (λ_=>?_))<;>conv=>whnf))
  refine AQ (ι:=Nat) (λi=>i<=l.length/\l.take i=r.take i) (λi=>[(5,.d (.int .i64 i)),(1,.d (Bh r)),(0,.d (Bh l))]) (λ_=>[]) (λi=>l.length-i) 0 (λ_=>rfl) ⟨Am _,by simp⟩ (.refl _ _) ⟨rfl,rfl,rfl,trivial⟩ trivial ?_
  rintro i ⟨hi,he⟩
  refine Ca [] wZ ?_
  by_cases hlt:i<l.length
  ·have hx:=Ab hlt
   have hy:=Ab (l:=r) (i:=i) (by omega)
   generalize l[i]=x at hx
   generalize r[i]=y at hy
   have hxd:(l.map dI)[i]? =some (.int .i64 x):=by rw[Ad,hx];rfl
   have hyd:(r.map dI)[i]? =some (.int .i64 y):=by rw[Ad,hy];rfl
   by_cases hxy:x=y
   ·subst hxy
    (conv=>whnf)
    (repeat' ((first|refine Aj ?_ ?_|refine AO hxd rfl ?_|refine AO hyd rfl ?_|refine nx ?_|refine AB (λ_=>?_) (λ_=>?_)|exact AE)<;>conv=>whnf))
    refine⟨i+1,_,_,⟨hlt,?_⟩,.refl _ _,⟨rfl,rfl,rfl,trivial⟩,trivial,by omega⟩
    rw[Au,Au,hx,hy,he]
   ·rw[decide_eq_false (λh=>by subst h;rw[hx]at hy;cases hy;exact hxy rfl)]
    (conv=>whnf)
    (repeat' ((first|refine Aj ?_ ?_|refine AO hxd rfl ?_|refine AO hyd rfl ?_|refine nx ?_|refine AB (λ_=>?_) (λ_=>?_)|exact AE)<;>conv=>whnf))
    exact rfl
  ·rw[Ak (by omega),Ak (by omega)]at he
   rw[decide_eq_true he]
   ((conv=>whnf);repeat' ((first|refine odw ?_|refine nx ?_|refine AB (λ_=>?_) (λ_=>?_))<;>conv=>whnf))
   exact rfl
 ·rw[decide_eq_false (λh=>hlen (by rw[h]))]
  ((conv=>whnf);repeat' ((first|refine odw ?_|refine nx ?_|refine AB (λ_=>?_) (λ_=>?_))<;>conv=>whnf))
  exact rfl
theorem Xl(G:Gr)(l:List Int)(hb:l.length<=4294967296):Pure C1 157 [dG G,Bh l] (λy=>y=ET (C0 G.edges l)):=by
 have hl:(l.map dI).length=l.length:=Ac _
 refine AU Tryz.func157 Tryz.ntmps157 [] [] ?_
 ((conv=>whnf);repeat' ((first|refine odw ?_|refine nx ?_|refine AB (λ_=>?_) (λ_=>?_))<;>conv=>whnf))
 refine AQ (ι:=Nat) (λi=>i<=l.length) (λi=>[(12,.d (.int .i64 i)),(11,.d (.int .i64 (l.map dI).length)),(10,.d (Bh l)),(5,.own 300),(0,.d (dG G))]) (λi=>[(300,.slice 90 2 ((C0 G.edges (l.take i)).map dE))]) (λi=>l.length-i) 0 (λ_=>rfl) (Am _)
  (.own 5 300 90 2 rfl rfl (.refl _ _)) ⟨rfl,rfl,rfl,rfl,rfl,trivial⟩ ⟨rfl,trivial⟩ ?_
 intro i hi
 refine Ca [] [] ?_
 by_cases hlt:i<l.length
 ·have hx:=Ab hlt
  generalize l[i]=x at hx
  have hxd:(l.map dI)[i]? =some (.int .i64 x):=by rw[Ad,hx];rfl
  have htk:l.take (i+1)=l.take i++[x]:=by rw[Au,hx];rfl
  have hel:=Pb G.edges (l.take i)
  rw[A8]at hel
  (conv=>whnf)
  (repeat' ((first|refine Aj ?_ ?_|refine AO hxd rfl ?_|refine nx ?_|refine AB (λ_=>?_) (λ_=>?_)|exact AE)<;>conv=>whnf))
  refine Af rfl (K7 G x) ?_
  by_cases h:0<=x/\x<G.edges.length
  ·obtain⟨m,rfl⟩:=A9 h.1
   have hy:=Ab (show m<G.edges.length by omega)
   have e:Ff G.edges (m:Int)=.tuple [dE G.edges[m],.bool true]:=by unfold Ff;rw[if_pos h,Bi,hy];rfl
   rw[e]
   have hen:=sW (l:=l.take i) hy
   generalize G.edges[m]=z at hy hen
   have hfin:(C0 G.edges (l.take i)).map dE++[dE z]=(C0 G.edges (l.take (i+1))).map dE:=by rw[htk,hen,A7];rfl
   ((conv=>whnf);repeat' ((first|refine odw ?_|refine nx ?_|refine AB (λ_=>?_) (λ_=>?_))<;>conv=>whnf))
   exact⟨i+1,_,_,hlt,.refl _ _,⟨rfl,rfl,rfl,rfl,rfl,trivial⟩,⟨Bj hfin,trivial⟩,by omega⟩
  ·have e:Ff G.edges x=.tuple [dE ⟨0,0⟩,.bool false]:=by unfold Ff;rw[if_neg h]
   rw[e]
   have hfin:(C0 G.edges (l.take i)).map dE=(C0 G.edges (l.take (i+1))).map dE:=by rw[htk,kK h]
   ((conv=>whnf);repeat' ((first|refine odw ?_|refine nx ?_|refine AB (λ_=>?_) (λ_=>?_))<;>conv=>whnf))
   exact⟨i+1,_,_,hlt,.refl _ _,⟨rfl,rfl,rfl,rfl,rfl,trivial⟩,⟨Bj hfin,trivial⟩,by omega⟩
 ·have hii:l.take i=l:=Ak (by omega)
  rw[hii]
  ((conv=>whnf);repeat' ((first|refine odw ?_|refine nx ?_|refine AB (λ_=>?_) (λ_=>?_))<;>conv=>whnf))
  exact rfl
theorem fI(G:Gr)(l:List Int)(hb:l.length<=2147483000):Pure C1 156 [dG G,Bh l] (λy=>y=Bh (C8 (C0 G.edges l))):=by
 refine AU Tryz.func156 Tryz.ntmps156 [] [] ?_
 ((conv=>whnf);repeat' ((first|refine odw ?_|refine nx ?_|refine AB (λ_=>?_) (λ_=>?_))<;>conv=>whnf))
 refine Af rfl (Xl G l (by omega)) ?_
 have hL:=Pb G.edges l
 generalize C0 G.edges l=L at hL⊢
 have hl:(L.map dE).length=L.length:=Ac _
 ((conv=>whnf);repeat' ((first|refine odw ?_|refine nx ?_|refine AB (λ_=>?_) (λ_=>?_))<;>conv=>whnf))
 refine AQ (ι:=Nat) (λi=>i<=L.length) (λi=>[(14,.d (.int .i64 i)),(13,.d (.int .i64 (L.map dE).length)),(12,.d (ET L)),(5,.own 300)]) (λi=>[(300,.slice 3 1 ((C8 (L.take i)).map dI))]) (λi=>L.length-i) 0 (λ_=>rfl) (Am _)
  (.own 5 300 3 1 rfl rfl (.refl _ _)) ⟨rfl,rfl,rfl,rfl,trivial⟩ ⟨rfl,trivial⟩ ?_
 intro i hi
 refine Ca [] [] ?_
 by_cases hlt:i<L.length
 ·have hx:=Ab hlt
  have htk:=λx (h:L[i]? =some x)=>EZ h
  have hvl:=RW (L.take i)
  rw[A8]at hvl
  generalize L[i]=e at hx
  obtain⟨ea,eb⟩:=e
  have hxd:(L.map dE)[i]? =some (.agg [.int .i64 ea,.int .i64 eb]):=by rw[Ad,hx];rfl
  have hst:C8 (L.take (i+1))=I3 (I3 (C8 (L.take i)) ea) eb:=by rw[htk _ hx,KO]
  generalize C8 (L.take i)=out at hst hvl⊢
  (conv=>whnf)
  (repeat' ((first|refine Aj ?_ ?_|refine AO hxd rfl ?_|refine nx ?_|refine AB (λ_=>?_) (λ_=>?_)|exact AE)<;>conv=>whnf))
  refine AQ (ι:=Nat) (λk=>k<=2) (λk=>[(24,.d (.int .i64 k)),(23,.d (.int .i64 2)),(22,.d (Bh [ea,eb])),(14,.d (.int .i64 i)),(13,.d (.int .i64 (L.map dE).length)),(12,.d (ET L)),(5,.own 300)]) (λk=>[(300,.slice 3 1 ((([ea,eb].take k).foldl I3 out).map dI))]) (λk=>2-k) 0 (λ_=>rfl) (Am _)
   (.frz 22 rfl (.refl _ _)) ⟨rfl,rfl,rfl,rfl,rfl,rfl,rfl,trivial⟩ ⟨rfl,trivial⟩ ?_
  intro k hk
  refine Ca [] [] ?_
  have round:∀(x:Int) (o:List Int),[ea,eb][k]? =some x->([ea,eb].take k).foldl I3 out=o->([ea,eb].take (k+1)).foldl I3 out=I3 o x:=λx o h1 h2=>by
   rw[Au,h1,EE,h2];rfl
  have hol:(([ea,eb].take k).foldl I3 out).length<=out.length+2:=by
   have a1:=QD out ea
   have a2:=QD (I3 out ea) eb
   rcases(show k=0\/k=1\/k=2 by omega)with rfl|rfl|rfl
   ·simp
   ·simp;omega
   ·simp;omega
  by_cases hk2:k<2
  ·obtain⟨x,hxk⟩:∃x,[ea,eb][k]? =some x:=⟨_,Ab hk2⟩
   have hxkd:([ea,eb].map dI)[k]? =some (.int .i64 x):=by rw[Ad,hxk];rfl
   generalize ho:([ea,eb].take k).foldl I3 out=o at hol⊢
   have hr:=round x o hxk ho
   (conv=>whnf)
   (repeat' ((first|refine Aj ?_ ?_|refine AO hxkd rfl ?_|refine Bq tab rfl (Ib o x) rfl ?_|refine nx ?_|refine AB (λ_=>?_) (λ_=>?_)|exact AE)<;>conv=>whnf))
   by_cases hin:x∈o
   ·have hr2:o.map dI=(([ea,eb].take (k+1)).foldl I3 out).map dI:=by rw[hr];unfold I3;rw[if_pos hin]
    rw[decide_eq_true hin]
    ((conv=>whnf);repeat' ((first|refine odw ?_|refine nx ?_|refine AB (λ_=>?_) (λ_=>?_))<;>conv=>whnf))
    exact⟨k+1,_,_,hk2,.refl _ _,⟨rfl,rfl,rfl,rfl,rfl,rfl,rfl,trivial⟩,⟨Bj hr2,trivial⟩,by omega⟩
   ·have hr2:o.map dI++[.int .i64 x]=(([ea,eb].take (k+1)).foldl I3 out).map dI:=by rw[hr];unfold I3;rw[if_neg hin,A7];rfl
    rw[decide_eq_false hin]
    ((conv=>whnf);repeat' ((first|refine odw ?_|refine nx ?_|refine AB (λ_=>?_) (λ_=>?_))<;>conv=>whnf))
    exact⟨k+1,_,_,hk2,.refl _ _,⟨rfl,rfl,rfl,rfl,rfl,rfl,rfl,trivial⟩,⟨Bj hr2,trivial⟩,by omega⟩
  ·have:k=2:=by omega
   subst this
   have hr2:(([ea,eb].take 2).foldl I3 out).map dI=(C8 (L.take (i+1))).map dI:=by rw[hst];rfl
   ((conv=>whnf);repeat' ((first|refine odw ?_|refine nx ?_|refine AB (λ_=>?_) (λ_=>?_))<;>conv=>whnf))
   exact⟨i+1,_,_,hlt,.refl _ _,⟨rfl,rfl,rfl,rfl,trivial⟩,⟨Bj hr2,trivial⟩,by omega⟩
 ·have hii:L.take i=L:=Ak (by omega)
  rw[hii]
  ((conv=>whnf);repeat' ((first|refine odw ?_|refine nx ?_|refine AB (λ_=>?_) (λ_=>?_))<;>conv=>whnf))
  exact rfl
end Go.Proofs.YtjpmmkodoeipmaaGreatDoor
end
section
namespace Go.Gr
def idV(E:List Edg)(e:Edg):Int:=if e∈E then(Jk E e:Int)else-1
theorem WS:∀(E:List Edg) (e:Edg) (m:Nat),m<=E.length->(∀x∈E.take m,C2 x e<0)->(∀x∈E.drop m,¬C2 x e<0)->Jk E e=m:=by
 intro E e m hm h1 h2
 unfold Jk
 rw[<-BP m E,List.countP_append]
 have e1:(E.take m).countP (λx=>decide (C2 x e<0))=(E.take m).length:=List.countP_eq_length.2 λx hx=>by simp[h1 x hx]
 have e2:(E.drop m).countP (λx=>decide (C2 x e<0))=0:=List.countP_eq_zero.2 λx hx=>by have:=h2 x hx;simpa using this
 rw[e1,e2,A8];omega
theorem O2 {E:List Edg}(h:CC E) {i j:Nat} {x y:Edg}(hi:E[i]? =some x)(hj:E[j]? =some y)(hij:i<j):C2 x y<0:=by
 obtain⟨h1,rfl⟩:=Ae.1 hi
 obtain⟨h2,rfl⟩:=Ae.1 hj
 exact AM.1 h i j h1 h2 hij
theorem Ze {E:List Edg}(h:CC E) {m:Nat} {y e:Edg}(hm:E[m]? =some y)(he:C2 y e<0):∀x∈E.take (m+1),C2 x e<0:=by
 intro x hx
 obtain⟨i,hi,rfl⟩:=Bc.1 hx
 by_cases h2:i=m
 ·subst h2
  rw[Ab (by omega)]at hm
  rw[Cc hm];exact he
 ·exact GO (O2 h (Ab (by omega)) hm (by omega)) he
theorem RX {E:List Edg}(h:CC E) {m:Nat} {y e:Edg}(hm:E[m]? =some y)(he:¬C2 y e<0):∀x∈E.drop m,¬C2 x e<0:=by
 intro x hx hc
 obtain⟨i,hi,rfl⟩:=GP.1 hx
 by_cases h2:i=0
 ·subst h2
  rw[Ab (by omega)]at hm
  have:=Cc hm
  simp only[Eu]at hc
  rw[this]at hc;exact he hc
 ·exact he (GO (O2 h hm (Ab (by omega)) (by omega)) hc)
theorem ABL {E:List Edg}(h:CC E) {m:Nat} {e:Edg}(h1:E[m]? =some e):Jk E e=m:=by
 have hm:=(Ae.1 h1).1
 refine WS E e m (by omega) (λx hx=>?_) (RX h h1 (dQ e))
 obtain⟨i,hi,rfl⟩:=Bc.1 hx
 exact O2 h (Ab (by omega)) h1 (by omega)
theorem ADX(E:List Edg)(e:Edg):Jk E e<=E.length:=List.countP_le_length
theorem zA {E:List Edg}(h:CC E) {e:Edg}(he:e∈E):E[Jk E e]? =some e:=by
 obtain⟨m,hm⟩:=EV.1 he
 rw[ABL h hm];exact hm
theorem ABZ {E:List Edg} {e:Edg}(h:¬e∈E):idV E e=-1:=by rw[idV,if_neg h]
theorem AEc {E:List Edg} {e:Edg}:0<=idV E e↔e∈E:=by
 unfold idV
 split
 ·rename_i h;exact⟨λ_=>h,λ_=>by omega⟩
 ·rename_i h;exact⟨λh2=>by omega,λh2=>absurd h2 h⟩
end Go.Gr
namespace Go.Sx
theorem QM {e:Int} {K:Int->Prop}(h:0<=e/\e<=18446744073709551615)(hK:K e):∃n,IntKind.u64.wrap e=n/\K n:=⟨e,IntWalk.u64_in e h,hK⟩
theorem R5(m:Nat) {e:Int} {K:Int->Prop}(h:e=m)(hm:m<=9223372036854775807)(hK:K (m:Int)):∃n,IntKind.i64.wrap e=n/\K n:=by
 subst h;exact⟨_,QL ⟨by omega,by omega⟩,hK⟩
theorem Kx(x y:Nat):((x:Int)+(y:Int)).fdiv (2^1)=((x+y)/2:Nat):=by
 rw[show((2:Int)^1)=2 by decide,Int.fdiv_eq_ediv_of_nonneg _ (by omega)];omega
end Go.Sx
namespace Go.Proofs.YtjpmmkodoeipmaaGreatDoor
open Go.Sx Go.RowKit Go.Reg Go.Gr
set_option maxRecDepth 100000
def xR:List (Nat×Plan):=[(5,.leaf [0,0,0,0,1,1,3,0] [0,1,2,3,4,5,6,7] [0,0,0,6,14,0,63,127]),
 (8,.leaf [0,0,0,0,0,0,0,0,0,1,1,3,0,0,0,0] [0,1,2,3,4,5,6,7,8,9,10,11,12,13,14,15] [0,0,0,6,14,30,30,30,222,478,30,2046,4094,8190,4095,32767])]
theorem Ow(F:FuncId)(hF:∀x y:Edg,Pure C1 F [dE x,dE y] (λr=>r=.int .i64 (C2 x y)))(E:List Edg)(hE:CC E)(hl:E.length<=16384)(e:Edg):Pure C1 220 [ET E,dE e,.func (.func F) [] []] (λy=>y=.tuple [.int .i64 (Jk E e),.bool (decide (e∈E))]):=by
 have hlm:(E.map dE).length=E.length:=Ac _
 refine AU Tryz.func220 Tryz.ntmps220 [] xR ?_
 ((conv=>whnf);repeat' ((first|refine odw ?_|refine nx ?_|refine AB (λ_=>?_) (λ_=>?_))<;>conv=>whnf))
 refine AQ (ι:=Nat×Nat) (λx=>x.1<=x.2/\x.2<=E.length/\(∀z∈E.take x.1,C2 z e<0)/\∀z∈E.drop x.2,¬C2 z e<0)
  (λx=>[(10,.d (.int .i64 x.2)),(9,.d (.int .i64 x.1)),(8,.d (.int .i64 (E.map dE).length)),(4,.own 4),(2,.d (.func (.func F) [] [])),(0,.d (ET E))])
  (λ_=>[(4,.cells 90 (Dat.cellsOf (.d (dE e))))]) (λx=>x.2-x.1) (0,(E.map dE).length) (λ_=>rfl) ⟨Am _,by rw[hlm];exact Ay _,by simp,by rw[hlm];simp⟩ (.refl _ _) ⟨rfl,rfl,rfl,rfl,rfl,rfl,trivial⟩ ⟨rfl,trivial⟩ ?_
 rintro⟨lo,hi⟩ ⟨h1,h2,h3,h4⟩
 dsimp only at h1 h2 h3 h4
 refine Ca [] xR ?_
 by_cases hlt:lo<hi
 ·have hx:=Ab (l:=E) (i:=(lo+hi)/2) (by omega)
  generalize E[(lo+hi)/2]'(by omega)=z at hx
  have hxd:(E.map dE)[(lo+hi)/2]? =some (dE z):=by rw[Ad,hx];rfl
  by_cases hz:C2 z e<0
  ·(conv=>whnf)
   (repeat' ((first|refine Aj ?_ ?_|refine QM (by omega) ?_|refine nx ?_|refine AB (λ_=>?_) (λ_=>?_)|exact AE)<;>conv=>whnf))
   refine OJ 1 rfl rfl rfl (by decide) rfl rfl ?_
   (conv=>whnf)
   (repeat' ((first|refine Aj ?_ ?_|refine R5 ((lo+hi)/2) (Kx lo hi) (by omega) ?_|refine AO hxd rfl ?_|refine Af rfl (hF z e) ?_|refine nx ?_|refine AB (λ_=>?_) (λ_=>?_)|exact AE)<;>conv=>whnf))
   exact⟨((lo+hi)/2+1,hi),_,_,⟨by dsimp only;omega,h2,Ze hE hx hz,h4⟩,.refl _ _,⟨rfl,rfl,rfl,rfl,rfl,rfl,trivial⟩,⟨rfl,trivial⟩,by dsimp only;omega⟩
  ·(conv=>whnf)
   (repeat' ((first|refine Aj ?_ ?_|refine QM (by omega) ?_|refine nx ?_|refine AB (λ_=>?_) (λ_=>?_)|exact AE)<;>conv=>whnf))
   refine OJ 1 rfl rfl rfl (by decide) rfl rfl ?_
   (conv=>whnf)
   (repeat' ((first|refine Aj ?_ ?_|refine R5 ((lo+hi)/2) (Kx lo hi) (by omega) ?_|refine AO hxd rfl ?_|refine Af rfl (hF z e) ?_|refine nx ?_|refine AB (λ_=>?_) (λ_=>?_)|exact AE)<;>conv=>whnf))
   exact⟨(lo,(lo+hi)/2),_,_,⟨by dsimp only;omega,by dsimp only;omega,h3,RX hE hx hz⟩,.refl _ _,⟨rfl,rfl,rfl,rfl,rfl,rfl,trivial⟩,⟨rfl,trivial⟩,by dsimp only;omega⟩
 ·have hb:Jk E e=lo:=WS E e lo (by omega) h3 (by rw[show lo=hi by omega];exact h4)
  rw[hb]
  by_cases hln:lo<E.length
  ·have hx:=Ab hln
   generalize E[lo]=z at hx
   have hxd:(E.map dE)[lo]? =some (dE z):=by rw[Ad,hx];rfl
   have hm:e∈E↔C2 z e=0:=by
    rw[YB]
    refine⟨λh=>?_,λh=>h▸A6 hx⟩
    have:=zA hE h
    rw[hb,hx]at this
    exact Cc this
   by_cases hz:C2 z e=0
   ·rw[decide_eq_true (hm.2 hz)]
    (conv=>whnf)
    (repeat' ((first|refine Aj ?_ ?_|refine AO hxd rfl ?_|refine Af rfl (hF z e) ?_|refine nx ?_|refine AB (λ_=>?_) (λ_=>?_)|exact AE)<;>conv=>whnf))
    show Da.plain (.tuple [_,.prop _ _])=_
    simp[Da.plain,JL,hz]
   ·rw[decide_eq_false (λh=>hz (hm.1 h))]
    (conv=>whnf)
    (repeat' ((first|refine Aj ?_ ?_|refine AO hxd rfl ?_|refine Af rfl (hF z e) ?_|refine nx ?_|refine AB (λ_=>?_) (λ_=>?_)|exact AE)<;>conv=>whnf))
    show Da.plain (.tuple [_,.prop _ _])=_
    simp[Da.plain,JL,hz]
  ·have hm:¬e∈E:=λh=>by
    have:=zA hE h
    rw[hb,AI (by omega)]at this
    cases this
   rw[decide_eq_false hm]
   ((conv=>whnf);repeat' ((first|refine odw ?_|refine nx ?_|refine AB (λ_=>?_) (λ_=>?_))<;>conv=>whnf))
   exact rfl
theorem Q7(E:List Edg)(hE:CC E)(hl:E.length<=16384)(e:Edg):Pure C1 220 [ET E,dE e,.func (.func 92) [] []] (λy=>y=.tuple [.int .i64 (Jk E e),.bool (decide (e∈E))]):=Ow _ iH E hE hl e
def ADK:List (Nat×Plan):=[(3,.leaf [0,0,0,1,0,0,0,2,2,0,0,0,0,0] [0,1,2,4,5,6,3,7,8,9,10,11,12,13] [0,1,3,7,0,0,48,112,255,511,1023,1023,2047,8191])]
def AF2:List FuncId:=[90,220]
theorem ABY(G:Gr)(hG:G.Ok)(a b:Int):Pure C1 224 [dG G,.int .i64 a,.int .i64 b] (λy=>y=.int .i64 (idV G.edges (turn ⟨a,b⟩))):=by
 refine AU Tryz.func224 Tryz.ntmps224 AF2 ADK ?_
 have hc:Pure C1 90 [dE ⟨a,b⟩] (λy=>y=dE (turn ⟨a,b⟩)):=Ie ⟨a,b⟩
 by_cases h:turn ⟨a,b⟩∈G.edges
 ·have hb:=Q7 G.edges hG.sorted hG.esize (turn ⟨a,b⟩)
  rw[decide_eq_true h]at hb
  rw[show idV G.edges (turn ⟨a,b⟩)=Jk G.edges (turn ⟨a,b⟩)from if_pos h]
  (conv=>whnf)
  (repeat' ((first|refine Aj ?_ ?_|refine Af rfl hc ?_|refine Af rfl hb ?_|refine nx ?_|refine AB (λ_=>?_) (λ_=>?_)|exact AE)<;>conv=>whnf))
  exact rfl
 ·have hb:=Q7 G.edges hG.sorted hG.esize (turn ⟨a,b⟩)
  rw[decide_eq_false h]at hb
  rw[ABZ h]
  (conv=>whnf)
  (repeat' ((first|refine Aj ?_ ?_|refine Af rfl hc ?_|refine Af rfl hb ?_|refine nx ?_|refine AB (λ_=>?_) (λ_=>?_)|exact AE)<;>conv=>whnf))
  exact rfl
def AF3:List FuncId:=[224]
theorem Xc(G:Gr)(hG:G.Ok)(a b:Int):Pure C1 162 [dG G,.int .i64 a,.int .i64 b] (λy=>y=.bool (decide (turn ⟨a,b⟩∈G.edges))):=by
 refine AU Tryz.func162 Tryz.ntmps162 AF3 [] ?_
 (conv=>whnf)
 (repeat' ((first|refine Aj ?_ ?_|refine Af rfl (ABY G hG a b) ?_|refine nx ?_|refine AB (λ_=>?_) (λ_=>?_)|exact AE)<;>conv=>whnf))
 show Da.plain _=_
 simp[Da.plain,AEc]
end Go.Proofs.YtjpmmkodoeipmaaGreatDoor
end
section
namespace Go.Gr
def NQ:Option Nat->Int
 |some i=>i
 |none=>-1
def UR(l:List Int)(p:Int->Bool):Int:=NQ (l.findIdx? p)
theorem ABV {l:List Int} {p:Int->Bool} {i:Nat} {x:Int}(h:l[i]? =some x)(hx:p x=true)(hn:∀y∈l.take i,p y=false):UR l p=i:=by
 unfold UR
 have:l.findIdx? p=some i:=by
  rw[Ba]
  obtain⟨h1,h2⟩:=Ae.1 h
  refine⟨h1,by rw[h2];exact hx,λj hj=>?_⟩
  have:=hn l[j] (Bc.2 ⟨j,by omega,rfl⟩)
  simp[this]
 rw[this];rfl
theorem sG {l:List Int} {p:Int->Bool}(h:∀y∈l,p y=false):UR l p=-1:=by
 unfold UR
 have:l.findIdx? p=none:=by rw[Bd];exactλy hy=>by simp[h y hy]
 rw[this];rfl
theorem Ql(l:List Int)(p:Int->Bool):0<=UR l p↔l.any p=true:=by
 unfold UR
 cases h:l.findIdx? p with
 |
  none=>
  rw[Bd]at h
  simp only[NQ]
  refine⟨λh=>by omega,λh2=>?_⟩
  rw[Ct]at h2
  obtain⟨x,hx,hp⟩:=h2
  have:=h x hx
  simp[hp]at this
 |
  some i=>
  rw[Ba]at h
  obtain⟨h1,h2,_⟩:=h
  simp only[NQ]
  exact⟨λ_=>Ct.2 ⟨_,AZ h1,h2⟩,λ_=>by omega⟩
end Go.Gr
namespace Go.Sx
theorem ACA(xs:List Da):EU (Cr xs)=some xs:=by
 induction xs with
 |nil=>rfl
 |cons x xs ih=>simp[Cr,EU,ih]
theorem FR(x:Da)(xs:List Da):EU (.d x::Cr xs)=some (x::xs):=by simp[EU,ACA]
end Go.Sx
namespace Go.Proofs.YtjpmmkodoeipmaaGreatDoor
open Go.Sx Go.RowKit Go.Reg Go.Gr
set_option maxRecDepth 100000
theorem JA(l:List Int)(g:FuncId)(cs:List Da)(p:Int->Bool)(hp:∀x∈l,Pure C1 g (.int .i64 x::cs) (λy=>y=.bool (p x))):Pure C1 149 [Bh l,.func (.func g) [] cs] (λy=>y=.int .i64 (UR l p)):=by
 refine Pure.len1 λhm=>?_
 have hl:(l.map dI).length=l.length:=Ac _
 refine AU Tryz.func149 Tryz.ntmps149 [] [] ?_
 ((conv=>whnf);repeat' ((first|refine odw ?_|refine nx ?_|refine AB (λ_=>?_) (λ_=>?_))<;>conv=>whnf))
 refine AQ (ι:=Nat) (λi=>i<=l.length/\∀y∈l.take i,p y=false) (λi=>[(8,.d (.int .i64 i)),(7,.d (.int .i64 (l.map dI).length)),(1,.d (.func (.func g) [] cs)),(0,.d (Bh l))]) (λ_=>[]) (λi=>l.length-i) 0 (λ_=>rfl) ⟨Am _,by simp⟩ (.refl _ _) ⟨rfl,rfl,rfl,rfl,trivial⟩ trivial ?_
 rintro i ⟨hi,hne⟩
 refine Ca [] [] ?_
 by_cases hlt:i<l.length
 ·have hx:=Ab hlt
  generalize l[i]=y at hx
  have hxd:(l.map dI)[i]? =some (.int .i64 y):=by rw[Ad,hx];rfl
  have hpy:=hp y (A6 hx)
  cases hy:p y with
  |
   true=>
   rw[hy]at hpy
   rw[ABV hx hy hne]
   (conv=>whnf)
   (repeat' ((first|refine Aj ?_ ?_|refine AO hxd rfl ?_|refine Af (FR _ _) hpy ?_|refine nx ?_|refine AB (λ_=>?_) (λ_=>?_)|exact AE)<;>conv=>whnf))
   exact rfl
  |
   false=>
   rw[hy]at hpy
   (conv=>whnf)
   (repeat' ((first|refine Aj ?_ ?_|refine AO hxd rfl ?_|refine Af (FR _ _) hpy ?_|refine nx ?_|refine AB (λ_=>?_) (λ_=>?_)|exact AE)<;>conv=>whnf))
   refine⟨i+1,_,_,⟨hlt,?_⟩,.refl _ _,⟨rfl,rfl,rfl,rfl,trivial⟩,trivial,by omega⟩
   intro z hz
   rw[Au,hx]at hz
   rcases Ag.1 hz with hz|hz
   ·exact hne z hz
   ·simp at hz;subst hz;exact hy
 ·have hii:l.take i=l:=Ak (by omega)
  rw[hii]at hne
  rw[sG hne]
  ((conv=>whnf);repeat' ((first|refine odw ?_|refine nx ?_|refine AB (λ_=>?_) (λ_=>?_))<;>conv=>whnf))
  exact rfl
theorem VT(G:Gr)(v:Int):Pure C1 150 [dG G,.int .i64 v] (λy=>y=.bool (Gc G v)):=by
 refine AU Tryz.func150 Tryz.ntmps150 [] [] ?_
 by_cases h0:0<=v
 ·(conv=>whnf)
  (repeat' ((first|refine Aj ?_ ?_|refine Af rfl (Ks G) ?_|refine nx ?_|refine AB (λ_=>?_) (λ_=>?_)|exact AE)<;>conv=>whnf))
  show Da.plain _=_
  simp[Da.plain,Gc,h0]
 ·have:Gc G v=false:=by simp[Gc,h0]
  rw[this]
  ((conv=>whnf);repeat' ((first|refine odw ?_|refine nx ?_|refine AB (λ_=>?_) (λ_=>?_))<;>conv=>whnf))
  exact rfl
def AEs:List FuncId:=[162]
def I2(E:List Edg)(v:Int)(u:Int):Bool:=decide (turn ⟨u,v⟩∈E)
theorem uB(G:Gr)(hG:G.Ok)(v u:Int):Pure C1 216 [.int .i64 u,.ref (dG G),.ref (.int .i64 v)] (λy=>y=.bool (I2 G.edges v u)):=by
 refine AU Tryz.func216 Tryz.ntmps216 AEs [] ?_
 (conv=>whnf)
 (repeat' ((first|refine Aj ?_ ?_|refine Af rfl (Xc G hG u v) ?_|refine nx ?_|refine AB (λ_=>?_) (λ_=>?_)|exact AE)<;>conv=>whnf))
 exact rfl
def AFc:List FuncId:=[149]
def eA(E:List Edg)(l:List Int)(v:Int):Int:=UR l (I2 E v)
theorem dZ(G:Gr)(hG:G.Ok)(l:List Int)(v:Int):Pure C1 151 [dG G,Bh l,.int .i64 v] (λy=>y=.int .i64 (eA G.edges l v)):=by
 refine AU Tryz.func151 Tryz.ntmps151 AFc [] ?_
 (conv=>whnf)
 (repeat' ((first|refine Aj ?_ ?_|refine Bq tab rfl (JA l _ [.ref (dG G),.ref (.int .i64 v)] _ (λu _=>uB G hG v u)) rfl ?_|refine nx ?_|refine AB (λ_=>?_) (λ_=>?_)|exact AE)<;>conv=>whnf))
 exact rfl
end Go.Proofs.YtjpmmkodoeipmaaGreatDoor
namespace Go.Proofs.YtjpmmkodoeipmaaGreatDoor
open Go.Sx Go.RowKit Go.Reg Go.Gr
set_option maxRecDepth 100000
def DR(G:Gr)(l:List Int)(i:Nat)(v:Int):Bool:=Gc G v&&(!decide (v∈l.take i)&&(decide (i=0)||(l.take i).any (I2 G.edges v)))
def C9(G:Gr)(l:List Int):Bool:=(List.range l.length).all λi=>match l[i]? with
 |some v=>DR G l i v
 |none=>true
theorem Ga {G:Gr} {l:List Int} {i:Nat} {v:Int}(h:l[i]? =some v)(h2:DR G l i v=false):C9 G l=false:=by
 unfold C9
 rw[List.all_eq_false]
 exact⟨i,by simp[(Ae.1 h).1],by simp[h,h2]⟩
theorem Mz {G:Gr} {l:List Int}(h:∀(i:Nat) (v:Int),l[i]? =some v->DR G l i v=true):C9 G l=true:=by
 unfold C9
 rw[Dn]
 intro i _
 cases hx:l[i]? with
 |none=>rfl
 |some v=>exact h i v hx
theorem Ku {len i:Nat} {n:Int} {K:Nat->Prop}(hn:n=i)(hi:i<=len)(hK:K i):∃m:Nat,n=m/\m<=len/\K m:=⟨i,hn,hi,hK⟩
theorem Q1(l:List Int)(i:Nat):Bh (l.take i)=.list 1 ((l.map dI).take i):=by unfold Bh;rw[Fj]
def ADd:List FuncId:=[150,152,151]
theorem aV(G:Gr)(hG:G.Ok)(l:List Int):Pure C1 161 [dG G,Bh l] (λy=>y=.bool (C9 G l)):=by
 refine Pure.assume (λO w us hr=>by obtain⟨v,vs,rfl,h1,h2⟩:=Cg hr;obtain⟨v2,vs2,rfl,h3,_⟩:=Cg h2;exact M4 h3) λhm=>?_
 have hl:(l.map dI).length=l.length:=Ac _
 refine AU Tryz.func161 Tryz.ntmps161 ADd [] ?_
 ((conv=>whnf);repeat' ((first|refine odw ?_|refine nx ?_|refine AB (λ_=>?_) (λ_=>?_))<;>conv=>whnf))
 refine AQ (ι:=Nat) (λi=>i<=l.length/\∀(j:Nat) (v:Int),j<i->l[j]? =some v->DR G l j v=true) (λi=>[(9,.d (.int .i64 i)),(8,.d (.int .i64 (l.map dI).length)),(7,.d (Bh l)),(1,.d (Bh l)),(0,.d (dG G))]) (λ_=>[]) (λi=>l.length-i) 0 (λ_=>rfl) ⟨Am _,by intro j v h;omega⟩ (.refl _ _) ⟨rfl,rfl,rfl,rfl,rfl,trivial⟩ trivial ?_
 rintro i ⟨hi,hne⟩
 refine Ca ADd [] ?_
 by_cases hlt:i<l.length
 ·have hx:=Ab hlt
  generalize l[i]=y at hx
  have hxd:(l.map dI)[i]? =some (.int .i64 y):=by rw[Ad,hx];rfl
  have h1:=VT G y
  have h2:=Ib (l.take i) y
  have h3:=dZ G hG (l.take i) y
  rw[Q1]at h2 h3
  have hi2:i<=(l.map dI).length:=by omega
  cases hv:Gc G y with
  |
   false=>
   rw[hv]at h1
   rw[Ga hx (by simp[DR,hv])]
   (conv=>whnf)
   (repeat' ((first|refine Aj ?_ ?_|refine AO hxd rfl ?_|refine Af rfl h1 ?_|refine nx ?_|refine AB (λ_=>?_) (λ_=>?_)|exact AE)<;>conv=>whnf))
   exact rfl
  |
   true=>
   rw[hv]at h1
   by_cases hc:y∈l.take i
   ·rw[decide_eq_true hc]at h2
    rw[Ga hx (by simp[DR,hc])]
    (conv=>whnf)
    (repeat' ((first|refine Aj ?_ ?_|refine AO hxd rfl ?_|refine Af rfl h1 ?_|refine Ku rfl hi2 ?_|refine Af rfl h2 ?_|refine nx ?_|refine AB (λ_=>?_) (λ_=>?_)|exact AE)<;>conv=>whnf))
    exact rfl
   ·rw[decide_eq_false hc]at h2
    by_cases h0:i=0
    ·have hyes:DR G l i y=true:=by simp[DR,hv,h0]
     (conv=>whnf)
     (repeat' ((first|refine Aj ?_ ?_|refine AO hxd rfl ?_|refine Af rfl h1 ?_|refine Ku rfl hi2 ?_|refine Af rfl h2 ?_|refine nx ?_|refine AB (λ_=>?_) (λ_=>?_)|exact AE)<;>conv=>whnf))
     refine⟨i+1,_,_,⟨hlt,?_⟩,.refl _ _,⟨rfl,rfl,rfl,rfl,rfl,trivial⟩,trivial,by omega⟩
     intro j v hj hjv
     by_cases hji:j=i
     ·subst hji;rw[hx]at hjv;cases hjv;exact hyes
     ·exact hne j v (by omega) hjv
    ·by_cases hb:(l.take i).any (I2 G.edges y)=true
     ·have hyes:DR G l i y=true:=by simp only[DR,hv,hb,decide_eq_false hc];simp
      have hbn:¬eA G.edges (l.take i) y<0:=by have:=(Ql (l.take i) (I2 G.edges y)).2 hb;unfold eA;omega
      (conv=>whnf)
      (repeat' ((first|refine Aj ?_ ?_|refine AO hxd rfl ?_|refine Af rfl h1 ?_|refine Ku rfl hi2 ?_|refine Af rfl h2 ?_|refine Af rfl h3 ?_|refine nx ?_|refine AB (λ_=>?_) (λ_=>?_)|exact AE)<;>conv=>whnf))
      refine⟨i+1,_,_,⟨hlt,?_⟩,.refl _ _,⟨rfl,rfl,rfl,rfl,rfl,trivial⟩,trivial,by omega⟩
      intro j v hj hjv
      by_cases hji:j=i
      ·subst hji;rw[hx]at hjv;cases hjv;exact hyes
      ·exact hne j v (by omega) hjv
     ·have hno:DR G l i y=false:=by simp only[DR,hv,Pq.2 hb,decide_eq_false h0];simp
      rw[Ga hx hno]
      have hbn:eA G.edges (l.take i) y<0:=by
                                                     have:¬0<=UR (l.take i) (I2 G.edges y):=λh=>hb ((Ql _ _).1 h)
                                                     unfold eA;omega
      (conv=>whnf)
      (repeat' ((first|refine Aj ?_ ?_|refine AO hxd rfl ?_|refine Af rfl h1 ?_|refine Ku rfl hi2 ?_|refine Af rfl h2 ?_|refine Af rfl h3 ?_|refine nx ?_|refine AB (λ_=>?_) (λ_=>?_)|exact AE)<;>conv=>whnf))
      exact rfl
 ·rw[Mz (λj v h=>hne j v (by have:=(Ae.1 h).1;omega) h)]
  ((conv=>whnf);repeat' ((first|refine odw ?_|refine nx ?_|refine AB (λ_=>?_) (λ_=>?_))<;>conv=>whnf))
  exact rfl
end Go.Proofs.YtjpmmkodoeipmaaGreatDoor
end
section
namespace Go.Gr
theorem Ul {l:List Int}(h:l.Pairwise (· < ·)) {i j:Nat} {x y:Int}(hi:l[i]? =some x)(hj:l[j]? =some y)(hij:i<j):x<y:=by
 obtain⟨h1,rfl⟩:=Ae.1 hi
 obtain⟨h2,rfl⟩:=Ae.1 hj
 exact AM.1 h i j h1 h2 hij
theorem Wp {l:List Int}(h:l.Pairwise (· < ·)) {m:Nat} {y e:Int}(hm:l[m]? =some y)(he:y<e):∀x∈l.take (m+1),x<e:=by
 intro x hx
 obtain⟨i,hi,rfl⟩:=Bc.1 hx
 by_cases h2:i=m
 ·subst h2
  rw[Ab (by omega)]at hm
  rw[Cc hm];exact he
 ·have:=Ul h (Ab (by omega)) hm (show i<m by omega)
  omega
theorem Wq {l:List Int}(h:l.Pairwise (· < ·)) {m:Nat} {y e:Int}(hm:l[m]? =some y)(he:¬y<e):∀x∈l.drop m,¬x<e:=by
 intro x hx hc
 obtain⟨i,hi,rfl⟩:=GP.1 hx
 by_cases h2:i=0
 ·subst h2
  rw[Ab (by omega)]at hm
  have:=Cc hm
  simp only[Eu]at hc
  rw[this]at hc;exact he hc
 ·have:=Ul h hm (Ab (i:=m+i) (by omega)) (by omega)
  omega
theorem Z6 {l:List Int}(h:l.Pairwise (· < ·)) {m:Nat} {e:Int}(h1:∀x∈l.take m,x<e)(h2:∀x∈l.drop m,¬x<e):e∈l↔l[m]? =some e:=by
 refine⟨λhe=>?_,λh=>A6 h⟩
 obtain⟨i,hi⟩:=EV.1 he
 have hil:=(Ae.1 hi).1
 have hie:=(Ae.1 hi).2
 by_cases h3:i<m
 ·have:=h1 e (hie▸Bc.2 ⟨i,by omega,rfl⟩);omega
 ·by_cases h4:i=m
  ·subst h4;exact hi
  ·have hm:=Ab (l:=l) (i:=m) (by omega)
   have h5:=Ul h hm hi (by omega)
   have:=h2 _ (GP.2 ⟨0,by omega,rfl⟩)
   simp only[Eu]at this
   omega
end Go.Gr
namespace Go.Proofs.YtjpmmkodoeipmaaGreatDoor
open Go.Sx Go.RowKit Go.Reg Go.Gr
set_option maxRecDepth 100000
theorem WX(a b:Int):Pure C1 241 [.int .i64 a,.int .i64 b] (λy=>y=.bool (decide (a<b))):=by
 refine AU Tryz.func241 Tryz.ntmps241 [] [] ?_
 (conv=>whnf)
 (repeat' ((first|refine Aj ?_ ?_|refine Af rfl (PX a) ?_|refine Af rfl (PX b) ?_|refine nx ?_|refine AB (λ_=>?_) (λ_=>?_)|exact AE)<;>conv=>whnf))
 exact rfl
theorem Wh(a:Int):Pure C1 280 [.int .i64 a] (λy=>y=.bool false):=by
 refine AU Tryz.func280 Tryz.ntmps280 [] [] ?_
 ((conv=>whnf);repeat' ((first|refine odw ?_|refine nx ?_|refine AB (λ_=>?_) (λ_=>?_))<;>conv=>whnf))
 show Da.plain (.prop _ _)=_
 simp[Da.plain]
theorem AA1(l:List Int)(hr:l.Pairwise (· < ·))(hl:l.length<=4294967296)(e:Int):Pure C1 252 [Bh l,.int .i64 e] (λy=>∃m:Nat,y=.tuple [.int .i64 m,.bool (decide (e∈l))]):=by
 have hlm:(l.map dI).length=l.length:=Ac _
 refine AU Tryz.func252 Tryz.ntmps252 [] [] ?_
 ((conv=>whnf);repeat' ((first|refine odw ?_|refine nx ?_|refine AB (λ_=>?_) (λ_=>?_))<;>conv=>whnf))
 refine AQ (ι:=Nat×Nat) (λx=>x.1<=x.2/\x.2<=l.length/\(∀z∈l.take x.1,z<e)/\∀z∈l.drop x.2,¬z<e)
  (λx=>[(8,.d (.int .i64 x.2)),(7,.d (.int .i64 x.1)),(6,.d (.int .i64 (l.map dI).length)),(1,.d (.int .i64 e)),(0,.d (Bh l))])
  (λ_=>[]) (λx=>x.2-x.1) (0,(l.map dI).length) (λ_=>rfl) ⟨Am _,by rw[hlm];exact Ay _,by simp,by rw[hlm];simp⟩ (.refl _ _) ⟨rfl,rfl,rfl,rfl,rfl,trivial⟩ trivial ?_
 rintro⟨lo,hi⟩ ⟨h1,h2,h3,h4⟩
 dsimp only at h1 h2 h3 h4
 refine Ca [] [] ?_
 by_cases hlt:lo<hi
 ·have hx:=Ab (l:=l) (i:=(lo+hi)/2) (by omega)
  generalize l[(lo+hi)/2]'(by omega)=z at hx
  have hxd:(l.map dI)[(lo+hi)/2]? =some (.int .i64 z):=by rw[Ad,hx];rfl
  have hle:=WX z e
  by_cases hz:z<e
  ·rw[decide_eq_true hz]at hle
   (conv=>whnf)
   (repeat' ((first|refine Aj ?_ ?_|refine QM (by omega) ?_|refine nx ?_|refine AB (λ_=>?_) (λ_=>?_)|exact AE)<;>conv=>whnf))
   refine OJ 1 rfl rfl rfl (by decide) rfl rfl ?_
   (conv=>whnf)
   (repeat' ((first|refine Aj ?_ ?_|refine R5 ((lo+hi)/2) (Kx lo hi) (by omega) ?_|refine AO hxd rfl ?_|refine Af rfl hle ?_|refine nx ?_|refine AB (λ_=>?_) (λ_=>?_)|exact AE)<;>conv=>whnf))
   exact⟨((lo+hi)/2+1,hi),_,_,⟨by dsimp only;omega,h2,Wp hr hx hz,h4⟩,.refl _ _,⟨rfl,rfl,rfl,rfl,rfl,trivial⟩,trivial,by dsimp only;omega⟩
  ·rw[decide_eq_false hz]at hle
   (conv=>whnf)
   (repeat' ((first|refine Aj ?_ ?_|refine QM (by omega) ?_|refine nx ?_|refine AB (λ_=>?_) (λ_=>?_)|exact AE)<;>conv=>whnf))
   refine OJ 1 rfl rfl rfl (by decide) rfl rfl ?_
   (conv=>whnf)
   (repeat' ((first|refine Aj ?_ ?_|refine R5 ((lo+hi)/2) (Kx lo hi) (by omega) ?_|refine AO hxd rfl ?_|refine Af rfl hle ?_|refine nx ?_|refine AB (λ_=>?_) (λ_=>?_)|exact AE)<;>conv=>whnf))
   exact⟨(lo,(lo+hi)/2),_,_,⟨by dsimp only;omega,by dsimp only;omega,h3,Wq hr hx hz⟩,.refl _ _,⟨rfl,rfl,rfl,rfl,rfl,trivial⟩,trivial,by dsimp only;omega⟩
 ·have hm:=Z6 hr h3 (by rw[show lo=hi by omega];exact h4)
  by_cases hln:lo<l.length
  ·have hx:=Ab hln
   generalize l[lo]=z at hx
   have hxd:(l.map dI)[lo]? =some (.int .i64 z):=by rw[Ad,hx];rfl
   have hnz:=Wh z
   by_cases hz:z=e
   ·rw[decide_eq_true (hm.2 (by rw[hx,hz]))]
    (conv=>whnf)
    (repeat' ((first|refine Aj ?_ ?_|refine AO hxd rfl ?_|refine Af rfl hnz ?_|refine nx ?_|refine AB (λ_=>?_) (λ_=>?_)|exact AE)<;>conv=>whnf))
    exact⟨lo,rfl⟩
   ·rw[decide_eq_false (λh=>hz (by have:=hm.1 h;rw[hx]at this;exact Cc this))]
    (conv=>whnf)
    (repeat' ((first|refine Aj ?_ ?_|refine AO hxd rfl ?_|refine Af rfl hnz ?_|refine nx ?_|refine AB (λ_=>?_) (λ_=>?_)|exact AE)<;>conv=>whnf))
    exact⟨lo,rfl⟩
  ·rw[decide_eq_false (λh=>by have:=hm.1 h;rw[AI (by omega)]at this;cases this)]
   ((conv=>whnf);repeat' ((first|refine odw ?_|refine nx ?_|refine AB (λ_=>?_) (λ_=>?_))<;>conv=>whnf))
   exact⟨lo,rfl⟩
theorem pN(l:List Int)(hr:l.Pairwise (· < ·))(hl:l.length<=4294967296)(e:Int):Pure C1 213 [Bh l,.int .i64 e] (λy=>y=.bool (decide (e∈l))):=by
 refine AU Tryz.func213 Tryz.ntmps213 [] [] ?_
 ((conv=>whnf);repeat' ((first|refine odw ?_|refine nx ?_|refine AB (λ_=>?_) (λ_=>?_))<;>conv=>whnf))
 refine AR rfl (AA1 l hr hl e) ?_;rintro y ⟨m,rfl⟩
 ((conv=>whnf);repeat' ((first|refine odw ?_|refine nx ?_|refine AB (λ_=>?_) (λ_=>?_))<;>conv=>whnf))
 exact rfl
def AFd:List FuncId:=[149]
theorem Jo(l:List Int)(g:FuncId)(cs:List Da)(p:Int->Bool)(hp:∀x∈l,Pure C1 g (.int .i64 x::cs) (λy=>y=.bool (p x))):Pure C1 153 [Bh l,.func (.func g) [] cs] (λy=>y=.bool (l.any p)):=by
 refine AU Tryz.func153 Tryz.ntmps153 AFd [] ?_
 (conv=>whnf)
 (repeat' ((first|refine Aj ?_ ?_|refine Af rfl (JA l g cs p hp) ?_|refine nx ?_|refine AB (λ_=>?_) (λ_=>?_)|exact AE)<;>conv=>whnf))
 show Da.plain _=_
 have:=Ql l p
 cases h:l.any p<;>simp[Da.plain,this,h]
theorem sA(l:List Int)(g:FuncId)(cs:List Da)(p:Int->Bool)(hl:l.length<=4294967296)(hp:∀x∈l,Pure C1 g (.int .i64 x::cs) (λy=>y=.bool (p x))):E5 C1 211 [Bh l,.func (.func g) [] cs] 3 1 (λds=>ds=(l.filter p).map dI):=by
 have hll:(l.map dI).length=l.length:=Ac _
 refine WN Tryz.func211 Tryz.ntmps211 [] [] ?_
 ((conv=>whnf);repeat' ((first|refine odw ?_|refine nx ?_|refine AB (λ_=>?_) (λ_=>?_))<;>conv=>whnf))
 refine AQ (ι:=Nat) (λi=>i<=l.length) (λi=>[(10,.d (.int .i64 i)),(9,.d (.int .i64 (l.map dI).length)),(8,.d (Bh l)),(5,.own 300),(1,.d (.func (.func g) [] cs))]) (λi=>[(300,.slice 3 1 (((l.take i).filter p).map dI))])
  (λi=>l.length-i) 0 (λ_=>rfl) (Am _) (.own 5 300 3 1 rfl rfl (.refl _ _)) ⟨rfl,rfl,rfl,rfl,rfl,trivial⟩ ⟨rfl,trivial⟩ ?_
 intro i hi
 refine Ca [] [] ?_
 by_cases hlt:i<l.length
 ·have hx:=Ab hlt
  have hpx:=hp _ (AZ hlt)
  generalize l[i]=x at hx hpx
  have hxd:(l.map dI)[i]? =some (.int .i64 x):=by rw[Ad,hx];rfl
  have hfl:((l.take i).filter p).length<=i:=by
   have:=CM p (l.take i)
   rw[A8]at this;omega
  cases hy:p x with
  |
   true=>
   rw[hy]at hpx
   have hfin:((l.take i).filter p).map dI++[.int .i64 x]=((l.take (i+1)).filter p).map dI:=by
    rw[Au,hx,AS,Cd,A7]
    simp[hy,dI]
   (conv=>whnf)
   (repeat' ((first|refine Aj ?_ ?_|refine AO hxd rfl ?_|refine Af (FR _ _) hpx ?_|refine nx ?_|refine AB (λ_=>?_) (λ_=>?_)|exact AE)<;>conv=>whnf))
   exact⟨i+1,_,_,hlt,.refl _ _,⟨rfl,rfl,rfl,rfl,rfl,trivial⟩,⟨Bj hfin,trivial⟩,by omega⟩
  |
   false=>
   rw[hy]at hpx
   have hfin:((l.take i).filter p).map dI=((l.take (i+1)).filter p).map dI:=by
    rw[Au,hx,AS,Cd]
    simp[hy]
   (conv=>whnf)
   (repeat' ((first|refine Aj ?_ ?_|refine AO hxd rfl ?_|refine Af (FR _ _) hpx ?_|refine nx ?_|refine AB (λ_=>?_) (λ_=>?_)|exact AE)<;>conv=>whnf))
   exact⟨i+1,_,_,hlt,.refl _ _,⟨rfl,rfl,rfl,rfl,rfl,trivial⟩,⟨Bj hfin,trivial⟩,by omega⟩
 ·have hii:l.take i=l:=Ak (by omega)
  rw[hii]
  ((conv=>whnf);repeat' ((first|refine odw ?_|refine nx ?_|refine AB (λ_=>?_) (λ_=>?_))<;>conv=>whnf))
  exact⟨rfl,rfl,rfl⟩
def ACI:List FuncId:=[213]
theorem uA(b:List Int)(hr:b.Pairwise (· < ·))(hl:b.length<=4294967296)(x:Int):Pure C1 212 [.int .i64 x,.ref (Bh b)] (λy=>y=.bool (!decide (x∈b))):=by
 refine AU Tryz.func212 Tryz.ntmps212 ACI [] ?_
 (conv=>whnf)
 (repeat' ((first|refine Aj ?_ ?_|refine Af rfl (pN b hr hl x) ?_|refine nx ?_|refine AB (λ_=>?_) (λ_=>?_)|exact AE)<;>conv=>whnf))
 exact rfl
end Go.Proofs.YtjpmmkodoeipmaaGreatDoor
end
