/- Merged: Grh Grk Srp Lna Rfa Lnb Lnc Lnf Grs Vla Vsb. -/
import Derived.Test.YtjpmmkodoeipmaaGreatDoorrkat
import Derived.Test.YtjpmmkodoeipmaaGreatDoorrkaq
import Derived.Test.YtjpmmkodoeipmaaGreatDoorrkan
import Derived.Test.YtjpmmkodoeipmaaGreatDoorrkas
section
namespace Go.Gr
theorem kJ(f:Nat->List Int)(D:Nat->Nat)(hD:∀v,(f v).length=D v) {n v:Nat}(h:v<n):∃pre post,(List.range n).flatMap f=pre++(f v++post)/\pre.length=off D v:=by
 have key:∀n,((List.range n).flatMap f).length=off D n:=by
  intro n
  induction n with
  |zero=>rfl
  |succ n ih=>rw[D1,CO,Ah,ih];simp[off,hD]
 induction n with
 |zero=>omega
 |
  succ n ih=>
  rw[D1,CO]
  by_cases hv:v<n
  ·obtain⟨pre,post,e,hl⟩:=ih hv
   exact⟨pre,post++[n].flatMap f,by rw[e];simp,hl⟩
  ·have:v=n:=by omega
   subst this
   exact⟨(List.range v).flatMap f,[],by simp,key v⟩
theorem cG(f:Nat->List Int)(D:Nat->Nat)(hD:∀v,(f v).length=D v) {n v:Nat}(h:v<n):(((List.range n).flatMap f).take (off D (v+1))).drop (off D v)=f v:=by
 obtain⟨pre,post,e,hl⟩:=kJ f D hD h
 rw[e,<-Bj]
 have h1:off D (v+1)=(pre++f v).length:=by simp[off,hl,hD]
 rw[h1,List.take_left,<-hl,List.drop_left]
theorem aD(f:Nat->List Int)(D:Nat->Nat)(hD:∀v,(f v).length=D v)(n:Nat):((List.range n).flatMap f).length=off D n:=by
 induction n with
 |zero=>rfl
 |succ n ih=>rw[D1,CO,Ah,ih];simp[off,hD]
end Go.Gr
namespace Go.Proofs.YtjpmmkodoeipmaaGreatDoor
open Go.Sx Go.RowKit Go.Reg Go.Gr
set_option maxRecDepth 100000
theorem Kz(G:Gr):Pure C1 101 [dG G] (λy=>y=.int .i64 G.labels.length):=by
 have hl:(G.labels.map dI).length=G.labels.length:=Ac _
 refine AW Tryz.func101 Tryz.ntmps101 [] [] ?_
 ((conv=>whnf);repeat' ((first|refine odw ?_|refine nx ?_|refine AD (λ_=>?_) (λ_=>?_))<;>conv=>whnf))
 show Da.int .i64 _=_
 rw[hl]
theorem QT(G:Gr):Pure C1 103 [dG G] (λy=>y=.int .i64 G.edges.length):=by
 have hl:(G.edges.map dE).length=G.edges.length:=Ac _
 refine AW Tryz.func103 Tryz.ntmps103 [] [] ?_
 ((conv=>whnf);repeat' ((first|refine odw ?_|refine nx ?_|refine AD (λ_=>?_) (λ_=>?_))<;>conv=>whnf))
 show Da.int .i64 _=_
 rw[hl]
def Gg(G:Gr)(v:Int):Bool:=decide (0<=v/\v<G.labels.length)
theorem K6(G:Gr)(v:Int):Pure C1 148 [dG G,.int .i64 v] (λy=>y=.bool (Gg G v)):=by
 refine AW Tryz.func148 Tryz.ntmps148 [] [] ?_
 by_cases h0:0<=v
 ·((conv=>whnf);repeat' ((first|refine odw ?_|refine nx ?_|refine AD (λ_=>?_) (λ_=>?_))<;>conv=>whnf))
  refine AS rfl (Kz G) ?_;rintro y rfl
  by_cases h1:v<G.labels.length
  ·have:Gg G v=true:=by simp[Gg,h0,h1]
   rw[this]
   ((conv=>whnf);repeat' ((first|refine odw ?_|refine nx ?_|refine AD (λ_=>?_) (λ_=>?_))<;>conv=>whnf))
   show Da.plain _=_
   simp[Da.plain,h1]
  ·have:Gg G v=false:=by simp[Gg,h1]
   rw[this]
   ((conv=>whnf);repeat' ((first|refine odw ?_|refine nx ?_|refine AD (λ_=>?_) (λ_=>?_))<;>conv=>whnf))
   show Da.plain _=_
   simp[Da.plain,h1]
 ·have:Gg G v=false:=by simp[Gg,h0]
  rw[this]
  ((conv=>whnf);repeat' ((first|refine odw ?_|refine nx ?_|refine AD (λ_=>?_) (λ_=>?_))<;>conv=>whnf))
  exact rfl
theorem Qk {G:Gr} {v:Int}(h:0<=v)(h2:v<G.labels.length):Gg G v=true:=by simp[Gg,h,h2]
theorem Yx {G:Gr} {v:Int}(h:¬(0<=v/\v<G.labels.length)):Gg G v=false:=by simp only[Gg,decide_eq_false_iff_not];exact h
def ES(G:Gr)(v:Int):Int:=if 0<=v/\v<G.labels.length then(G.labels[v.toNat]?).getD 0 else-1
theorem jO(G:Gr)(v:Int):Pure C1 223 [dG G,.int .i64 v] (λy=>y=.int .i64 (ES G v)):=by
 refine AW Tryz.func223 Tryz.ntmps223 [] [] ?_
 by_cases h:0<=v/\v<G.labels.length
 ·obtain⟨m,rfl⟩:=A6 h.1
  have hm:m<G.labels.length:=by omega
  have hx:=Ab hm
  have e:ES G (m:Int)=G.labels[m]:=by unfold ES;rw[if_pos h,AY,hx];rfl
  rw[e]
  generalize G.labels[m]=x at hx
  have hxd:(G.labels.map dI)[m]? =some (.int .i64 x):=by rw[Ad,hx];rfl
  ((conv=>whnf);repeat' ((first|refine odw ?_|refine nx ?_|refine AD (λ_=>?_) (λ_=>?_))<;>conv=>whnf))
  refine AS rfl (K6 G m) ?_;rintro y rfl
  rw[Qk h.1 h.2]
  (repeat' ((first|refine Aj ?_ ?_|refine AP hxd rfl ?_|refine nx ?_|refine AD (λ_=>?_) (λ_=>?_)|exact AG)<;>conv=>whnf))
  exact rfl
 ·have e:ES G v=-1:=by unfold ES;rw[if_neg h]
  rw[e]
  ((conv=>whnf);repeat' ((first|refine odw ?_|refine nx ?_|refine AD (λ_=>?_) (λ_=>?_))<;>conv=>whnf))
  refine AS rfl (K6 G v) ?_;rintro y rfl
  rw[Yx h]
  ((conv=>whnf);repeat' ((first|refine odw ?_|refine nx ?_|refine AD (λ_=>?_) (λ_=>?_))<;>conv=>whnf))
  exact rfl
def Fk(E:List Edg)(id:Int):Da:=if 0<=id/\id<E.length then .tuple [dE ((E[id.toNat]?).getD ⟨0,0⟩),.bool true]else .tuple [dE ⟨0,0⟩,.bool false]
theorem KF(G:Gr)(id:Int):Pure C1 217 [dG G,.int .i64 id] (λy=>y=Fk G.edges id):=by
 refine AW Tryz.func217 Tryz.ntmps217 [] [] ?_
 by_cases h0:0<=id
 ·by_cases h1:id<G.edges.length
  ·obtain⟨m,rfl⟩:=A6 h0
   have hm:m<G.edges.length:=by omega
   have hx:=Ab hm
   have e:Fk G.edges (m:Int)=.tuple [dE G.edges[m],.bool true]:=by unfold Fk;rw[if_pos ⟨h0,h1⟩,AY,hx];rfl
   rw[e]
   generalize G.edges[m]=x at hx
   have hxd:(G.edges.map dE)[m]? =some (.agg [.int .i64 x.a,.int .i64 x.b]):=by rw[Ad,hx];rfl
   ((conv=>whnf);repeat' ((first|refine odw ?_|refine nx ?_|refine AD (λ_=>?_) (λ_=>?_))<;>conv=>whnf))
   refine AS rfl (QT G) ?_;rintro y rfl
   (repeat' ((first|refine Aj ?_ ?_|refine AP hxd rfl ?_|refine nx ?_|refine AD (λ_=>?_) (λ_=>?_)|exact AG)<;>conv=>whnf))
   exact rfl
  ·have e:Fk G.edges id=.tuple [dE ⟨0,0⟩,.bool false]:=by unfold Fk;rw[if_neg (by omega)]
   rw[e]
   ((conv=>whnf);repeat' ((first|refine odw ?_|refine nx ?_|refine AD (λ_=>?_) (λ_=>?_))<;>conv=>whnf))
   refine AS rfl (QT G) ?_;rintro y rfl
   ((conv=>whnf);repeat' ((first|refine odw ?_|refine nx ?_|refine AD (λ_=>?_) (λ_=>?_))<;>conv=>whnf))
   exact rfl
 ·have e:Fk G.edges id=.tuple [dE ⟨0,0⟩,.bool false]:=by unfold Fk;rw[if_neg (by omega)]
  rw[e]
  ((conv=>whnf);repeat' ((first|refine odw ?_|refine nx ?_|refine AD (λ_=>?_) (λ_=>?_))<;>conv=>whnf))
  exact rfl
def xI:List (Nat×Plan):=[(3,.leaf [0,0,0,1,0,0,0,1,0,0,1,0,0,0,1,0,0,0,1,0,2,0] [0,1,2,4,5,6,8,11,12,13,15,16,3,7,9,10,14,17,18,19,20,21] [0,1,3,7,0,16,48,112,0,496,1008,0,2048,6144,14336,0,32768,129024,260096,524287,1048575,2097151])]
def ACK:List FuncId:=[88]
def Mx(G:Gr)(v:Int):Da:=if 0<=v/\v<G.labels.length then Bn (Ep G.edges v.toNat)else .nils
theorem Nu {n v:Nat}(E:List Edg)(h:v<=n):((Ht n E).map dI)[v]? =some (.int .i64 (off (Hz E) v)):=by
 rw[Ad,Ht,Ad,CN (by omega)];rfl
theorem yI {n v:Nat}(E:List Edg)(h:v<n):(((U4 n E).map dI).take (off (Hz E) (v+1))).drop (off (Hz E) v)=(Ep E v).map dI:=by
 rw[<-Gn,<-List.map_drop,U4,cG (Ep E) (Hz E) (λ_=>rfl) h]
theorem Ro(G:Gr)(hG:G.Ok)(v:Int):Pure C1 142 [dG G,.int .i64 v] (λy=>y=Mx G v):=by
 refine AW Tryz.func142 Tryz.ntmps142 ACK xI ?_
 by_cases h:0<=v/\v<G.labels.length
 ·obtain⟨m,rfl⟩:=A6 h.1
  have hm:m<G.labels.length:=by omega
  have e:Mx G (m:Int)=Bn (Ep G.edges m):=by unfold Mx;rw[if_pos h,AY]
  rw[e]
  have hs:=hG.size
  have h1:=Nu G.edges (n:=G.labels.length) (v:=m) (by omega)
  have h2:=Nu G.edges (n:=G.labels.length) (v:=m+1) (by omega)
  ((conv=>whnf);repeat' ((first|refine odw ?_|refine nx ?_|refine AD (λ_=>?_) (λ_=>?_))<;>conv=>whnf))
  refine AS rfl (K6 G m) ?_;rintro y rfl
  rw[Qk h.1 h.2]
  (conv=>whnf)
  (repeat' ((first|refine Aj ?_ ?_|refine AP h1 rfl ?_|refine AP h2 rfl ?_|refine nx ?_|refine AD (λ_=>?_) (λ_=>?_)|exact AG)<;>conv=>whnf))
  refine⟨_,_,rfl,rfl,Jh _ (by omega),?_,?_⟩
  ·rw[Ac,U4,aD (Ep G.edges) (Hz G.edges) (λ_=>rfl)];exact Jh _ (by omega)
  rw[yI G.edges hm]
  (conv=>whnf)
  have hb:=Vn G.edges m
  have hes:=hG.esize
  refine EH 29 rfl rfl (It (Ep G.edges m) (by unfold Hz at hb;omega)) ?_;rintro ds rfl
  ((conv=>whnf);repeat' ((first|refine odw ?_|refine nx ?_|refine AD (λ_=>?_) (λ_=>?_))<;>conv=>whnf))
  exact rfl
 ·have e:Mx G v=.nils:=by unfold Mx;rw[if_neg h]
  rw[e]
  ((conv=>whnf);repeat' ((first|refine odw ?_|refine nx ?_|refine AD (λ_=>?_) (λ_=>?_))<;>conv=>whnf))
  refine AS rfl (K6 G v) ?_;rintro y rfl
  rw[Yx h]
  ((conv=>whnf);repeat' ((first|refine odw ?_|refine nx ?_|refine AD (λ_=>?_) (λ_=>?_))<;>conv=>whnf))
  exact rfl
def kZ(G:Gr)(v:Int):Nat:=if 0<=v/\v<G.labels.length then Hz G.edges v.toNat else 0
theorem dA(G:Gr)(hG:G.Ok)(v:Int):Pure C1 147 [dG G,.int .i64 v] (λy=>y=.int .i64 (kZ G v)):=by
 refine AW Tryz.func147 Tryz.ntmps147 [] [] ?_
 ((conv=>whnf);repeat' ((first|refine odw ?_|refine nx ?_|refine AD (λ_=>?_) (λ_=>?_))<;>conv=>whnf))
 refine AS rfl (Ro G hG v) ?_;rintro y rfl
 by_cases h:0<=v/\v<G.labels.length
 ·have e:Mx G v=Bn (Ep G.edges v.toNat):=by unfold Mx;rw[if_pos h]
  have e2:kZ G v=((Ep G.edges v.toNat).map dI).length:=by unfold kZ;rw[if_pos h,Ac];rfl
  rw[e,e2]
  ((conv=>whnf);repeat' ((first|refine odw ?_|refine nx ?_|refine AD (λ_=>?_) (λ_=>?_))<;>conv=>whnf))
  exact rfl
 ·have e:Mx G v=.nils:=by unfold Mx;rw[if_neg h]
  have e2:kZ G v=0:=by unfold kZ;rw[if_neg h]
  rw[e,e2]
  ((conv=>whnf);repeat' ((first|refine odw ?_|refine nx ?_|refine AD (λ_=>?_) (λ_=>?_))<;>conv=>whnf))
  exact rfl
end Go.Proofs.YtjpmmkodoeipmaaGreatDoor
end
section
namespace Go.Proofs.YtjpmmkodoeipmaaGreatDoor
open Go.Sx Go.RowKit Go.Reg Go.Gr
set_option maxRecDepth 100000
theorem Ig(l:List Int):Pure C1 71 [Bn l] (λy=>y=.func (.func 122) [] [.ref (Bn l)]):=by
 refine AW Tryz.func71 Tryz.ntmps71 [] [] ?_
 ((conv=>whnf);repeat' ((first|refine odw ?_|refine nx ?_|refine AD (λ_=>?_) (λ_=>?_))<;>conv=>whnf))
 exact rfl
theorem Zi {l:List Int}(h:l.Pairwise (· < ·)):l.mergeSort (λx y=>decide (x<=y))=l:=
 List.mergeSort_of_pairwise (h.imp λh=>by simp;omega)
theorem R4(E:List Edg)(v:Nat):(Iq E v).length=Hz E v:=by
 rw[Iq,Ah,(Nr E v).1,(Nr E v).2,Hz,Ep,Ah]
theorem ABT {n v:Nat}(E:List Edg)(h:v<n):(((jZ n E).map dI).take (off (Hz E) (v+1))).drop (off (Hz E) v)=(Iq E v).map dI:=by
 rw[<-Gn,<-List.map_drop,jZ,cG (Iq E) (Hz E) (R4 E) h]
def ADI:List (Nat×Plan):=[(3,.leaf [0,0,0,1,0,0,0,1,0,0,1,0,0,0,1,0,0,0,1,0,2,2,0] [0,1,2,4,5,6,8,11,12,13,15,16,3,7,9,10,14,17,18,19,20,21,22] [0,1,3,7,0,16,48,112,0,496,1008,0,2048,6144,14336,0,32768,129024,260096,524287,1048575,2097151,4194303])]
def AFz:List FuncId:=[71,70]
def atY(G:Gr)(v:Int):Da:=if 0<=v/\v<G.labels.length then Bn (Pg G.edges v.toNat)else .nils
theorem AC4(G:Gr)(hG:G.Ok)(v:Int):Pure C1 102 [dG G,.int .i64 v] (λy=>y=atY G v):=by
 refine AW Tryz.func102 Tryz.ntmps102 AFz ADI ?_
 by_cases h:0<=v/\v<G.labels.length
 ·obtain⟨m,rfl⟩:=A6 h.1
  have hm:m<G.labels.length:=by omega
  have e:atY G (m:Int)=Bn (Iq G.edges m):=by unfold atY;rw[if_pos h,AY,ABS hG]
  rw[e]
  have hs:=hG.size
  have h1:=Nu G.edges (n:=G.labels.length) (v:=m) (by omega)
  have h2:=Nu G.edges (n:=G.labels.length) (v:=m+1) (by omega)
  ((conv=>whnf);repeat' ((first|refine odw ?_|refine nx ?_|refine AD (λ_=>?_) (λ_=>?_))<;>conv=>whnf))
  refine AS rfl (K6 G m) ?_;rintro y rfl
  rw[Qk h.1 h.2]
  (conv=>whnf)
  (repeat' ((first|refine Aj ?_ ?_|refine AP h1 rfl ?_|refine AP h2 rfl ?_|refine nx ?_|refine AD (λ_=>?_) (λ_=>?_)|exact AG)<;>conv=>whnf))
  refine⟨_,_,rfl,rfl,Jh _ (by omega),?_,?_⟩
  ·rw[Ac,jZ,aD (Iq G.edges) (Hz G.edges) (R4 G.edges)];exact Jh _ (by omega)
  rw[ABT G.edges hm]
  (conv=>whnf)
  have hb:=Vn G.edges m
  have hes:=hG.esize
  refine AS rfl (Ig (Iq G.edges m)) ?_;rintro y rfl
  (conv=>whnf)
  refine AS rfl (Ma (Iq G.edges m) (by rw[R4];omega)) ?_;rintro y rfl
  rw[Zi (bR hG m)]
  ((conv=>whnf);repeat' ((first|refine odw ?_|refine nx ?_|refine AD (λ_=>?_) (λ_=>?_))<;>conv=>whnf))
  exact rfl
 ·have e:atY G v=.nils:=by unfold atY;rw[if_neg h]
  rw[e]
  ((conv=>whnf);repeat' ((first|refine odw ?_|refine nx ?_|refine AD (λ_=>?_) (λ_=>?_))<;>conv=>whnf))
  refine AS rfl (K6 G v) ?_;rintro y rfl
  rw[Yx h]
  ((conv=>whnf);repeat' ((first|refine odw ?_|refine nx ?_|refine AD (λ_=>?_) (λ_=>?_))<;>conv=>whnf))
  exact rfl
end Go.Proofs.YtjpmmkodoeipmaaGreatDoor
end
section
namespace Go.Reg
open Go Go.RowKit Go.Sort Go.Proofs
section
variable {E:Nat} {w:World} {l:List Int} {g cap:Nat}
theorem KB(l:List Int):l.flatMap (λn=>[Value.int .i64 n])=l.map (Value.int .i64):=by
 induction l with
 |nil=>rfl
 |cons x l ih=>simp[ih]
theorem Sl.holds1(h:Sl E 1 (λn:Int=>[Value.int .i64 n]) w (.slice (some ⟨g,0,none⟩) l.length cap) l):Go.Sort.Holds (Value.int .i64) w g 0 l.toArray:=by
 intro j hj
 have hj':j<l.length:=by simpa using hj
 have hx:l[j]? =some l.toArray[j]! :=by rw[getElem!_pos l.toArray j hj];simp[hj']
 have hc:=Sl.cells (enc:=λn:Int=>[Value.int .i64 n]) (k:=1) (λ_=>rfl) h rfl hx (j:=0) (u:=Value.int .i64 l.toArray[j]!) rfl
 refine⟨by simpa using hc,?_⟩
 rcases h.2 with⟨h1,_⟩|⟨g',cap',cur,h1,_,hg,_⟩
 ·cases h1
 ·cases h1
  simp[World.frozen?,hg]
theorem Sl.put1(h:Sl E 1 (λn:Int=>[Value.int .i64 n]) w (.slice (some ⟨g,0,none⟩) l.length cap) l)(d:Array Int)(hd:d.size=l.length)(m:Nat)(hm:m<=l.length)(q:Nat):
  Sl E 1 (λn:Int=>[Value.int .i64 n]) (putRow (Value.int .i64) (Sort.ahead w q) g 0 d) (.slice (some ⟨g,0,none⟩) m cap) (d.toList.take m)/\Tch [g] w (putRow (Value.int .i64) (Sort.ahead w q) g 0 d):=by
 have hlm:(d.toList.take m).length=m:=by rw[AA,HG];omega
 constructor
 ·unfold Sl
  rw[KB]
  refine⟨by simp,?_⟩
  rcases h.2 with⟨h1,_⟩|⟨g',cap',cur,h1,h0,hg,hc,hmx,hs,ht⟩
  ·cases h1
  ·cases h1
   refine .inr ⟨g,cap,putCells (Value.int .i64) 0 d cur,by rw[hlm],Am _,?_,by rw[hlm];omega,hmx,by simp[putCells,hs],?_⟩
   ·simp[putRow,mapBlock,Sort.ahead,C9,hg,onCells]
   ·rw[hlm]
    apply Cb
    intro t
    rw[CY,Ad,CY]
    split
    ·rename_i hlt
     have h1:t<cur.size:=by omega
     have h2:t<d.size:=by omega
     have h3:t<m:=by omega
     simp[putCells,h1,h2,h3]
    ·rename_i hlt
     have h3:¬t<m:=by omega
     simp[h3]
 ·refine⟨rfl,rfl,rfl,?_,?_⟩
  ·simp[putRow,mapBlock,Sort.ahead]
  ·intro j hj hn
   have hne:g≠j:=λe=>hn (by simp[e])
   simp[putRow,mapBlock,Sort.ahead,C9,hne]
end
end Go.Reg
namespace Go.Proofs.YtjpmmkodoeipmaaGreatDoor
open Go.RowKit Go.Shelf Go.Sx Go.Reg Go.Sort Go.Gr Go.Proofs
set_option maxRecDepth 100000
theorem Yt {O:List Nat} {w:World}:∀{l:List Int} {css:List (List Value)},Aq O w (l.map dI) css->css=l.map (λn=>[Value.int .i64 n])
 |[],css,h=>by simpa only[Bu,Aq]using h
 |
  e::l,css,h=>by
  simp only[Ar,Aq,dI,RepC]at h
  obtain⟨c1,c2,rfl,rfl,h⟩:=h
  rw[Yt h];rfl
theorem Tc {E:Nat} {w:World} {v:Value} {l:List Int}:Sl E 1 id w v (l.map λn=>[Value.int .i64 n])↔Sl E 1 (λn:Int=>[Value.int .i64 n]) w v l:=by
 unfold Sl
 rw[Ac,G0]
 exact SD
theorem AEd {f:FuncId} {l:List Int} {xs:List Da} {r:List Int} {vs:List Value}(hxs:∀(O:List Nat) (w:World) (us:List Value),Jw O w xs us->us=vs)(hrl:r.length<=l.length)
  (hrun:∀(us:Array Value) (w:World),(callFunc f us).run C1.P w=.ok (.enter f us) w)
  (hnil:l=[]->∀w:World,Calls C1.P f (.slice none 0 0::vs).toArray w λe w'=>e=.returned (.slice none 0 0)/\w'=w)
  (hmem:∀(g cap:Nat) (w:World),Go.Sort.Holds (Value.int .i64) w g 0 l.toArray->l.length<=cap->cap<=9223372036854775807->Calls C1.P f (.slice (some ⟨g,0,none⟩) l.length cap::vs).toArray w λe w'=>e=.returned (.slice (some ⟨g,0,none⟩) r.length cap)/\∃q,∃rest:List Int,r.length+rest.length=l.length/\w'=putRow (Value.int .i64) (Sort.ahead w q) g 0 (r++rest).toArray):
  VA C1 f 3 1 (l.map dI) xs (λds=>ds=r.map dI):=by
 intro O w v css us hs hb hO hr hk hg hus
 obtain rfl:=hxs O w us hus
 obtain rfl:=Yt hr
 refine⟨hrun _ _,?_⟩
 have hs1:=Tc.1 hs
 rcases hs1.shape with⟨rfl,rfl⟩|⟨g,cap,rfl,hc⟩
 ·refine(hnil rfl w).mono ?_
  rintro e w' ⟨rfl,rfl⟩
  have:r=[]:=AJ (by simpa using hrl)
  subst this
  exact⟨_,_,[],rfl,rfl,Sl.nil _ _ _ _,λb hb=>(by cases hb),by simp[Aq],by simp,Tch.refl _ _⟩
 ·have hcm:cap<=9223372036854775807:=by
   rcases hs1.2 with⟨h1,_⟩|⟨g',cap',cur,h1,_,_,_,hm,_⟩
   ·cases h1
   ·cases h1;unfold maxLen at hm;omega
  refine(hmem g cap w hs1.holds1 hc hcm).mono ?_
  rintro e w' ⟨rfl,q,rest,hrl2,rfl⟩
  obtain⟨h1,h2⟩:=hs1.put1 (r++rest).toArray (by simp;omega) r.length hrl q
  have ht:(r++rest).toArray.toList.take r.length=r:=by simp
  rw[ht]at h1
  exact⟨_,_,r.map λn=>[Value.int .i64 n],rfl,rfl,Tc.2 h1,λb hb=>.inl hb,Q1 r,Y7 r,h2⟩
theorem ZF {O:List Nat} {w:World} {us:List Value}(h:Jw O w [] us):us=[]:=Ds h
theorem MO(l:List Int):(Lib.compact l).length<=l.length:=by
 unfold Lib.compact Lib.compactUpTo
 rw[Ac]
 have:=CM (Lib.keeps l.toArray) (List.range l.length)
 rwa [D9]at this
theorem S6(l:List Int)(hl:l.length<=9223372036854775807):VA C1 214 3 1 (l.map dI) [] (λds=>ds=(Lib.compact l).map dI):=
 AEd (vs:=[]) (λO w us h=>ZF h) (MO l) (λus w=>enters_of Tryz.func214 (by kernel_rfl) rfl us w)
  (λ_ w=>AnyG.slices_Compact_int_empty Tryz.compactI none 0 w)
  (λg cap w hH hc hm=>(AnyG.slices_Compact_int Tryz.compactI g 0 cap l w hH hl hc).mono λe w' ⟨h1,q,h2⟩=>⟨h1,q,List.replicate (l.length- (Lib.compact l).length) 0,by have:=MO l;simp;omega,h2⟩)
end Go.Proofs.YtjpmmkodoeipmaaGreatDoor
namespace Go.Gr
open Go.Lib in
theorem dH(d:Array Int)(hd:∀i j,i<=j->j<d.size->d[i]! <=d[j]!):∀m,m<=d.size->(compactUpTo d m).Pairwise (· < ·)/\∀x,x∈compactUpTo d m↔∃j,j<m/\x=d[j]! :=by
 intro m
 induction m with
 |zero=>intro _;simp[compactUpTo]
 |
  succ m ih=>
  intro hm
  obtain⟨h1,h2⟩:=ih (by omega)
  rw[compactUpTo_succ]
  cases hk:keeps d m with
  |
   true=>
   rw[if_pos rfl]
   refine⟨Dr.2 ⟨h1,by simp,λa ha b hb=>?_⟩,λx=>?_⟩
   ·simp only[As]at hb
    subst hb
    obtain⟨j,hj,rfl⟩:=(h2 a).1 ha
    simp only[keeps,decide_eq_true_eq]at hk
    have g1:=hd j (m-1) (by omega) (by omega)
    have g2:=hd (m-1) m (by omega) (by omega)
    have:d[m]! ≠d[m-1]! :=hk.resolve_left (by omega)
    omega
   ·rw[Ag,h2,As]
    constructor
    ·rintro(⟨j,hj,rfl⟩|rfl)
     ·exact⟨j,by omega,rfl⟩
     ·exact⟨m,by omega,rfl⟩
    ·rintro⟨j,hj,rfl⟩
     by_cases e:j=m
     ·subst e;exact .inr rfl
     ·exact .inl ⟨j,by omega,rfl⟩
  |
   false=>
   simp only[CL,if_false,Cg]
   refine⟨h1,λx=>?_⟩
   rw[h2]
   simp only[keeps,decide_eq_false_iff_not,not_or,Classical.not_not]at hk
   constructor
   ·rintro⟨j,hj,rfl⟩;exact⟨j,by omega,rfl⟩
   ·rintro⟨j,hj,rfl⟩
    by_cases e:j=m
    ·subst e;exact⟨j-1,by omega,hk.2⟩
    ·exact⟨j,by omega,rfl⟩
def DF(l:List Int):List Int:=Lib.compact (l.mergeSort λx y=>decide (x<=y))
theorem BK(l:List Int):(DF l).Pairwise (· < ·)/\∀x,x∈DF l↔x∈l:=by
 have hp:=H9 l λx y=>decide (x<=y)
 have hs:(l.mergeSort λx y=>decide (x<=y)).Pairwise (λx y=>decide (x<=y)=true):=N2 (by intro a b c;simp;omega) (by intro a b;simp;omega) l
 generalize hz:(l.mergeSort λx y=>decide (x<=y))=z at hp hs
 have hd:∀i j,i<=j->j<z.toArray.size->z.toArray[i]! <=z.toArray[j]! :=by
  intro i j hij hj
  have hj':j<z.length:=by simpa using hj
  rw[getElem!_pos z.toArray j hj,getElem!_pos z.toArray i (by omega)]
  by_cases e:i=j
  ·subst e;exact Int.le_refl _
  ·have:=AO.1 hs i j (by omega) hj' (by omega)
   simpa using this
 obtain⟨h1,h2⟩:=dH z.toArray hd z.length (by simp)
 unfold DF Lib.compact
 rw[hz]
 refine⟨h1,λx=>?_⟩
 rw[h2,<-hp.mem_iff,C4]
 constructor
 ·rintro⟨j,hj,rfl⟩
  refine⟨j,hj,?_⟩
  rw[getElem!_pos z.toArray j (by simpa using hj)];simp
 ·rintro⟨j,hj,rfl⟩
  refine⟨j,hj,?_⟩
  rw[getElem!_pos z.toArray j (by simpa using hj)];simp
end Go.Gr
namespace Go.Proofs.YtjpmmkodoeipmaaGreatDoor
open Go.Sx Go.RowKit Go.Reg Go.Gr
set_option maxRecDepth 100000
theorem HK(l:List Int):(DF l).length<=l.length:=by
 have:=MO (l.mergeSort λx y=>decide (x<=y))
 rwa [QI]at this
theorem PT(l:List Int)(hl:l.length<=4294967296):Pure C1 144 [Bn l] (λy=>y=Bn (DF l)):=by
 refine AW Tryz.func144 Tryz.ntmps144 [] [] ?_
 (conv=>whnf)
 (repeat' ((first|refine Aj ?_ ?_|refine Af rfl (Ig l) ?_|refine nx ?_|refine AD (λ_=>?_) (λ_=>?_)|exact AG)<;>conv=>whnf))
 refine EH 29 rfl rfl (RZ l hl) ?_;rintro ds rfl
 (conv=>whnf)
 refine eC rfl rfl (S6 (l.mergeSort λx y=>decide (x<=y)) (by rw[QI];omega)) ?_;rintro ds rfl
 ((conv=>whnf);repeat' ((first|refine odw ?_|refine nx ?_|refine AD (λ_=>?_) (λ_=>?_))<;>conv=>whnf))
 exact rfl
end Go.Proofs.YtjpmmkodoeipmaaGreatDoor
end
section
namespace Go.Gr
def HM:List Int->List Edg
 |[]=>[]
 |a::l=>l.map (λb=>⟨a,b⟩)++HM l
theorem O7:∀{l:List Int},l.Pairwise (· < ·)->∀{e:Edg},e∈HM l↔e.a∈l/\e.b∈l/\e.a<e.b
 |[],_,e=>by simp[HM]
 |
  x::l,h,e=>by
  have g:=BZ.1 h
  simp only[HM,Ag,An,O7 g.2,Ai]
  constructor
  ·rintro(⟨b,hb,rfl⟩|⟨h1,h2,h3⟩)
   ·exact⟨.inl rfl,.inr hb,g.1 b hb⟩
   ·exact⟨.inr h1,.inr h2,h3⟩
  ·rintro⟨h1|h1,h2|h2,h3⟩
   ·omega
   ·exact .inl ⟨e.b,h2,by cases e;simp_all⟩
   ·have:=g.1 _ h1;omega
   ·exact .inr ⟨h1,h2,h3⟩
theorem PQ:∀{l:List Int},l.Pairwise (· < ·)->(HM l).Nodup
 |[],_=>by simp[HM]
 |
  x::l,h=>by
  have g:=BZ.1 h
  simp only[HM]
  rw[Dm]
  refine⟨?_,PQ g.2,?_⟩
  ·have hn:l.Nodup:=g.2.imp (λh=>by omega)
   unfold List.Nodup
   rw[B7]
   exact hn.imp λh e=>h (by cases e;rfl)
  ·intro a ha b hb e
   subst e
   obtain⟨y,hy,rfl⟩:=An.1 ha
   have:=(O7 g.2).1 hb
   have:=g.1 _ this.1
   simp only at this
   omega
def Ll(d:Nat):Nat:=d*(d-1)/2
theorem ZR(d:Nat):Ll (d+1)=d+Ll d:=by
 unfold Ll
 cases d with
 |zero=>rfl
 |
  succ d=>
  simp only[Nat.add_sub_cancel]
  have h:(d+1+1)*(d+1)=(d+1)*2+(d+1)*d:=by
   rw[<-Nat.mul_add,AAC,AAD 2 d]
  rw[h,AAD,Nat.add_mul_div_right _ _ (by omega)]
  omega
theorem Lm:∀l:List Int,(HM l).length=Ll l.length
 |[]=>rfl
 |
  x::l=>by
  simp only[HM,Ah,Ac,Lm l,Aw,ZR]
theorem NX:∀{l1 l2:List Edg},CB l1->CB l2->(∀x,x∈l1↔x∈l2)->l1=l2:=by
 intro l1 l2 h1 h2 h
 refine Ki ?_ h1 h2
 have n1:=h1.nodup
 have n2:=h2.nodup
 exact(List.perm_ext_iff_of_nodup n1 n2).2 h
def tch(E:List Edg)(i j:Nat):Bool:=match E[i]?,E[j]? with
 |some x,some y=>decide (i≠j)&&(decide (x.a=y.a)||decide (x.a=y.b)||decide (x.b=y.a)||decide (x.b=y.b))
 |_,_=>false
def pZ(E:List Edg)(a k:Nat):List Edg:=((List.range k).filter (λb:Nat=>decide (a<b)&&tch E a b)).map λb:Nat=>⟨(a:Int),(b:Int)⟩
def Kd(E:List Edg)(k:Nat):List Edg:=(List.range k).flatMap λa=>pZ E a E.length
theorem fN(E:List Edg)(k:Nat):Kd E (k+1)=Kd E k++pZ E k E.length:=by
 simp[Kd,D1]
theorem aQ {E:List Edg} {a k:Nat} {e:Edg}:e∈pZ E a k↔∃b:Nat,b<k/\a<b/\tch E a b=true/\e=⟨(a:Int),(b:Int)⟩:=by
 simp only[pZ,An,Az,AM,Ap,decide_eq_true_eq]
 constructor
 ·rintro⟨b,⟨h1,h2,h3⟩,rfl⟩;exact⟨b,h1,h2,h3,rfl⟩
 ·rintro⟨b,h1,h2,h3,rfl⟩;exact⟨b,⟨h1,h2,h3⟩,rfl⟩
theorem Nk {E:List Edg} {k:Nat} {e:Edg}:e∈Kd E k↔∃a b:Nat,a<k/\b<E.length/\a<b/\tch E a b=true/\e=⟨(a:Int),(b:Int)⟩:=by
 simp only[Kd,AL,AM,aQ]
 constructor
 ·rintro⟨a,ha,b,h1,h2,h3,rfl⟩;exact⟨a,b,ha,h1,h2,h3,rfl⟩
 ·rintro⟨a,b,ha,h1,h2,h3,rfl⟩;exact⟨a,ha,b,h1,h2,h3,rfl⟩
theorem Z3(E:List Edg)(a k:Nat):CB (pZ E a k):=by
 unfold pZ CB
 rw[B7]
 refine(List.pairwise_lt_range.filter _).imp λh=>?_
 rw[F9]
 exact .inr ⟨rfl,Int.ofNat_lt.2 h⟩
theorem Xz(E:List Edg)(k:Nat):CB (Kd E k):=by
 induction k with
 |zero=>exact List.Pairwise.nil
 |
  succ k ih=>
  rw[fN]
  unfold CB
  rw[Dr]
  refine⟨ih,Z3 _ _ _,λx hx y hy=>?_⟩
  obtain⟨a,b,h1,h2,h3,h4,rfl⟩:=Nk.1 hx
  obtain⟨c,h5,h6,h7,rfl⟩:=aQ.1 hy
  rw[F9];simp only;omega
theorem nE {E:List Edg} {v:Nat} {x:Int}:x∈Pg E v↔∃(i:Nat) (e:Edg),x=(i:Int)/\E[i]? =some e/\(e.a=v\/e.b=v):=by
 simp only[Pg,An,Az,decide_eq_true_eq]
 constructor
 ·rintro⟨p,⟨h1,h2⟩,rfl⟩
  exact⟨p.2,p.1,rfl,V8.1 h1,h2⟩
 ·rintro⟨i,e,rfl,h1,h2⟩
  exact⟨(e,i),⟨V8.2 h1,h2⟩,rfl⟩
theorem eM(E:List Edg)(v:Nat):(Pg E v).Pairwise (· < ·):=J5 _ _
def Cu(E:List Edg)(n:Nat):List Edg:=(List.range n).flatMap λv=>HM (Pg E v)
theorem F3(E:List Edg)(n:Nat):Cu E (n+1)=Cu E n++HM (Pg E n):=by simp[Cu,D1]
theorem JT {E:List Edg} {v:Nat} {e:Edg}:e∈HM (Pg E v)↔∃(i j:Nat) (x y:Edg),e=⟨(i:Int),(j:Int)⟩/\i<j/\E[i]? =some x/\E[j]? =some y/\(x.a=v\/x.b=v)/\(y.a=v\/y.b=v):=by
 rw[O7 (eM E v),nE,nE]
 constructor
 ·rintro⟨⟨i,x,h1,h2,h3⟩,⟨j,y,h4,h5,h6⟩,h7⟩
  exact⟨i,j,x,y,by cases e;simp_all,by omega,h2,h5,h3,h6⟩
 ·rintro⟨i,j,x,y,rfl,h1,h2,h3,h4,h5⟩
  exact⟨⟨i,x,rfl,h2,h4⟩,⟨j,y,rfl,h3,h5⟩,by simp only;omega⟩
theorem rE {G:Gr}(h:G.Ok) {i j:Nat} {x y:Edg}(hi:G.edges[i]? =some x)(hj:G.edges[j]? =some y)(hij:i<j) {u v:Nat}(h1:x.a=u\/x.b=u)(h2:y.a=u\/y.b=u)(h3:x.a=v\/x.b=v)(h4:y.a=v\/y.b=v):u=v:=by
 obtain⟨l1,e1⟩:=Ae.1 hi
 obtain⟨l2,e2⟩:=Ae.1 hj
 have hs:=AO.1 h.sorted i j l1 l2 hij
 rw[e1,e2,F9]at hs
 have hx:=h.edge x (A8 hi)
 have hy:=h.edge y (A8 hj)
 omega
theorem Og {G:Gr}(h:G.Ok)(n:Nat):(Cu G.edges n).Nodup:=by
 induction n with
 |zero=>simp[Cu]
 |
  succ n ih=>
  rw[F3,Dm]
  refine⟨ih,PQ (eM _ _),λa ha b hb e=>?_⟩
  subst e
  simp only[Cu,AL,AM]at ha
  obtain⟨v,hv,ha⟩:=ha
  obtain⟨i,j,x,y,rfl,h1,h2,h3,h4,h5⟩:=JT.1 ha
  obtain⟨i',j',x',y',he,h1',h2',h3',h4',h5'⟩:=JT.1 hb
  simp only[Edg.mk.injEq,AAY]at he
  obtain⟨rfl,rfl⟩:=he
  rw[h2]at h2';rw[h3]at h3'
  cases h2';cases h3'
  have:=rE h h2 h3 h1 h4 h5 h4' h5'
  omega
theorem Sr {G:Gr}(h:G.Ok) {e:Edg}:e∈Cu G.edges G.labels.length↔e∈Kd G.edges G.edges.length:=by
 simp only[Cu,AL,AM,JT,Nk]
 constructor
 ·rintro⟨v,hv,i,j,x,y,rfl,h1,h2,h3,h4,h5⟩
  have l1:=(Ae.1 h2).1
  have l2:=(Ae.1 h3).1
  refine⟨i,j,l1,l2,h1,?_,rfl⟩
  unfold tch
  rw[h2,h3]
  have:i≠j:=by omega
  simp only[this,ne_eq,not_false_eq_true,decide_true,Bool.true_and,Dj,decide_eq_true_eq]
  omega
 ·rintro⟨i,j,l1,l2,h1,ht,rfl⟩
  unfold tch at ht
  have hx:=Ab l1
  have hy:=Ab l2
  rw[hx,hy]at ht
  simp only[Ap,Dj,decide_eq_true_eq]at ht
  have ex:=h.edge _ (Bc l1)
  have ey:=h.edge _ (Bc l2)
  generalize G.edges[i]=x at*
  generalize G.edges[j]=y at*
  have key:∀v:Int,0<=v->v<G.labels.length->(x.a=v\/x.b=v)->(y.a=v\/y.b=v)->∃a:Nat,a<G.labels.length/\∃(i_1 j_1:Nat) (x y:Edg),(⟨(i:Int),(j:Int)⟩:Edg)=⟨(i_1:Int),(j_1:Int)⟩/\i_1<j_1/\G.edges[i_1]? =some x/\G.edges[j_1]? =some y/\(x.a=(a:Int)\/x.b=(a:Int))/\(y.a=(a:Int)\/y.b=(a:Int)):=by
   intro v h0 hn g1 g2
   obtain⟨m,rfl⟩:=A6 h0
   exact⟨m,by omega,i,j,x,y,rfl,h1,hx,hy,g1,g2⟩
  obtain⟨_,((h|h)|h)|h⟩:=ht
  ·exact key x.a (by omega) (by omega) (.inl rfl) (.inl h.symm)
  ·exact key x.a (by omega) (by omega) (.inl rfl) (.inr h.symm)
  ·exact key x.b (by omega) (by omega) (.inr rfl) (.inl h.symm)
  ·exact key x.b (by omega) (by omega) (.inr rfl) (.inr h.symm)
theorem O6 {G:Gr}(h:G.Ok) {e:Edg}(he:e∈Cu G.edges G.labels.length):0<=e.a/\e.a<e.b/\e.b<G.edges.length:=by
 rw[Sr h,Nk]at he
 obtain⟨i,j,h1,h2,h3,_,rfl⟩:=he
 exact⟨by simp only;omega,by simp only;omega,by simp only;omega⟩
theorem Ss {l:List Edg}(h:∀e∈l,e.a<=e.b):l.map turn=l:=by
 induction l with
 |nil=>rfl
 |cons e l ih=>rw[Ar,J7 (h e (by simp)),ih λx hx=>h x (by simp[hx])]
theorem Qe {G:Gr}(h:G.Ok)(hm:G.edges.length<=4096)(hp:(Cu G.edges G.labels.length).length<=16384):Eo (List.replicate G.edges.length 0) (Cu G.edges G.labels.length)=none:=by
 refine JD (by rw[B8];omega) (λx hx=>by rw[(List.mem_replicate.1 hx).2];rfl) λj hj=>?_
 unfold Dl
 rw[Ab hj]
 simp only[Jr,B8]
 have he:=O6 h (Bc hj)
 have hnd:=Og h G.labels.length
 have hmt:((Cu G.edges G.labels.length).take j).map turn=(Cu G.edges G.labels.length).take j:=Ss λe he=>by
  have:=O6 h (DP he);omega
 rw[hmt]
 have hnot:turn (Cu G.edges G.labels.length)[j]∉(Cu G.edges G.labels.length).take j:=by
  rw[J7 (by omega)]
  intro hmem
  obtain⟨k,hk,e⟩:=Bd.1 hmem
  have h2:=(AO.1 hnd) k j (by omega) hj (by omega)
  exact h2 e
 rw[if_neg (by omega),if_neg (by omega),if_neg hnot]
theorem Sv {G:Gr}(h:G.Ok):Hu (Cu G.edges G.labels.length)=Kd G.edges G.edges.length:=by
 have hmt:(Cu G.edges G.labels.length).map turn=Cu G.edges G.labels.length:=Ss λe he=>by
  have:=O6 h he;omega
 refine NX ?_ (Xz _ _) λx=>?_
 ·refine Kh ((HS _).nodup_iff.2 ?_) (L3 _)
  rw[hmt];exact Og h _
 ·rw[(HS _).mem_iff,hmt,Sr h]
theorem AC6(E:List Edg)(v:Nat)(h:∀e∈E,e.a≠e.b):(Pg E v).length=Hz E v:=by
 have key:∀(E:List Edg),(∀e∈E,e.a≠e.b)->∀k,((E.zipIdx k).filter λp=>decide (p.1.a=(v:Int)\/p.1.b=(v:Int))).length=(FP E v).length+(Fg E v).length:=by
  intro E
  induction E with
  |nil=>intro _ k;rfl
  |
   cons e E ih=>
   intro h k
   have:=ih (λx hx=>h x (by simp[hx])) (k+1)
   have hne:=h e (by simp)
   simp only[RS,KO,FP,Fg]at this⊢
   by_cases h1:e.a=(v:Int)<;>by_cases h2:e.b=(v:Int)
   ·omega
   ·have e1:(decide (e.a=(v:Int)\/e.b=(v:Int)))=true:=by simp[h1]
    rw[e1];simp only[h1,h2,decide_true,decide_false,if_true,if_false,Aw,Ar,CL];omega
   ·have e1:(decide (e.a=(v:Int)\/e.b=(v:Int)))=true:=by simp[h2]
    rw[e1];simp only[h1,h2,decide_true,decide_false,if_true,if_false,Aw,Ar,CL];omega
   ·have e1:(decide (e.a=(v:Int)\/e.b=(v:Int)))=false:=by simp[h1,h2]
    rw[e1];simp only[h1,h2,decide_false,if_false,CL];omega
 unfold Pg Hz Ep
 rw[Ac,Ah]
 exact key E h 0
end Go.Gr
end
section
namespace Go.Proofs.YtjpmmkodoeipmaaGreatDoor
open Go.Sx Go.RowKit Go.Reg Go.Gr
set_option maxRecDepth 100000
def dM(labels:List Int)(S:List Edg):Da:=.agg [Bn labels,Fa S]
def dM0:Da:=.agg [.nils,.nils]
theorem PC(e:Edg):Pure C1 85 [dE e] (λy=>y=dE (turn e)):=by
 refine AW Tryz.func85 Tryz.ntmps85 [] [] ?_
 by_cases h:e.b<e.a
 ·have e1:turn e=⟨e.b,e.a⟩:=by unfold turn;simp only[Edg.mk.injEq];omega
  rw[e1]
  ((conv=>whnf);repeat' ((first|refine odw ?_|refine nx ?_|refine AD (λ_=>?_) (λ_=>?_))<;>conv=>whnf))
  exact rfl
 ·rw[J7 (by omega)]
  ((conv=>whnf);repeat' ((first|refine odw ?_|refine nx ?_|refine AD (λ_=>?_) (λ_=>?_))<;>conv=>whnf))
  exact rfl
theorem Ui(x y:Edg):Pure C1 87 [dE x,dE y] (λr=>r=.bool (decide (Cy x y<0))):=by
 refine AW Tryz.func87 Tryz.ntmps87 [] [] ?_
 have hc:=F9 x y
 by_cases h:x.a=y.a
 ·((conv=>whnf);repeat' ((first|refine odw ?_|refine nx ?_|refine AD (λ_=>?_) (λ_=>?_))<;>conv=>whnf))
  show Da.plain _=_
  have:(Cy x y<0)↔x.b<y.b:=by rw[hc];omega
  simp[Da.plain,this]
 ·((conv=>whnf);repeat' ((first|refine odw ?_|refine nx ?_|refine AD (λ_=>?_) (λ_=>?_))<;>conv=>whnf))
  show Da.plain _=_
  have:(Cy x y<0)↔x.a<y.a:=by rw[hc];omega
  simp[Da.plain,this]
theorem AEf {O:List Nat} {w:World} {labels:List Int} {S:List Edg} {v:Value}(h:Rep O w (dM labels S) v):S.length<=maxLen:=by
 obtain⟨cs,r,rfl⟩:=h
 simp only[dM,Fa,RepC,RepCs]at r
 obtain⟨_,_,_,_,c1,c2,_,⟨a,c,css,_,h1,h2,_⟩,_⟩:=r
 rw[Ac]at h1
 omega
def wW:List (Nat×Plan):=[(5,.leaf [0,1,0,0,1,1,3] [0,2,1,3,4,5,6] [0,1,0,7,15,0,63])]
theorem wC(labels:List Int)(S:List Edg)(a b:Int):Pure C1 86 [dM labels S,.int .i64 a,.int .i64 b] (λy=>y=.int .i64 (idE S (turn ⟨a,b⟩))):=by
 have hl:(S.map dE).length=S.length:=Ac _
 refine Pure.assume (P:=S.length<=maxLen) (λO w us h=>?_) (λhm=>?_)
 ·obtain⟨v,vs,rfl,h1,_⟩:=Cn h
  exact AEf h1
 unfold maxLen at hm
 refine AW Tryz.func86 Tryz.ntmps86 [] wW ?_
 ((conv=>whnf);repeat' ((first|refine odw ?_|refine nx ?_|refine AD (λ_=>?_) (λ_=>?_))<;>conv=>whnf))
 refine AS rfl (PC ⟨a,b⟩) ?_;rintro y rfl
 generalize turn ⟨a,b⟩=t
 obtain⟨ta,tb⟩:=t
 ((conv=>whnf);repeat' ((first|refine odw ?_|refine nx ?_|refine AD (λ_=>?_) (λ_=>?_))<;>conv=>whnf))
 refine AR (ι:=Nat) (λi=>i<=S.length/\∀x∈S.take i,x≠⟨ta,tb⟩) (λi=>[(8,.d (.int .i64 i)),(7,.own 7),(3,.own 3)])
  (λi=>[(3,.cells 30 [.d (Bn labels),.d (Fa S)]),(7,.cells 66 [.d (.int .i64 ta),.d (.int .i64 tb)])]) (λi=>S.length-i) 0 (λ_=>rfl) ⟨Am _,by simp⟩ (.refl _ _) ⟨rfl,rfl,rfl,trivial⟩ ⟨rfl,rfl,trivial⟩ ?_
 rintro i ⟨hi,hne⟩
 refine Cd [] wW ?_
 by_cases hlt:i<S.length
 ·have hx:=Ab hlt
  generalize S[i]=x at hx
  obtain⟨xa,xb⟩:=x
  have hxd:(S.map dE)[i]? =some (.agg [.int .i64 xa,.int .i64 xb]):=by rw[Ad,hx];rfl
  by_cases he:xa=ta/\xb=tb
  ·obtain⟨rfl,rfl⟩:=he
   rw[ADZ hx hne]
   (repeat' ((first|refine Aj ?_ ?_|refine AP hxd rfl ?_|refine nx ?_|refine AD (λ_=>?_) (λ_=>?_)|exact AG)<;>conv=>whnf))
   exact rfl
  ·(repeat' ((first|refine Aj ?_ ?_|refine AP hxd rfl ?_|refine nx ?_|refine AD (λ_=>?_) (λ_=>?_)|exact AG)<;>conv=>whnf))
   refine⟨i+1,_,_,⟨hlt,?_⟩,.refl _ _,⟨rfl,rfl,rfl,trivial⟩,⟨rfl,rfl,trivial⟩,by omega⟩
   intro z hz
   rw[Fc hx]at hz
   rcases Ag.1 hz with hz|hz
   ·exact hne z hz
   ·simp only[As]at hz
    subst hz
    intro h
    exact he ⟨congrArg Edg.a h,congrArg Edg.b h⟩
 ·have hii:S.take i=S:=Al (by omega)
  rw[hii]at hne
  rw[UR (λh=>hne _ h rfl)]
  ((conv=>whnf);repeat' ((first|refine odw ?_|refine nx ?_|refine AD (λ_=>?_) (λ_=>?_))<;>conv=>whnf))
  exact rfl
def Z8(labels:List Int)(edges:List Edg):Da:=match Eo labels edges with
 |some (c,a,_)=>.tuple [dM0,.int .i64 c,.int .i64 a]
 |none=>.tuple [dM labels (Hu edges),.int .i64 0,.int .i64 0]
theorem Fx {labels:List Int} {edges:List Edg} {c a:Int} {b:Bool}(h:Eo labels edges=some (c,a,b)):Z8 labels edges=.tuple [dM0,.int .i64 c,.int .i64 a]:=by unfold Z8;rw[h]
theorem Uh {labels:List Int} {edges:List Edg}(h:Eo labels edges=none):Z8 labels edges=.tuple [dM labels (Hu edges),.int .i64 0,.int .i64 0]:=by unfold Z8;rw[h]
theorem bZ {t k:Nat} {d:Dat} {a b:List Da}(h:a=b):some (Own.cells t [d,.d (.list k a)])=some (Own.cells t [d,.d (.list k b)]):=by rw[h]
def SV:List (Nat×Plan):=[(20,.leaf [0,0,1,0,0,0,0,1,0,0,1,1,2,0] [0,1,2,3,4,5,6,8,7,9,10,11,12,13] [0,0,2,6,15,31,63,127,63,511,1023,63,4095,8191])]
def YK:List FuncId:=[87]
set_option maxHeartbeats 4000000 in
theorem qH(labels:List Int)(edges:List Edg):Pure C1 46 [Bn labels,Fa edges] (λy=>y=Z8 labels edges):=by
 have hll:(labels.map dI).length=labels.length:=Ac _
 have hel:(edges.map dE).length=edges.length:=Ac _
 refine AW Tryz.func46 Tryz.ntmps46 YK SV ?_
 by_cases h1:4096<labels.length
 ·rw[Fx (ID (.inl h1))]
  ((conv=>whnf);repeat' ((first|refine odw ?_|refine nx ?_|refine AD (λ_=>?_) (λ_=>?_))<;>conv=>whnf))
  exact rfl
 by_cases h2:16384<edges.length
 ·rw[Fx (ID (.inr h2))]
  ((conv=>whnf);repeat' ((first|refine odw ?_|refine nx ?_|refine AD (λ_=>?_) (λ_=>?_))<;>conv=>whnf))
  exact rfl
 have h0:¬(4096<labels.length\/16384<edges.length):=by omega
 ((conv=>whnf);repeat' ((first|refine odw ?_|refine nx ?_|refine AD (λ_=>?_) (λ_=>?_))<;>conv=>whnf))
 refine AR (ι:=Nat) (λv=>v<=labels.length/\∀x∈labels.take v,BX x=false) (λv=>[(7,.d (.int .i64 v)),(4,.own 4),(1,.d (Fa edges)),(0,.d (Bn labels))])
  (λ_=>[(4,.cells 30 [.d .nils,.d .nils])]) (λv=>labels.length-v) 0 (λ_=>rfl) ⟨Am _,by simp⟩ (.refl _ _) ⟨rfl,rfl,rfl,rfl,trivial⟩ ⟨rfl,trivial⟩ ?_
 rintro v ⟨hv,hgood⟩
 refine Cd YK SV ?_
 by_cases hlt:v<labels.length
 ·have hx:=Ab hlt
  generalize labels[v]=x at hx
  have hxd:(labels.map dI)[v]? =some (.int .i64 x):=by rw[Ad,hx];rfl
  by_cases b1:x<0
  ·have hb:BX x=true:=by simp[BX,b1]
   rw[Fx (IE h0 hx hb hgood)]
   (repeat' ((first|refine Aj ?_ ?_|refine AP hxd rfl ?_|refine nx ?_|refine AD (λ_=>?_) (λ_=>?_)|exact AG)<;>conv=>whnf))
   exact rfl
  by_cases b2:255<x
  ·have hb:BX x=true:=by simp[BX,b2]
   rw[Fx (IE h0 hx hb hgood)]
   (repeat' ((first|refine Aj ?_ ?_|refine AP hxd rfl ?_|refine nx ?_|refine AD (λ_=>?_) (λ_=>?_)|exact AG)<;>conv=>whnf))
   exact rfl
  ·have hb:BX x=false:=by simp[BX];omega
   (repeat' ((first|refine Aj ?_ ?_|refine AP hxd rfl ?_|refine nx ?_|refine AD (λ_=>?_) (λ_=>?_)|exact AG)<;>conv=>whnf))
   refine⟨v+1,_,_,⟨hlt,?_⟩,.refl _ _,⟨rfl,rfl,rfl,rfl,trivial⟩,⟨rfl,trivial⟩,by omega⟩
   intro z hz
   rw[Ay,hx]at hz
   rcases Ag.1 hz with hz|hz
   ·exact hgood z hz
   ·simp at hz;subst hz;exact hb
 ·have hve:labels.take v=labels:=Al (by omega)
  rw[hve]at hgood
  have hvn:v=labels.length:=by omega
  subst hvn
  clear hve hv hlt
  ((conv=>whnf);repeat' ((first|refine odw ?_|refine nx ?_|refine AD (λ_=>?_) (λ_=>?_))<;>conv=>whnf))
  refine AR (ι:=Nat×List Edg) (λp=>p.1<=edges.length/\Part edges p.1 p.2/\∀j,j<p.1->Dl labels.length edges j=0) (λp=>[(9,.d (.int .i64 p.1)),(8,.own 8),(4,.own 4),(1,.d (Fa edges)),(0,.d (Bn labels))])
   (λp=>[(4,.cells 30 [.d .nils,.d .nils]),(8,.cells 30 [.d (Bn labels),.d (Fa p.2)])]) (λp=>edges.length-p.1) (0,[]) (λ_=>rfl) ⟨Am _,Part.zero _,λj hj=>absurd hj (Nat.not_lt_zero j)⟩
   (.laxc 8 rfl (.same _ (.lax (.nils 2) .nil)) (.refl _ _)) ⟨rfl,rfl,rfl,rfl,rfl,trivial⟩ ⟨rfl,rfl,trivial⟩ ?_
  rintro⟨i,S⟩ ⟨hi,hpart,hcode⟩
  simp only at hi hpart hcode
  refine Cd YK SV ?_
  by_cases hlt:i<edges.length
  ·have hx:=Ab hlt
   have hec:Dl labels.length edges i=Jr labels.length ((edges.take i).map turn) edges[i]:=by unfold Dl;rw[hx]
   generalize edges[i]=e at hx hec
   have hmem:=hpart.mem (turn e)
   have hSl:S.length=i:=by rw[hpart.perm.length_eq,Ac,AA];omega
   have hxd:(edges.map dE)[i]? =some (dE e):=by rw[Ad,hx];rfl
   have hta:(turn e).a=min e.a e.b:=rfl
   have htb:(turn e).b=max e.a e.b:=rfl
   have htt:turn (turn e)=turn e:=VT e
   (repeat' ((first|refine Aj ?_ ?_|refine AP hxd rfl ?_|refine nx ?_|refine AD (λ_=>?_) (λ_=>?_)|exact AG)<;>conv=>whnf))
   refine AS rfl (PC e) ?_;rintro y rfl
   have hnext:=λk h1 h2=>hpart.next (k:=k) hx h1 h2
   generalize htE:turn e=t at hmem hta htb htt hnext⊢
   obtain⟨ta,tb⟩:=t
   simp only at hta htb
   rw[show dE ⟨ta,tb⟩=.agg [.int .i64 ta,.int .i64 tb]from rfl]
   by_cases c1:ta<0
   ·have hc:Dl labels.length edges i=3:=by rw[hec];unfold Jr;rw[if_pos (.inl (by omega))]
    rw[Fx (Fs h0 hgood hlt (by rw[hc];decide) hcode),hc]
    ((conv=>whnf);repeat' ((first|refine odw ?_|refine nx ?_|refine AD (λ_=>?_) (λ_=>?_))<;>conv=>whnf))
    exact rfl
   by_cases c2:(labels.length:Int)<=tb
   ·have hc:Dl labels.length edges i=3:=by rw[hec];unfold Jr;rw[if_pos (.inr (by omega))]
    rw[Fx (Fs h0 hgood hlt (by rw[hc];decide) hcode),hc]
    ((conv=>whnf);repeat' ((first|refine odw ?_|refine nx ?_|refine AD (λ_=>?_) (λ_=>?_))<;>conv=>whnf))
    exact rfl
   by_cases c3:ta=tb
   ·have hc:Dl labels.length edges i=1:=by rw[hec];unfold Jr;rw[if_neg (by omega),if_pos (by omega)]
    rw[Fx (Fs h0 hgood hlt (by rw[hc];decide) hcode),hc]
    ((conv=>whnf);repeat' ((first|refine odw ?_|refine nx ?_|refine AD (λ_=>?_) (λ_=>?_))<;>conv=>whnf))
    exact rfl
   ((conv=>whnf);repeat' ((first|refine odw ?_|refine nx ?_|refine AD (λ_=>?_) (λ_=>?_))<;>conv=>whnf))
   refine AS rfl (wC labels S ta tb) ?_;rintro y rfl
   rw[htt]
   by_cases c4:(⟨ta,tb⟩:Edg)∈S
   ·have hc:Dl labels.length edges i=4:=by rw[hec];unfold Jr;rw[if_neg (by omega),if_neg (by omega),if_pos (by rw[htE];exact hmem.1 c4)]
    rw[Fx (Fs h0 hgood hlt (by rw[hc];decide) hcode),hc]
    have Ga:=kC.2 c4
    generalize idE S ⟨ta,tb⟩=z at Ga
    ((conv=>whnf);repeat' ((first|refine odw ?_|refine nx ?_|refine AD (λ_=>?_) (λ_=>?_))<;>conv=>whnf))
    exact rfl
   ·have hc:Dl labels.length edges i=0:=by rw[hec];unfold Jr;rw[if_neg (by omega),if_neg (by omega),if_neg (by rw[htE];exactλh=>c4 (hmem.2 h))]
    have Ga:idE S ⟨ta,tb⟩<0:=by rw[UR c4];decide
    generalize idE S ⟨ta,tb⟩=z at Ga
    ((conv=>whnf);repeat' ((first|refine odw ?_|refine nx ?_|refine AD (λ_=>?_) (λ_=>?_))<;>conv=>whnf))
    refine AR (ι:=Nat) (λk=>k<=S.length/\∀x∈S.take k,Cy x ⟨ta,tb⟩<0) (λk=>[(11,.d (.int .i64 k)),(10,.own 10),(9,.d (.int .i64 i)),(8,.own 8),(4,.own 4),(1,.d (Fa edges)),(0,.d (Bn labels))])
     (λ_=>[(4,.cells 30 [.d .nils,.d .nils]),(8,.cells 30 [.d (Bn labels),.d (Fa S)]),(10,.cells 66 [.d (.int .i64 ta),.d (.int .i64 tb)])])
     (λk=>S.length-k) 0 (λ_=>rfl) ⟨Am _,by simp⟩ (.refl _ _) ⟨rfl,rfl,rfl,rfl,rfl,rfl,rfl,trivial⟩ ⟨rfl,rfl,rfl,trivial⟩ ?_
    rintro k ⟨hk,hkl⟩
    refine Cd YK SV ?_
    have hSd:(S.map dE).length=S.length:=Ac _
    by_cases hks:k<S.length
    ·have hxk:=Ab hks
     generalize S[k]=x at hxk
     have hxkd:(S.map dE)[k]? =some (dE x):=by rw[Ad,hxk];rfl
     by_cases hl:Cy x ⟨ta,tb⟩<0
     ·(repeat' ((first|refine Aj ?_ ?_|refine AP hxkd rfl ?_|refine nx ?_|refine AD (λ_=>?_) (λ_=>?_)|exact AG)<;>conv=>whnf))
      refine AS rfl (Ui x ⟨ta,tb⟩) ?_;rintro y rfl
      rw[decide_eq_true hl]
      ((conv=>whnf);repeat' ((first|refine odw ?_|refine nx ?_|refine AD (λ_=>?_) (λ_=>?_))<;>conv=>whnf))
      refine⟨k+1,_,_,⟨hks,?_⟩,.refl _ _,⟨rfl,rfl,rfl,rfl,rfl,rfl,rfl,trivial⟩,⟨rfl,rfl,rfl,trivial⟩,by omega⟩
      intro z hz
      rw[Fc hxk]at hz
      rcases Ag.1 hz with hz|hz
      ·exact hkl z hz
      ·simp only[As]at hz
       subst hz;exact hl
     ·have hstop:∀z,S[k]? =some z->¬Cy z ⟨ta,tb⟩<0:=λz hz=>by rw[hxk]at hz;cases hz;exact hl
      (repeat' ((first|refine Aj ?_ ?_|refine AP hxkd rfl ?_|refine nx ?_|refine AD (λ_=>?_) (λ_=>?_)|exact AG)<;>conv=>whnf))
      refine AS rfl (Ui x ⟨ta,tb⟩) ?_;rintro y rfl
      rw[decide_eq_false hl]
      ((conv=>whnf);repeat' ((first|refine odw ?_|refine nx ?_|refine AD (λ_=>?_) (λ_=>?_))<;>conv=>whnf))
      (repeat' ((first|refine Aj ?_ ?_|refine Zm k rfl (by rw[Ac];omega) ?_|refine nx ?_|refine AD (λ_=>?_) (λ_=>?_)|exact AG)<;>conv=>whnf))
      have hfin:([]++(S.map dE).take k)++[.agg [.int .i64 ta,.int .i64 tb]]++(S.map dE).drop k=(MA S k ⟨ta,tb⟩).map dE:=by simp[MA,dE]
      refine⟨(i+1,MA S k ⟨ta,tb⟩),_,_,⟨hlt,hnext k c4 hkl hstop,?_⟩,.frz 99 rfl (.refl _ _),⟨rfl,rfl,rfl,rfl,rfl,trivial⟩,⟨rfl,bZ hfin,trivial⟩,by simp only;omega⟩
      intro j hj
      rcases Nat.lt_succ_iff_lt_or_eq.1 hj with h|h
      ·exact hcode j h
      ·rw[h];exact hc
    ·have hke:k=S.length:=by omega
     have hstop:∀z,S[k]? =some z->¬Cy z ⟨ta,tb⟩<0:=λz hz=>by rw[AI (by omega)]at hz;cases hz
     (repeat' ((first|refine Aj ?_ ?_|refine Zm k rfl (by rw[Ac];omega) ?_|refine nx ?_|refine AD (λ_=>?_) (λ_=>?_)|exact AG)<;>conv=>whnf))
     have hfin:([]++(S.map dE).take k)++[.agg [.int .i64 ta,.int .i64 tb]]++(S.map dE).drop k=(MA S k ⟨ta,tb⟩).map dE:=by simp[MA,dE]
     refine⟨(i+1,MA S k ⟨ta,tb⟩),_,_,⟨hlt,hnext k c4 hkl hstop,?_⟩,.frz 99 rfl (.refl _ _),⟨rfl,rfl,rfl,rfl,rfl,trivial⟩,⟨rfl,bZ hfin,trivial⟩,by simp only;omega⟩
     intro j hj
     rcases Nat.lt_succ_iff_lt_or_eq.1 hj with h|h
     ·exact hcode j h
     ·rw[h];exact hc
  ·have hin:i=edges.length:=by omega
   subst hin
   obtain rfl:=hpart.all (Ax _)
   rw[Uh (JD h0 hgood hcode)]
   ((conv=>whnf);repeat' ((first|refine odw ?_|refine nx ?_|refine AD (λ_=>?_) (λ_=>?_))<;>conv=>whnf))
   exact rfl
theorem UH(edges:List Edg)(hm:edges.length<=4294967296):Pure C1 48 [Fa edges] (λy=>y=Fa edges):=by
 have hel:(edges.map dE).length=edges.length:=Ac _
 refine AW Tryz.func48 Tryz.ntmps48 [] [] ?_
 ((conv=>whnf);repeat' ((first|refine odw ?_|refine nx ?_|refine AD (λ_=>?_) (λ_=>?_))<;>conv=>whnf))
 refine AR (ι:=Nat) (λi=>i<=edges.length) (λi=>[(4,.d (.int .i64 i)),(3,.own 300),(0,.d (Fa edges))]) (λi=>[(300,.slice 90 2 ((edges.take i).map dE))]) (λi=>edges.length-i) 0 (λ_=>rfl) (Am _)
  (.own 3 300 90 2 rfl rfl (.refl _ _)) ⟨rfl,rfl,rfl,trivial⟩ ⟨rfl,trivial⟩ ?_
 intro i hi
 refine Cd [] [] ?_
 by_cases hlt:i<edges.length
 ·have hx:=Ab hlt
  generalize edges[i]=e at hx
  have hxd:(edges.map dE)[i]? =some (dE e):=by rw[Ad,hx];rfl
  have htl:(edges.take i).length=i:=by rw[AA];omega
  (repeat' ((first|refine Aj ?_ ?_|refine AP hxd rfl ?_|refine nx ?_|refine AD (λ_=>?_) (λ_=>?_)|exact AG)<;>conv=>whnf))
  have hfin:(edges.take i).map dE++[dE e]=(edges.take (i+1)).map dE:=by rw[Fc hx,A7];rfl
  exact⟨i+1,_,_,hlt,.refl _ _,⟨rfl,rfl,rfl,trivial⟩,⟨Bk hfin,trivial⟩,by omega⟩
 ·have hii:edges.take i=edges:=Al (by omega)
  rw[hii]
  ((conv=>whnf);repeat' ((first|refine odw ?_|refine nx ?_|refine AD (λ_=>?_) (λ_=>?_))<;>conv=>whnf))
  exact rfl
def Qc(labels:List Int)(edges:List Edg):Option Gr:=if labels.length<=10/\edges.length<=30 then(match Eo labels edges with|some _=>none|none=>some ⟨labels,Hu edges⟩)else none
def Jm(labels:List Int)(edges:List Edg):Da:=match Qc labels edges with
 |some G=>.tuple [dG G,dM G.labels G.edges,.bool true]
 |none=>.tuple [.nilp,dM0,.bool false]
theorem jD {labels:List Int} {edges:List Edg} {G:Gr}(h:Qc labels edges=some G):G=⟨labels,Hu edges⟩/\G.Ok/\labels.length<=10/\edges.length<=30/\Eo labels edges=none:=by
 unfold Qc at h
 split at h
 ·rename_i hl
  split at h
  ·cases h
  ·rename_i hn
   cases h
   exact⟨rfl,Q5 hn,hl.1,hl.2,hn⟩
 ·cases h
def AB5:List (Nat×Plan):=[(5,.leaf [0,1,0,0,0,0,0,0,0,3,0] [0,2,3,4,5,6,7,8,1,9,10] [0,0,0,4,12,28,60,124,29,287,1023])]
theorem WL(labels:List Int)(edges:List Edg):Pure C1 15 [Bn labels,Fa edges] (λy=>y=Jm labels edges):=by
 have hll:(labels.map dI).length=labels.length:=Ac _
 have hel:(edges.map dE).length=edges.length:=Ac _
 refine AW Tryz.func15 Tryz.ntmps15 [] AB5 ?_
 by_cases h1:10<labels.length
 ·have e:Jm labels edges=.tuple [.nilp,dM0,.bool false]:=by unfold Jm Qc;rw[if_neg (by omega)]
  rw[e]
  ((conv=>whnf);repeat' ((first|refine odw ?_|refine nx ?_|refine AD (λ_=>?_) (λ_=>?_))<;>conv=>whnf))
  exact rfl
 by_cases h2:30<edges.length
 ·have e:Jm labels edges=.tuple [.nilp,dM0,.bool false]:=by unfold Jm Qc;rw[if_neg (by omega)]
  rw[e]
  ((conv=>whnf);repeat' ((first|refine odw ?_|refine nx ?_|refine AD (λ_=>?_) (λ_=>?_))<;>conv=>whnf))
  exact rfl
 ((conv=>whnf);repeat' ((first|refine odw ?_|refine nx ?_|refine AD (λ_=>?_) (λ_=>?_))<;>conv=>whnf))
 refine AS rfl (qH labels edges) ?_;rintro y rfl
 rcases hn:Eo labels edges with _|⟨c,a,b⟩
 ·have e:Jm labels edges=.tuple [dG ⟨labels,Hu edges⟩,dM labels (Hu edges),.bool true]:=by unfold Jm Qc;rw[if_pos (by omega),hn]
  rw[e,Uh hn]
  ((conv=>whnf);repeat' ((first|refine odw ?_|refine nx ?_|refine AD (λ_=>?_) (λ_=>?_))<;>conv=>whnf))
  refine AS rfl (UH edges (by omega)) ?_;rintro y rfl
  ((conv=>whnf);repeat' ((first|refine odw ?_|refine nx ?_|refine AD (λ_=>?_) (λ_=>?_))<;>conv=>whnf))
  refine AS rfl (U2 labels edges) ?_;rintro y rfl
  rw[Rn hn]
  ((conv=>whnf);repeat' ((first|refine odw ?_|refine nx ?_|refine AD (λ_=>?_) (λ_=>?_))<;>conv=>whnf))
  all_goals exact rfl
 ·have e:Jm labels edges=.tuple [.nilp,dM0,.bool false]:=by unfold Jm Qc;rw[if_pos (by omega),hn]
  rw[e,Fx hn]
  ((conv=>whnf);repeat' ((first|refine odw ?_|refine nx ?_|refine AD (λ_=>?_) (λ_=>?_))<;>conv=>whnf))
  refine AS rfl (UH edges (by omega)) ?_;rintro y rfl
  ((conv=>whnf);repeat' ((first|refine odw ?_|refine nx ?_|refine AD (λ_=>?_) (λ_=>?_))<;>conv=>whnf))
  refine AS rfl (U2 labels edges) ?_;rintro y rfl
  rw[Gu hn]
  cases b
  ·((conv=>whnf);repeat' ((first|refine odw ?_|refine nx ?_|refine AD (λ_=>?_) (λ_=>?_))<;>conv=>whnf))
   all_goals exact rfl
  ·((conv=>whnf);repeat' ((first|refine odw ?_|refine nx ?_|refine AD (λ_=>?_) (λ_=>?_))<;>conv=>whnf))
   all_goals exact rfl
theorem rU(labels:List Int)(edges:List Edg):Jm labels edges=.tuple [.nilp,dM0,.bool false]\/
  ∃G:Gr,Jm labels edges=.tuple [dG G,dM G.labels G.edges,.bool true]/\G.Ok/\G.labels.length<=10/\G.edges.length<=30/\G=⟨labels,Hu edges⟩/\Eo labels edges=none/\edges.length=G.edges.length:=by
 rcases h:Qc labels edges with _|G
 ·left;unfold Jm;rw[h]
 ·right
  obtain⟨h1,h2,h3,h4,h5⟩:=jD h
  refine⟨G,by unfold Jm;rw[h],h2,?_,?_,h1,h5,?_⟩
  ·rw[h1];exact h3
  ·rw[h1];simp only;rw[RI];exact h4
  ·rw[h1];simp only;rw[RI]
end Go.Proofs.YtjpmmkodoeipmaaGreatDoor
end
section
namespace Go.Gr
theorem Rg(d:Nat):Ll d<=d*d:=by
 unfold Ll
 have h:d*(d-1)<=d*d:=Nat.mul_le_mul_left d (by omega)
 omega
theorem qV(d:Nat)(hd:d<=32768):0<=(d:Int)*((d:Int)-1)/\(d:Int)*((d:Int)-1)<=1073741824/\((d:Int)*((d:Int)-1)).tdiv 2=(Ll d:Int):=by
 cases d with
 |zero=>decide
 |
  succ d=>
  have e:((d+1:Nat):Int)*(((d+1:Nat):Int)-1)=(((d+1)*d:Nat):Int):=by push_cast;congr 1;omega
  rw[e]
  have h2:(d+1)*d<=32768*32768:=DO hd (by omega)
  refine⟨by omega,by omega,?_⟩
  rw[Int.tdiv_eq_ediv_of_nonneg (by omega)]
  unfold Ll
  simp
theorem XW(E:List Edg) {v n:Nat}(h:v<=n):(Cu E v).length<=(Cu E n).length:=by
 induction n with
 |zero=>
           have:v=0:=by omega
           subst this;exact Ax _
 |
  succ n ih=>
  rcases BL v (n+1)with h1|h1
  ·have:=ih (by omega);rw[F3,Ah];omega
  ·have:v=n+1:=by omega
   subst this;exact Ax _
theorem Sm(E:List Edg)(v:Nat)(h:∀u,(Pg E u).length<=32768):(Cu E v).length<=v*1073741824:=by
 induction v with
 |zero=>simp[Cu]
 |
  succ v ih=>
  rw[F3,Ah,Lm]
  have h1:=Rg (Pg E v).length
  have h2:(Pg E v).length*(Pg E v).length<=32768*32768:=DO (h v) (h v)
  omega
def pu(l:List Int):Nat->List Edg
 |0=>[]
 |i+1=>pu l i++(l.drop (i+1)).map (λb=>⟨(l[i]?).getD 0,b⟩)
theorem mR(x:Int)(l:List Int):∀i,pu (x::l) (i+1)=l.map (λb=>⟨x,b⟩)++pu l i
 |0=>by simp[pu]
 |
  i+1=>by
  rw[pu,mR x l i,pu]
  simp
theorem wJ:∀l:List Int,pu l l.length=HM l
 |[]=>rfl
 |x::l=>by rw[Aw,mR,wJ l];rfl
theorem AB1(l:List Int) {i n:Nat}(h:i<=n):(pu l i).length<=(pu l n).length:=by
 induction n with
 |zero=>
           have:i=0:=by omega
           subst this;exact Ax _
 |
  succ n ih=>
  rcases BL i (n+1)with h1|h1
  ·have:=ih (by omega);rw[pu,Ah];omega
  ·have:i=n+1:=by omega
   subst this;exact Ax _
end Go.Gr
namespace Go.Proofs.YtjpmmkodoeipmaaGreatDoor
open Go.Sx Go.RowKit Go.Reg Go.Gr
set_option maxRecDepth 100000
theorem AEG {G:Gr}(h:G.Ok):∀e∈G.edges,e.a≠e.b:=λe he=>by have:=h.edge e he;omega
theorem AA1 {G:Gr}(h:G.Ok)(v:Nat):(Pg G.edges v).length=Hz G.edges v:=AC6 G.edges v (AEG h)
theorem oI {G:Gr}(h:G.Ok)(v:Nat):(Pg G.edges v).length<=32768:=by
 rw[AA1 h]
 have h1:=Vn G.edges v
 have h2:=h.esize
 omega
theorem iL(G:Gr)(hG:G.Ok):Pure C1 100 [dG G] (λy=>y=.int .i64 (Cu G.edges G.labels.length).length):=by
 have hs:=hG.size
 refine AW Tryz.func100 Tryz.ntmps100 [] [] ?_
 ((conv=>whnf);repeat' ((first|refine odw ?_|refine nx ?_|refine AD (λ_=>?_) (λ_=>?_))<;>conv=>whnf))
 refine AS rfl (Kz G) ?_;rintro y rfl
 ((conv=>whnf);repeat' ((first|refine odw ?_|refine nx ?_|refine AD (λ_=>?_) (λ_=>?_))<;>conv=>whnf))
 refine AR (ι:=Nat) (λv=>v<=G.labels.length) (λv=>[(8,.d (.int .i64 v)),(7,.d (.int .i64 G.labels.length)),(3,.d (.int .i64 (Cu G.edges v).length)),(0,.d (dG G))]) (λ_=>[]) (λv=>G.labels.length-v) 0 (λ_=>rfl) (Am _) (.refl _ _) ⟨rfl,rfl,rfl,rfl,trivial⟩ trivial ?_
 intro v hv
 refine Cd [] [] ?_
 by_cases hlt:v<G.labels.length
 ·((conv=>whnf);repeat' ((first|refine odw ?_|refine nx ?_|refine AD (λ_=>?_) (λ_=>?_))<;>conv=>whnf))
  refine AS rfl (dA G hG v) ?_;rintro y rfl
  have e:kZ G v=(Pg G.edges v).length:=by unfold kZ;rw[if_pos (by omega),AY,AA1 hG]
  have hd:=oI hG v
  have hp:=qV (Pg G.edges v).length hd
  have hb:=Sm G.edges v (oI hG)
  have hn2:=Rg (Pg G.edges v).length
  have hst:(Cu G.edges (v+1)).length=(Cu G.edges v).length+Ll (Pg G.edges v).length:=by rw[F3,Ah,Lm]
  have hbn:=Sm G.edges (v+1) (oI hG)
  rw[e]
  generalize (Pg G.edges v).length=d at*
  ((conv=>whnf);repeat' ((first|refine odw ?_|refine nx ?_|refine AD (λ_=>?_) (λ_=>?_))<;>conv=>whnf))
  exact⟨v+1,_,_,hlt,.refl _ _,⟨rfl,rfl,OK (by rw[hp.2.2,hst];omega),rfl,trivial⟩,trivial,by omega⟩
 ·have hvn:v=G.labels.length:=by omega
  subst hvn
  ((conv=>whnf);repeat' ((first|refine odw ?_|refine nx ?_|refine AD (λ_=>?_) (λ_=>?_))<;>conv=>whnf))
  exact rfl
def jI:ByteArray:=⟨#[108,105,110,101,115]⟩
def aW(G:Gr):Da:=if 16384<(Cu G.edges G.labels.length).length then .tuple [.nilp,dS jI (dF 6 0 OM)]else .tuple [dG ⟨List.replicate G.edges.length 0,Kd G.edges G.edges.length⟩,.nili]
set_option maxHeartbeats 4000000 in
theorem yX(G:Gr)(hG:G.Ok)(hm:G.edges.length<=4096):Pure C1 56 [dG G] (λy=>y=aW G):=by
 have hs:=hG.size
 refine AW Tryz.func56 Tryz.ntmps56 [] [] ?_
 ((conv=>whnf);repeat' ((first|refine odw ?_|refine nx ?_|refine AD (λ_=>?_) (λ_=>?_))<;>conv=>whnf))
 refine AS rfl (iL G hG) ?_;rintro y rfl
 by_cases hbig:16384<(Cu G.edges G.labels.length).length
 ·have e:aW G=.tuple [.nilp,dS jI (dF 6 0 OM)]:=by unfold aW;rw[if_pos hbig]
  rw[e]
  ((conv=>whnf);repeat' ((first|refine odw ?_|refine nx ?_|refine AD (λ_=>?_) (λ_=>?_))<;>conv=>whnf))
  refine AS rfl (CG 6 0 OM) ?_;rintro y rfl
  ((conv=>whnf);repeat' ((first|refine odw ?_|refine nx ?_|refine AD (λ_=>?_) (λ_=>?_))<;>conv=>whnf))
  refine AS rfl (K0 jI 6 0 OM) ?_;rintro y rfl
  ((conv=>whnf);repeat' ((first|refine odw ?_|refine nx ?_|refine AD (λ_=>?_) (λ_=>?_))<;>conv=>whnf))
  exact rfl
 have e:aW G=.tuple [dG ⟨List.replicate G.edges.length 0,Kd G.edges G.edges.length⟩,.nili]:=by unfold aW;rw[if_neg hbig]
 rw[e]
 ((conv=>whnf);repeat' ((first|refine odw ?_|refine nx ?_|refine AD (λ_=>?_) (λ_=>?_))<;>conv=>whnf))
 refine AS rfl (Kz G) ?_;rintro y rfl
 ((conv=>whnf);repeat' ((first|refine odw ?_|refine nx ?_|refine AD (λ_=>?_) (λ_=>?_))<;>conv=>whnf))
 refine AR (ι:=Nat) (λv=>v<=G.labels.length) (λv=>[(20,.d (.int .i64 v)),(19,.d (.int .i64 G.labels.length)),(4,.own 300),(0,.d (dG G))]) (λv=>[(300,.slice 90 2 ((Cu G.edges v).map dE))]) (λv=>G.labels.length-v) 0 (λ_=>rfl) (Am _)
  (.own 4 300 90 2 rfl rfl (.refl _ _)) ⟨rfl,rfl,rfl,rfl,trivial⟩ ⟨rfl,trivial⟩ ?_
 intro v hv
 refine Cd [] [] ?_
 by_cases hlt:v<G.labels.length
 ·have hcap:=XW G.edges (show v+1<=G.labels.length by omega)
  rw[F3,Ah]at hcap
  have hat:atY G v=Bn (Pg G.edges v):=by unfold atY;rw[if_pos (by omega),AY]
  have hpall:=wJ (Pg G.edges v)
  have hstep:=F3 G.edges v
  have hl32:=oI hG v
  ((conv=>whnf);repeat' ((first|refine odw ?_|refine nx ?_|refine AD (λ_=>?_) (λ_=>?_))<;>conv=>whnf))
  refine AS rfl (AC4 G hG v) ?_;rintro y rfl
  rw[hat]
  generalize Pg G.edges v=l at*
  have hll:(l.map dI).length=l.length:=Ac _
  ((conv=>whnf);repeat' ((first|refine odw ?_|refine nx ?_|refine AD (λ_=>?_) (λ_=>?_))<;>conv=>whnf))
  refine AR (ι:=Nat) (λi=>i<=l.length) (λi=>[(28,.d (.int .i64 i)),(27,.d (.int .i64 (l.map dI).length)),(26,.d (Bn l)),(6,.d (Bn l)),(20,.d (.int .i64 v)),(19,.d (.int .i64 G.labels.length)),(4,.own 300),(0,.d (dG G))])
   (λi=>[(300,.slice 90 2 ((Cu G.edges v++pu l i).map dE))]) (λi=>l.length-i) 0 (λ_=>rfl) (Am _) (.refl _ _) ⟨rfl,rfl,rfl,rfl,rfl,rfl,rfl,rfl,trivial⟩ ⟨Bk (by simp[pu]),trivial⟩ ?_
  intro i hi
  refine Cd [] [] ?_
  by_cases hil:i<l.length
  ·have hx:=Ab hil
   have hpu:pu l (i+1)=pu l i++(l.drop (i+1)).map (λb=>⟨l[i],b⟩):=by rw[pu,hx];rfl
   generalize l[i]=a at hx hpu
   have hxd:(l.map dI)[i]? =some (.int .i64 a):=by rw[Ad,hx];rfl
   have hmn:=AB1 l (show i+1<=l.length by omega)
   rw[hpall]at hmn
   rw[hpu,Ah,Ac]at hmn
   (repeat' ((first|refine Aj ?_ ?_|refine AP hxd rfl ?_|refine Zm (i+1) rfl (by rw[Ac];omega) ?_|refine nx ?_|refine AD (λ_=>?_) (λ_=>?_)|exact AG)<;>conv=>whnf))
   rw[<-List.map_drop]
   generalize hD:l.drop (i+1)=D at hmn hpu⊢
   have hDl:(D.map dI).length=D.length:=Ac _
   refine AR (ι:=Nat) (λk=>k<=D.length) (λk=>[(38,.d (.int .i64 k)),(37,.d (.int .i64 (D.map dI).length)),(36,.d (Bn D)),(8,.d (.int .i64 a)),(28,.d (.int .i64 i)),(27,.d (.int .i64 (l.map dI).length)),(26,.d (Bn l)),(6,.d (Bn l)),(20,.d (.int .i64 v)),(19,.d (.int .i64 G.labels.length)),(4,.own 300),(0,.d (dG G))])
    (λk=>[(300,.slice 90 2 ((Cu G.edges v++pu l i++(D.take k).map (λb=>(⟨a,b⟩:Edg))).map dE))]) (λk=>D.length-k) 0 (λ_=>rfl) (Am _) (.refl _ _) ⟨rfl,rfl,rfl,rfl,rfl,rfl,rfl,rfl,rfl,rfl,rfl,rfl,trivial⟩ ⟨Bk (by simp),trivial⟩ ?_
   intro k hk
   refine Cd [] [] ?_
   by_cases hkl:k<D.length
   ·have hxk:=Ab hkl
    generalize D[k]=b at hxk
    have hxkd:(D.map dI)[k]? =some (.int .i64 b):=by rw[Ad,hxk];rfl
    have hfin:(Cu G.edges v++pu l i++(D.take k).map (λb=>(⟨a,b⟩:Edg))).map dE++[.agg [.int .i64 a,.int .i64 b]]=(Cu G.edges v++pu l i++(D.take (k+1)).map (λb=>(⟨a,b⟩:Edg))).map dE:=by
     rw[Ay,hxk];simp[dE]
    (repeat' ((first|refine Aj ?_ ?_|refine AP hxkd rfl ?_|refine nx ?_|refine AD (λ_=>?_) (λ_=>?_)|exact AG)<;>conv=>whnf))
    exact⟨k+1,_,_,hkl,.refl _ _,⟨rfl,rfl,rfl,rfl,rfl,rfl,rfl,rfl,rfl,rfl,rfl,rfl,trivial⟩,⟨Bk hfin,trivial⟩,by omega⟩
   ·have hkD:D.take k=D:=Al (by omega)
    rw[hkD]
    ((conv=>whnf);repeat' ((first|refine odw ?_|refine nx ?_|refine AD (λ_=>?_) (λ_=>?_))<;>conv=>whnf))
    exact⟨i+1,_,_,hil,.refl _ _,⟨rfl,rfl,rfl,rfl,rfl,rfl,rfl,rfl,trivial⟩,⟨Bk (by rw[hpu,Bj]),trivial⟩,by omega⟩
  ·have hii:i=l.length:=by omega
   subst hii
   rw[hpall]
   ((conv=>whnf);repeat' ((first|refine odw ?_|refine nx ?_|refine AD (λ_=>?_) (λ_=>?_))<;>conv=>whnf))
   exact⟨v+1,_,_,hlt,.refl _ _,⟨rfl,rfl,rfl,rfl,trivial⟩,⟨Bk (by rw[hstep]),trivial⟩,by omega⟩
 ·have hvn:v=G.labels.length:=by omega
  subst hvn
  ((conv=>whnf);repeat' ((first|refine odw ?_|refine nx ?_|refine AD (λ_=>?_) (λ_=>?_))<;>conv=>whnf))
  refine AS rfl (QT G) ?_;rintro y rfl
  (conv=>whnf)
  (repeat' ((first|refine Aj ?_ ?_|refine Mz G.edges.length rfl rfl (by omega) ?_|refine nx ?_|refine AD (λ_=>?_) (λ_=>?_)|exact AG)<;>conv=>whnf))
  have hz:List.replicate G.edges.length (dI 0)=(List.replicate G.edges.length 0).map dI:=by simp
  refine Dx 54 rfl ?_
  refine Dx 300 rfl ?_
  refine AS (xs:=[Bn (List.replicate G.edges.length 0),Fa (Cu G.edges G.labels.length)]) (by show some [Da.list 1 (List.replicate G.edges.length (dI 0)),_]=_;rw[hz];rfl) (U2 _ _) ?_;rintro y rfl
  rw[Rn (Qe hG hm (by omega)),Sv hG]
  ((conv=>whnf);repeat' ((first|refine odw ?_|refine nx ?_|refine AD (λ_=>?_) (λ_=>?_))<;>conv=>whnf))
  all_goals exact rfl
def Iy(E:List Edg)(a b:Int):Bool:=decide (0<=a)&&decide (0<=b)&&tch E a.toNat b.toNat
theorem QO {E:List Edg} {a b:Int}(h:¬(0<=a/\a<E.length)\/¬(0<=b/\b<E.length)\/a=b):Iy E a b=false:=by
 unfold Iy tch
 by_cases ha:0<=a
 ·by_cases hb:0<=b
  ·obtain⟨m,rfl⟩:=A6 ha
   obtain⟨n,rfl⟩:=A6 hb
   simp only[AY]
   by_cases hm:m<E.length
   ·by_cases hn:n<E.length
    ·have:m=n:=by omega
     subst this
     rw[Ab hm];simp
    ·rw[AI (l:=E) (i:=n) (by omega),Ab hm];simp
   ·rw[AI (l:=E) (i:=m) (by omega)];simp
  ·simp[hb]
 ·simp[ha]
theorem pA {E:List Edg} {m n:Nat} {x y:Edg}(hx:E[m]? =some x)(hy:E[n]? =some y)(hne:m≠n):Iy E m n=(decide (x.a=y.a)||decide (x.a=y.b)||decide (x.b=y.a)||decide (x.b=y.b)):=by
 unfold Iy tch
 have h1:(0:Int)<=m:=by omega
 have h2:(0:Int)<=n:=by omega
 simp only[AY,hx,hy,h1,h2,decide_true,Bool.true_and,ne_eq,hne,not_false_eq_true]
set_option maxHeartbeats 1000000 in
theorem fS(G:Gr)(a b:Int):Pure C1 219 [dG G,.int .i64 a,.int .i64 b] (λy=>y=.bool (Iy G.edges a b)):=by
 refine AW Tryz.func219 Tryz.ntmps219 [] [] ?_
 ((conv=>whnf);repeat' ((first|refine odw ?_|refine nx ?_|refine AD (λ_=>?_) (λ_=>?_))<;>conv=>whnf))
 refine AS rfl (KF G a) ?_;rintro y rfl
 by_cases ha:0<=a/\a<G.edges.length
 ·obtain⟨m,rfl⟩:=A6 ha.1
  have hmm:m<G.edges.length:=by omega
  have hx:=Ab hmm
  generalize G.edges[m]=x at hx
  have e:Fk G.edges (m:Int)=.tuple [dE x,.bool true]:=by unfold Fk;rw[if_pos ha,AY,hx];rfl
  obtain⟨xa,xb⟩:=x
  rw[e,show dE ⟨xa,xb⟩=.agg [.int .i64 xa,.int .i64 xb]from rfl]
  ((conv=>whnf);repeat' ((first|refine odw ?_|refine nx ?_|refine AD (λ_=>?_) (λ_=>?_))<;>conv=>whnf))
  refine AS rfl (KF G b) ?_;rintro y rfl
  by_cases hb:0<=b/\b<G.edges.length
  ·obtain⟨n,rfl⟩:=A6 hb.1
   have hnn:n<G.edges.length:=by omega
   have hy:=Ab hnn
   generalize G.edges[n]=y at hy
   have e:Fk G.edges (n:Int)=.tuple [dE y,.bool true]:=by unfold Fk;rw[if_pos hb,AY,hy];rfl
   obtain⟨ya,yb⟩:=y
   rw[e,show dE ⟨ya,yb⟩=.agg [.int .i64 ya,.int .i64 yb]from rfl]
   by_cases hne:m=n
   ·rw[QO (.inr (.inr (by rw[hne])))]
    ((conv=>whnf);repeat' ((first|refine odw ?_|refine nx ?_|refine AD (λ_=>?_) (λ_=>?_))<;>conv=>whnf))
    exact rfl
   ·rw[pA hx hy hne]
    by_cases h1:xa=ya
    ·((conv=>whnf);repeat' ((first|refine odw ?_|refine nx ?_|refine AD (λ_=>?_) (λ_=>?_))<;>conv=>whnf))
     exact Eq.trans (b:=Da.bool true) rfl (by simp[h1])
    by_cases h2:xa=yb
    ·((conv=>whnf);repeat' ((first|refine odw ?_|refine nx ?_|refine AD (λ_=>?_) (λ_=>?_))<;>conv=>whnf))
     exact Eq.trans (b:=Da.bool true) rfl (by simp[h2])
    by_cases h3:xb=ya
    ·((conv=>whnf);repeat' ((first|refine odw ?_|refine nx ?_|refine AD (λ_=>?_) (λ_=>?_))<;>conv=>whnf))
     exact Eq.trans (b:=Da.bool true) rfl (by simp[h3])
    ·((conv=>whnf);repeat' ((first|refine odw ?_|refine nx ?_|refine AD (λ_=>?_) (λ_=>?_))<;>conv=>whnf))
     show Da.plain _=_
     simp[Da.plain,h1,h2,h3]
  ·have e:Fk G.edges b=.tuple [dE ⟨0,0⟩,.bool false]:=by unfold Fk;rw[if_neg hb]
   rw[e,QO (.inr (.inl hb))]
   ((conv=>whnf);repeat' ((first|refine odw ?_|refine nx ?_|refine AD (λ_=>?_) (λ_=>?_))<;>conv=>whnf))
   exact rfl
 ·have e:Fk G.edges a=.tuple [dE ⟨0,0⟩,.bool false]:=by unfold Fk;rw[if_neg ha]
  rw[e,QO (.inl ha)]
  ((conv=>whnf);repeat' ((first|refine odw ?_|refine nx ?_|refine AD (λ_=>?_) (λ_=>?_))<;>conv=>whnf))
  refine AS rfl (KF G b) ?_;rintro y rfl
  by_cases hb:0<=b/\b<G.edges.length
  ·have e:Fk G.edges b=.tuple [dE ((G.edges[b.toNat]?).getD ⟨0,0⟩),.bool true]:=by unfold Fk;rw[if_pos hb]
   rw[e]
   ((conv=>whnf);repeat' ((first|refine odw ?_|refine nx ?_|refine AD (λ_=>?_) (λ_=>?_))<;>conv=>whnf))
   exact rfl
  ·have e:Fk G.edges b=.tuple [dE ⟨0,0⟩,.bool false]:=by unfold Fk;rw[if_neg hb]
   rw[e]
   ((conv=>whnf);repeat' ((first|refine odw ?_|refine nx ?_|refine AD (λ_=>?_) (λ_=>?_))<;>conv=>whnf))
   exact rfl
theorem fT(E:List Edg)(m n:Nat):Iy E m n=tch E m n:=by
 unfold Iy
 have h1:(0:Int)<=m:=by omega
 have h2:(0:Int)<=n:=by omega
 simp[h1,h2]
end Go.Proofs.YtjpmmkodoeipmaaGreatDoor
end
section
namespace Go.Proofs.YtjpmmkodoeipmaaGreatDoor
open Go.Sx Go.RowKit Go.Reg Go.Gr
set_option maxRecDepth 100000
theorem Sk {G:Gr}(_hG:G.Ok)(hn:G.labels.length<=10)(hm:G.edges.length<=30):(Cu G.edges G.labels.length).length<=16384:=by
 have key:∀v,(Cu G.edges v).length<=v*900:=by
  intro v
  induction v with
  |zero=>simp[Cu]
  |
   succ v ih=>
   rw[F3,Ah,Lm]
   have h0:(Pg G.edges v).length<=30:=by
    unfold Pg
    rw[Ac]
    have:=CM (λp:Edg×Nat=>decide (p.1.a=(v:Int)\/p.1.b=(v:Int))) G.edges.zipIdx
    rw[List.length_zipIdx]at this
    omega
   have h1:=Rg (Pg G.edges v).length
   have h2:(Pg G.edges v).length*(Pg G.edges v).length<=30*30:=DO h0 h0
   omega
 have:=key G.labels.length
 omega
def lnG(G:Gr):Gr:=⟨List.replicate G.edges.length 0,Kd G.edges G.edges.length⟩
theorem jE {G:Gr}(hG:G.Ok)(hn:G.labels.length<=10)(hm:G.edges.length<=30):aW G=.tuple [dG (lnG G),.nili]:=by
 unfold aW
 have:=Sk hG hn hm
 rw[if_neg (by omega)]
 rfl
end Go.Proofs.YtjpmmkodoeipmaaGreatDoor
end
section
namespace Go.Gr
def Cw(E:List Edg)(l:List Int):List Edg:=l.filterMap λid:Int=>if 0<=id/\id<E.length then E[id.toNat]? else none
def I2(out:List Int)(x:Int):List Int:=if x∈out then out else out++[x]
def C5(l:List Edg):List Int:=l.foldl (λout e=>I2 (I2 out e.a) e.b) []
theorem KU(l:List Edg)(e:Edg):C5 (l++[e])=I2 (I2 (C5 l) e.a) e.b:=by simp[C5]
theorem QC(out:List Int)(x:Int):(I2 out x).length<=out.length+1:=by unfold I2;split<;>simp
theorem RW(l:List Edg):(C5 l).length<=2*l.length:=by
 suffices h:∀l:List Edg,(C5 l.reverse).length<=2*l.length by have:=h l.reverse;rwa [E0,List.length_reverse]at this
 intro l
 induction l with
 |nil=>simp[C5]
 |
  cons e l ih=>
  rw[FK,KU]
  have h1:=QC (I2 (C5 l.reverse) e.a) e.b
  have h2:=QC (C5 l.reverse) e.a
  simp only[Aw];omega
theorem S5(E:List Edg)(l:List Int)(x:Int):Cw E (l++[x])=Cw E l++(if 0<=x/\x<E.length then E[x.toNat]? else none).toList:=by
 simp only[Cw,List.filterMap_append,List.filterMap_cons,List.filterMap_nil]
 congr 1
theorem sS {E:List Edg} {l:List Int} {m:Nat} {e:Edg}(h:E[m]? =some e):Cw E (l++[(m:Int)])=Cw E l++[e]:=by
 have:=(Ae.1 h).1
 rw[S5,if_pos ⟨by omega,by omega⟩,AY,h];rfl
theorem kS {E:List Edg} {l:List Int} {x:Int}(h:¬(0<=x/\x<E.length)):Cw E (l++[x])=Cw E l:=by
 rw[S5,if_neg h];simp
theorem OQ(E:List Edg)(l:List Int):(Cw E l).length<=l.length:=List.length_filterMap_le _ _
def SH(l:List Int)(x:Int):Int:=match l.findIdx? (λy=>decide (x=y))with|some i=>(i:Int)|none=>-1
theorem ABQ {l:List Int} {x:Int} {i:Nat}(h:l[i]? =some x)(hn:∀y∈l.take i,¬x=y):SH l x=i:=by
 unfold SH
 have:l.findIdx? (λy=>decide (x=y))=some i:=by
  rw[Ba]
  obtain⟨h1,h2⟩:=Ae.1 h
  refine⟨h1,by simp[h2],λj hj=>?_⟩
  have:=hn l[j] (Bd.2 ⟨j,by omega,rfl⟩)
  simp[this]
 rw[this]
theorem WW {l:List Int} {x:Int}(h:¬x∈l):SH l x=-1:=by
 unfold SH
 have:l.findIdx? (λy=>decide (x=y))=none:=by
  rw[Be]
  intro y hy
  have:¬x=y:=λe=>h (e▸hy)
  simp[this]
 rw[this]
theorem bP {l:List Int} {x:Int}(h:x∈l):0<=SH l x:=by
 unfold SH
 split
 ·omega
 ·rename_i hn
  rw[Be]at hn
  have:=hn x h
  simp at this
end Go.Gr
namespace Go.Proofs.YtjpmmkodoeipmaaGreatDoor
open Go.Sx Go.RowKit Go.Reg Go.Gr
set_option maxRecDepth 100000
theorem M8 {O:List Nat} {w:World} {l:List Int} {v:Value}(h:Rep O w (Bn l) v):l.length<=9223372036854775807:=by
 have:=mO h
 rw[Ac]at this
 unfold maxLen at this
 omega
theorem Pure.len1 {f:FuncId} {l:List Int} {xs:List Da} {Q:Da->Prop}(h:l.length<=9223372036854775807->Sx.Pure C1 f (Bn l::xs) Q):Sx.Pure C1 f (Bn l::xs) Q:=
 Sx.Pure.assume (λO w us hr=>by obtain⟨v,vs,rfl,h1,_⟩:=Cn hr;exact M8 h1) h
theorem OL(l:List Int)(x:Int):Pure C1 158 [Bn l,.int .i64 x] (λy=>y=.int .i64 (SH l x)):=by
 refine Pure.len1 λhm=>?_
 have hl:(l.map dI).length=l.length:=Ac _
 refine AW Tryz.func158 Tryz.ntmps158 [] [] ?_
 ((conv=>whnf);repeat' ((first|refine odw ?_|refine nx ?_|refine AD (λ_=>?_) (λ_=>?_))<;>conv=>whnf))
 refine AR (ι:=Nat) (λi=>i<=l.length/\∀y∈l.take i,¬x=y) (λi=>[(8,.d (.int .i64 i)),(7,.d (.int .i64 (l.map dI).length)),(1,.d (.int .i64 x)),(0,.d (Bn l))]) (λ_=>[]) (λi=>l.length-i) 0 (λ_=>rfl) ⟨Am _,by simp⟩ (.refl _ _) ⟨rfl,rfl,rfl,rfl,trivial⟩ trivial ?_
 rintro i ⟨hi,hne⟩
 refine Cd [] [] ?_
 by_cases hlt:i<l.length
 ·have hx:=Ab hlt
  generalize l[i]=y at hx
  have hxd:(l.map dI)[i]? =some (.int .i64 y):=by rw[Ad,hx];rfl
  by_cases he:x=y
  ·subst he
   rw[ABQ hx hne]
   (conv=>whnf)
   (repeat' ((first|refine Aj ?_ ?_|refine AP hxd rfl ?_|refine nx ?_|refine AD (λ_=>?_) (λ_=>?_)|exact AG)<;>conv=>whnf))
   exact rfl
  ·(conv=>whnf)
   (repeat' ((first|refine Aj ?_ ?_|refine AP hxd rfl ?_|refine nx ?_|refine AD (λ_=>?_) (λ_=>?_)|exact AG)<;>conv=>whnf))
   refine⟨i+1,_,_,⟨hlt,?_⟩,.refl _ _,⟨rfl,rfl,rfl,rfl,trivial⟩,trivial,by omega⟩
   intro z hz
   rw[Ay,hx]at hz
   rcases Ag.1 hz with hz|hz
   ·exact hne z hz
   ·simp at hz;subst hz;exact he
 ·have hii:l.take i=l:=Al (by omega)
  rw[hii]at hne
  rw[WW (λh=>hne x h rfl)]
  ((conv=>whnf);repeat' ((first|refine odw ?_|refine nx ?_|refine AD (λ_=>?_) (λ_=>?_))<;>conv=>whnf))
  exact rfl
theorem Ie(l:List Int)(x:Int):Pure C1 152 [Bn l,.int .i64 x] (λy=>y=.bool (decide (x∈l))):=by
 refine AW Tryz.func152 Tryz.ntmps152 [] [] ?_
 ((conv=>whnf);repeat' ((first|refine odw ?_|refine nx ?_|refine AD (λ_=>?_) (λ_=>?_))<;>conv=>whnf))
 refine Af rfl (OL l x) ?_
 by_cases h:x∈l
 ·have:=bP h
  ((conv=>whnf);repeat' ((first|refine odw ?_|refine nx ?_|refine AD (λ_=>?_) (λ_=>?_))<;>conv=>whnf))
  show Da.plain _=_
  simp[Da.plain,h,this]
 ·rw[WW h]
  ((conv=>whnf);repeat' ((first|refine odw ?_|refine nx ?_|refine AD (λ_=>?_) (λ_=>?_))<;>conv=>whnf))
  show Da.plain _=_
  simp[Da.plain,h]
def wV:List (Nat×Plan):=[(6,.leaf [0,0,0,1,0,0,0,1,0] [0,1,2,4,5,6,3,7,8] [0,0,3,7,0,0,48,112,255])]
theorem pT(l r:List Int):Pure C1 11 [Bn l,Bn r] (λy=>y=.bool (decide (l=r))):=by
 refine Pure.len1 λhm=>?_
 have hl:(l.map dI).length=l.length:=Ac _
 have hr:(r.map dI).length=r.length:=Ac _
 refine AW Tryz.func11 Tryz.ntmps11 [] wV ?_
 by_cases hlen:l.length=r.length
 ·((conv=>whnf);repeat' ((first|refine odw ?_|refine nx ?_|refine AD (λ_=>?_) (λ_=>?_))<;>conv=>whnf))
  refine AR (ι:=Nat) (λi=>i<=l.length/\l.take i=r.take i) (λi=>[(5,.d (.int .i64 i)),(1,.d (Bn r)),(0,.d (Bn l))]) (λ_=>[]) (λi=>l.length-i) 0 (λ_=>rfl) ⟨Am _,by simp⟩ (.refl _ _) ⟨rfl,rfl,rfl,trivial⟩ trivial ?_
  rintro i ⟨hi,he⟩
  refine Cd [] wV ?_
  by_cases hlt:i<l.length
  ·have hx:=Ab hlt
   have hy:=Ab (l:=r) (i:=i) (by omega)
   generalize l[i]=x at hx
   generalize r[i]=y at hy
   have hxd:(l.map dI)[i]? =some (.int .i64 x):=by rw[Ad,hx];rfl
   have hyd:(r.map dI)[i]? =some (.int .i64 y):=by rw[Ad,hy];rfl
   by_cases hxy:x=y
   ·subst hxy
    (conv=>whnf)
    (repeat' ((first|refine Aj ?_ ?_|refine AP hxd rfl ?_|refine AP hyd rfl ?_|refine nx ?_|refine AD (λ_=>?_) (λ_=>?_)|exact AG)<;>conv=>whnf))
    refine⟨i+1,_,_,⟨hlt,?_⟩,.refl _ _,⟨rfl,rfl,rfl,trivial⟩,trivial,by omega⟩
    rw[Ay,Ay,hx,hy,he]
   ·rw[decide_eq_false (λh=>by subst h;rw[hx]at hy;cases hy;exact hxy rfl)]
    (conv=>whnf)
    (repeat' ((first|refine Aj ?_ ?_|refine AP hxd rfl ?_|refine AP hyd rfl ?_|refine nx ?_|refine AD (λ_=>?_) (λ_=>?_)|exact AG)<;>conv=>whnf))
    exact rfl
  ·rw[Al (by omega),Al (by omega)]at he
   rw[decide_eq_true he]
   ((conv=>whnf);repeat' ((first|refine odw ?_|refine nx ?_|refine AD (λ_=>?_) (λ_=>?_))<;>conv=>whnf))
   exact rfl
 ·rw[decide_eq_false (λh=>hlen (by rw[h]))]
  ((conv=>whnf);repeat' ((first|refine odw ?_|refine nx ?_|refine AD (λ_=>?_) (λ_=>?_))<;>conv=>whnf))
  exact rfl
theorem Xi(G:Gr)(l:List Int)(hb:l.length<=4294967296):Pure C1 157 [dG G,Bn l] (λy=>y=Fa (Cw G.edges l)):=by
 have hl:(l.map dI).length=l.length:=Ac _
 refine AW Tryz.func157 Tryz.ntmps157 [] [] ?_
 ((conv=>whnf);repeat' ((first|refine odw ?_|refine nx ?_|refine AD (λ_=>?_) (λ_=>?_))<;>conv=>whnf))
 refine AR (ι:=Nat) (λi=>i<=l.length) (λi=>[(12,.d (.int .i64 i)),(11,.d (.int .i64 (l.map dI).length)),(10,.d (Bn l)),(5,.own 300),(0,.d (dG G))]) (λi=>[(300,.slice 90 2 ((Cw G.edges (l.take i)).map dE))]) (λi=>l.length-i) 0 (λ_=>rfl) (Am _)
  (.own 5 300 90 2 rfl rfl (.refl _ _)) ⟨rfl,rfl,rfl,rfl,rfl,trivial⟩ ⟨rfl,trivial⟩ ?_
 intro i hi
 refine Cd [] [] ?_
 by_cases hlt:i<l.length
 ·have hx:=Ab hlt
  generalize l[i]=x at hx
  have hxd:(l.map dI)[i]? =some (.int .i64 x):=by rw[Ad,hx];rfl
  have htk:l.take (i+1)=l.take i++[x]:=by rw[Ay,hx];rfl
  have hel:=OQ G.edges (l.take i)
  rw[AA]at hel
  (conv=>whnf)
  (repeat' ((first|refine Aj ?_ ?_|refine AP hxd rfl ?_|refine nx ?_|refine AD (λ_=>?_) (λ_=>?_)|exact AG)<;>conv=>whnf))
  refine Af rfl (KF G x) ?_
  by_cases h:0<=x/\x<G.edges.length
  ·obtain⟨m,rfl⟩:=A6 h.1
   have hy:=Ab (show m<G.edges.length by omega)
   have e:Fk G.edges (m:Int)=.tuple [dE G.edges[m],.bool true]:=by unfold Fk;rw[if_pos h,AY,hy];rfl
   rw[e]
   have hen:=sS (l:=l.take i) hy
   generalize G.edges[m]=z at hy hen
   have hfin:(Cw G.edges (l.take i)).map dE++[dE z]=(Cw G.edges (l.take (i+1))).map dE:=by rw[htk,hen,A7];rfl
   ((conv=>whnf);repeat' ((first|refine odw ?_|refine nx ?_|refine AD (λ_=>?_) (λ_=>?_))<;>conv=>whnf))
   exact⟨i+1,_,_,hlt,.refl _ _,⟨rfl,rfl,rfl,rfl,rfl,trivial⟩,⟨Bk hfin,trivial⟩,by omega⟩
  ·have e:Fk G.edges x=.tuple [dE ⟨0,0⟩,.bool false]:=by unfold Fk;rw[if_neg h]
   rw[e]
   have hfin:(Cw G.edges (l.take i)).map dE=(Cw G.edges (l.take (i+1))).map dE:=by rw[htk,kS h]
   ((conv=>whnf);repeat' ((first|refine odw ?_|refine nx ?_|refine AD (λ_=>?_) (λ_=>?_))<;>conv=>whnf))
   exact⟨i+1,_,_,hlt,.refl _ _,⟨rfl,rfl,rfl,rfl,rfl,trivial⟩,⟨Bk hfin,trivial⟩,by omega⟩
 ·have hii:l.take i=l:=Al (by omega)
  rw[hii]
  ((conv=>whnf);repeat' ((first|refine odw ?_|refine nx ?_|refine AD (λ_=>?_) (λ_=>?_))<;>conv=>whnf))
  exact rfl
theorem fO(G:Gr)(l:List Int)(hb:l.length<=2147483000):Pure C1 156 [dG G,Bn l] (λy=>y=Bn (C5 (Cw G.edges l))):=by
 refine AW Tryz.func156 Tryz.ntmps156 [] [] ?_
 ((conv=>whnf);repeat' ((first|refine odw ?_|refine nx ?_|refine AD (λ_=>?_) (λ_=>?_))<;>conv=>whnf))
 refine Af rfl (Xi G l (by omega)) ?_
 have hL:=OQ G.edges l
 generalize Cw G.edges l=L at hL⊢
 have hl:(L.map dE).length=L.length:=Ac _
 ((conv=>whnf);repeat' ((first|refine odw ?_|refine nx ?_|refine AD (λ_=>?_) (λ_=>?_))<;>conv=>whnf))
 refine AR (ι:=Nat) (λi=>i<=L.length) (λi=>[(14,.d (.int .i64 i)),(13,.d (.int .i64 (L.map dE).length)),(12,.d (Fa L)),(5,.own 300)]) (λi=>[(300,.slice 3 1 ((C5 (L.take i)).map dI))]) (λi=>L.length-i) 0 (λ_=>rfl) (Am _)
  (.own 5 300 3 1 rfl rfl (.refl _ _)) ⟨rfl,rfl,rfl,rfl,trivial⟩ ⟨rfl,trivial⟩ ?_
 intro i hi
 refine Cd [] [] ?_
 by_cases hlt:i<L.length
 ·have hx:=Ab hlt
  have htk:=λx (h:L[i]? =some x)=>Fc h
  have hvl:=RW (L.take i)
  rw[AA]at hvl
  generalize L[i]=e at hx
  obtain⟨ea,eb⟩:=e
  have hxd:(L.map dE)[i]? =some (.agg [.int .i64 ea,.int .i64 eb]):=by rw[Ad,hx];rfl
  have hst:C5 (L.take (i+1))=I2 (I2 (C5 (L.take i)) ea) eb:=by rw[htk _ hx,KU]
  generalize C5 (L.take i)=out at hst hvl⊢
  (conv=>whnf)
  (repeat' ((first|refine Aj ?_ ?_|refine AP hxd rfl ?_|refine nx ?_|refine AD (λ_=>?_) (λ_=>?_)|exact AG)<;>conv=>whnf))
  refine AR (ι:=Nat) (λk=>k<=2) (λk=>[(24,.d (.int .i64 k)),(23,.d (.int .i64 2)),(22,.d (Bn [ea,eb])),(14,.d (.int .i64 i)),(13,.d (.int .i64 (L.map dE).length)),(12,.d (Fa L)),(5,.own 300)]) (λk=>[(300,.slice 3 1 ((([ea,eb].take k).foldl I2 out).map dI))]) (λk=>2-k) 0 (λ_=>rfl) (Am _)
   (.frz 22 rfl (.refl _ _)) ⟨rfl,rfl,rfl,rfl,rfl,rfl,rfl,trivial⟩ ⟨rfl,trivial⟩ ?_
  intro k hk
  refine Cd [] [] ?_
  have round:∀(x:Int) (o:List Int),[ea,eb][k]? =some x->([ea,eb].take k).foldl I2 out=o->([ea,eb].take (k+1)).foldl I2 out=I2 o x:=λx o h1 h2=>by
   rw[Ay,h1,EF,h2];rfl
  have hol:(([ea,eb].take k).foldl I2 out).length<=out.length+2:=by
   have a1:=QC out ea
   have a2:=QC (I2 out ea) eb
   rcases(show k=0\/k=1\/k=2 by omega)with rfl|rfl|rfl
   ·simp
   ·simp;omega
   ·simp;omega
  by_cases hk2:k<2
  ·obtain⟨x,hxk⟩:∃x,[ea,eb][k]? =some x:=⟨_,Ab hk2⟩
   have hxkd:([ea,eb].map dI)[k]? =some (.int .i64 x):=by rw[Ad,hxk];rfl
   generalize ho:([ea,eb].take k).foldl I2 out=o at hol⊢
   have hr:=round x o hxk ho
   (conv=>whnf)
   (repeat' ((first|refine Aj ?_ ?_|refine AP hxkd rfl ?_|refine Br tab rfl (Ie o x) rfl ?_|refine nx ?_|refine AD (λ_=>?_) (λ_=>?_)|exact AG)<;>conv=>whnf))
   by_cases hin:x∈o
   ·have hr2:o.map dI=(([ea,eb].take (k+1)).foldl I2 out).map dI:=by rw[hr];unfold I2;rw[if_pos hin]
    rw[decide_eq_true hin]
    ((conv=>whnf);repeat' ((first|refine odw ?_|refine nx ?_|refine AD (λ_=>?_) (λ_=>?_))<;>conv=>whnf))
    exact⟨k+1,_,_,hk2,.refl _ _,⟨rfl,rfl,rfl,rfl,rfl,rfl,rfl,trivial⟩,⟨Bk hr2,trivial⟩,by omega⟩
   ·have hr2:o.map dI++[.int .i64 x]=(([ea,eb].take (k+1)).foldl I2 out).map dI:=by rw[hr];unfold I2;rw[if_neg hin,A7];rfl
    rw[decide_eq_false hin]
    ((conv=>whnf);repeat' ((first|refine odw ?_|refine nx ?_|refine AD (λ_=>?_) (λ_=>?_))<;>conv=>whnf))
    exact⟨k+1,_,_,hk2,.refl _ _,⟨rfl,rfl,rfl,rfl,rfl,rfl,rfl,trivial⟩,⟨Bk hr2,trivial⟩,by omega⟩
  ·have:k=2:=by omega
   subst this
   have hr2:(([ea,eb].take 2).foldl I2 out).map dI=(C5 (L.take (i+1))).map dI:=by rw[hst];rfl
   ((conv=>whnf);repeat' ((first|refine odw ?_|refine nx ?_|refine AD (λ_=>?_) (λ_=>?_))<;>conv=>whnf))
   exact⟨i+1,_,_,hlt,.refl _ _,⟨rfl,rfl,rfl,rfl,trivial⟩,⟨Bk hr2,trivial⟩,by omega⟩
 ·have hii:L.take i=L:=Al (by omega)
  rw[hii]
  ((conv=>whnf);repeat' ((first|refine odw ?_|refine nx ?_|refine AD (λ_=>?_) (λ_=>?_))<;>conv=>whnf))
  exact rfl
end Go.Proofs.YtjpmmkodoeipmaaGreatDoor
end
section
namespace Go.Gr
def idV(E:List Edg)(e:Edg):Int:=if e∈E then(Jn E e:Int)else-1
theorem WM:∀(E:List Edg) (e:Edg) (m:Nat),m<=E.length->(∀x∈E.take m,Cy x e<0)->(∀x∈E.drop m,¬Cy x e<0)->Jn E e=m:=by
 intro E e m hm h1 h2
 unfold Jn
 rw[<-Cf m E,List.countP_append]
 have e1:(E.take m).countP (λx=>decide (Cy x e<0))=(E.take m).length:=List.countP_eq_length.2 λx hx=>by simp[h1 x hx]
 have e2:(E.drop m).countP (λx=>decide (Cy x e<0))=0:=List.countP_eq_zero.2 λx hx=>by have:=h2 x hx;simpa using this
 rw[e1,e2,AA];omega
theorem Oq {E:List Edg}(h:CB E) {i j:Nat} {x y:Edg}(hi:E[i]? =some x)(hj:E[j]? =some y)(hij:i<j):Cy x y<0:=by
 obtain⟨h1,rfl⟩:=Ae.1 hi
 obtain⟨h2,rfl⟩:=Ae.1 hj
 exact AO.1 h i j h1 h2 hij
theorem Zg {E:List Edg}(h:CB E) {m:Nat} {y e:Edg}(hm:E[m]? =some y)(he:Cy y e<0):∀x∈E.take (m+1),Cy x e<0:=by
 intro x hx
 obtain⟨i,hi,rfl⟩:=Bd.1 hx
 by_cases h2:i=m
 ·subst h2
  rw[Ab (by omega)]at hm
  rw[Ce hm];exact he
 ·exact GV (Oq h (Ab (by omega)) hm (by omega)) he
theorem RX {E:List Edg}(h:CB E) {m:Nat} {y e:Edg}(hm:E[m]? =some y)(he:¬Cy y e<0):∀x∈E.drop m,¬Cy x e<0:=by
 intro x hx hc
 obtain⟨i,hi,rfl⟩:=KQ.1 hx
 by_cases h2:i=0
 ·subst h2
  rw[Ab (by omega)]at hm
  have:=Ce hm
  simp only[Et]at hc
  rw[this]at hc;exact he hc
 ·exact he (GV (Oq h hm (Ab (by omega)) (by omega)) hc)
theorem ABH {E:List Edg}(h:CB E) {m:Nat} {e:Edg}(h1:E[m]? =some e):Jn E e=m:=by
 have hm:=(Ae.1 h1).1
 refine WM E e m (by omega) (λx hx=>?_) (RX h h1 (dY e))
 obtain⟨i,hi,rfl⟩:=Bd.1 hx
 exact Oq h (Ab (by omega)) h1 (by omega)
theorem ADU(E:List Edg)(e:Edg):Jn E e<=E.length:=List.countP_le_length
theorem yV {E:List Edg}(h:CB E) {e:Edg}(he:e∈E):E[Jn E e]? =some e:=by
 obtain⟨m,hm⟩:=EY.1 he
 rw[ABH h hm];exact hm
theorem ABV {E:List Edg} {e:Edg}(h:¬e∈E):idV E e=-1:=by rw[idV,if_neg h]
theorem ADY {E:List Edg} {e:Edg}:0<=idV E e↔e∈E:=by
 unfold idV
 split
 ·rename_i h;exact⟨λ_=>h,λ_=>by omega⟩
 ·rename_i h;exact⟨λh2=>by omega,λh2=>absurd h2 h⟩
end Go.Gr
namespace Go.Sx
theorem QM {e:Int} {K:Int->Prop}(h:0<=e/\e<=18446744073709551615)(hK:K e):∃n,IntKind.u64.wrap e=n/\K n:=⟨e,IntWalk.u64_in e h,hK⟩
theorem R5(m:Nat) {e:Int} {K:Int->Prop}(h:e=m)(hm:m<=9223372036854775807)(hK:K (m:Int)):∃n,IntKind.i64.wrap e=n/\K n:=by
 subst h;exact⟨_,QL ⟨by omega,by omega⟩,hK⟩
theorem K8(x y:Nat):((x:Int)+(y:Int)).fdiv (2^1)=((x+y)/2:Nat):=by
 rw[show((2:Int)^1)=2 by decide,Int.fdiv_eq_ediv_of_nonneg _ (by omega)];omega
end Go.Sx
namespace Go.Proofs.YtjpmmkodoeipmaaGreatDoor
open Go.Sx Go.RowKit Go.Reg Go.Gr
set_option maxRecDepth 100000
def xM:List (Nat×Plan):=[(5,.leaf [0,0,0,0,1,1,3,0] [0,1,2,3,4,5,6,7] [0,0,0,6,14,0,63,127]),
 (8,.leaf [0,0,0,0,0,0,0,0,0,1,1,3,0,0,0,0] [0,1,2,3,4,5,6,7,8,9,10,11,12,13,14,15] [0,0,0,6,14,30,30,30,222,478,30,2046,4094,8190,4095,32767])]
theorem Ol(F:FuncId)(hF:∀x y:Edg,Pure C1 F [dE x,dE y] (λr=>r=.int .i64 (Cy x y)))(E:List Edg)(hE:CB E)(hl:E.length<=16384)(e:Edg):Pure C1 220 [Fa E,dE e,.func (.func F) [] []] (λy=>y=.tuple [.int .i64 (Jn E e),.bool (decide (e∈E))]):=by
 have hlm:(E.map dE).length=E.length:=Ac _
 refine AW Tryz.func220 Tryz.ntmps220 [] xM ?_
 ((conv=>whnf);repeat' ((first|refine odw ?_|refine nx ?_|refine AD (λ_=>?_) (λ_=>?_))<;>conv=>whnf))
 refine AR (ι:=Nat×Nat) (λx=>x.1<=x.2/\x.2<=E.length/\(∀z∈E.take x.1,Cy z e<0)/\∀z∈E.drop x.2,¬Cy z e<0)
  (λx=>[(10,.d (.int .i64 x.2)),(9,.d (.int .i64 x.1)),(8,.d (.int .i64 (E.map dE).length)),(4,.own 4),(2,.d (.func (.func F) [] [])),(0,.d (Fa E))])
  (λ_=>[(4,.cells 90 (Dat.cellsOf (.d (dE e))))]) (λx=>x.2-x.1) (0,(E.map dE).length) (λ_=>rfl) ⟨Am _,by rw[hlm];exact Ax _,by simp,by rw[hlm];simp⟩ (.refl _ _) ⟨rfl,rfl,rfl,rfl,rfl,rfl,trivial⟩ ⟨rfl,trivial⟩ ?_
 rintro⟨lo,hi⟩ ⟨h1,h2,h3,h4⟩
 dsimp only at h1 h2 h3 h4
 refine Cd [] xM ?_
 by_cases hlt:lo<hi
 ·have hx:=Ab (l:=E) (i:=(lo+hi)/2) (by omega)
  generalize E[(lo+hi)/2]'(by omega)=z at hx
  have hxd:(E.map dE)[(lo+hi)/2]? =some (dE z):=by rw[Ad,hx];rfl
  by_cases hz:Cy z e<0
  ·(conv=>whnf)
   (repeat' ((first|refine Aj ?_ ?_|refine QM (by omega) ?_|refine nx ?_|refine AD (λ_=>?_) (λ_=>?_)|exact AG)<;>conv=>whnf))
   refine OA 1 rfl rfl rfl (by decide) rfl rfl ?_
   (conv=>whnf)
   (repeat' ((first|refine Aj ?_ ?_|refine R5 ((lo+hi)/2) (K8 lo hi) (by omega) ?_|refine AP hxd rfl ?_|refine Af rfl (hF z e) ?_|refine nx ?_|refine AD (λ_=>?_) (λ_=>?_)|exact AG)<;>conv=>whnf))
   exact⟨((lo+hi)/2+1,hi),_,_,⟨by dsimp only;omega,h2,Zg hE hx hz,h4⟩,.refl _ _,⟨rfl,rfl,rfl,rfl,rfl,rfl,trivial⟩,⟨rfl,trivial⟩,by dsimp only;omega⟩
  ·(conv=>whnf)
   (repeat' ((first|refine Aj ?_ ?_|refine QM (by omega) ?_|refine nx ?_|refine AD (λ_=>?_) (λ_=>?_)|exact AG)<;>conv=>whnf))
   refine OA 1 rfl rfl rfl (by decide) rfl rfl ?_
   (conv=>whnf)
   (repeat' ((first|refine Aj ?_ ?_|refine R5 ((lo+hi)/2) (K8 lo hi) (by omega) ?_|refine AP hxd rfl ?_|refine Af rfl (hF z e) ?_|refine nx ?_|refine AD (λ_=>?_) (λ_=>?_)|exact AG)<;>conv=>whnf))
   exact⟨(lo,(lo+hi)/2),_,_,⟨by dsimp only;omega,by dsimp only;omega,h3,RX hE hx hz⟩,.refl _ _,⟨rfl,rfl,rfl,rfl,rfl,rfl,trivial⟩,⟨rfl,trivial⟩,by dsimp only;omega⟩
 ·have hb:Jn E e=lo:=WM E e lo (by omega) h3 (by rw[show lo=hi by omega];exact h4)
  rw[hb]
  by_cases hln:lo<E.length
  ·have hx:=Ab hln
   generalize E[lo]=z at hx
   have hxd:(E.map dE)[lo]? =some (dE z):=by rw[Ad,hx];rfl
   have hm:e∈E↔Cy z e=0:=by
    rw[YA]
    refine⟨λh=>?_,λh=>h▸A8 hx⟩
    have:=yV hE h
    rw[hb,hx]at this
    exact Ce this
   by_cases hz:Cy z e=0
   ·rw[decide_eq_true (hm.2 hz)]
    (conv=>whnf)
    (repeat' ((first|refine Aj ?_ ?_|refine AP hxd rfl ?_|refine Af rfl (hF z e) ?_|refine nx ?_|refine AD (λ_=>?_) (λ_=>?_)|exact AG)<;>conv=>whnf))
    show Da.plain (.tuple [_,.prop _ _])=_
    simp[Da.plain,JQ,hz]
   ·rw[decide_eq_false (λh=>hz (hm.1 h))]
    (conv=>whnf)
    (repeat' ((first|refine Aj ?_ ?_|refine AP hxd rfl ?_|refine Af rfl (hF z e) ?_|refine nx ?_|refine AD (λ_=>?_) (λ_=>?_)|exact AG)<;>conv=>whnf))
    show Da.plain (.tuple [_,.prop _ _])=_
    simp[Da.plain,JQ,hz]
  ·have hm:¬e∈E:=λh=>by
    have:=yV hE h
    rw[hb,AI (by omega)]at this
    cases this
   rw[decide_eq_false hm]
   ((conv=>whnf);repeat' ((first|refine odw ?_|refine nx ?_|refine AD (λ_=>?_) (λ_=>?_))<;>conv=>whnf))
   exact rfl
theorem Q6(E:List Edg)(hE:CB E)(hl:E.length<=16384)(e:Edg):Pure C1 220 [Fa E,dE e,.func (.func 92) [] []] (λy=>y=.tuple [.int .i64 (Jn E e),.bool (decide (e∈E))]):=Ol _ iN E hE hl e
def ADH:List (Nat×Plan):=[(3,.leaf [0,0,0,1,0,0,0,2,2,0,0,0,0,0] [0,1,2,4,5,6,3,7,8,9,10,11,12,13] [0,1,3,7,0,0,48,112,255,511,1023,1023,2047,8191])]
def AFx:List FuncId:=[90,220]
theorem ABU(G:Gr)(hG:G.Ok)(a b:Int):Pure C1 224 [dG G,.int .i64 a,.int .i64 b] (λy=>y=.int .i64 (idV G.edges (turn ⟨a,b⟩))):=by
 refine AW Tryz.func224 Tryz.ntmps224 AFx ADH ?_
 have hc:Pure C1 90 [dE ⟨a,b⟩] (λy=>y=dE (turn ⟨a,b⟩)):=Ih ⟨a,b⟩
 by_cases h:turn ⟨a,b⟩∈G.edges
 ·have hb:=Q6 G.edges hG.sorted hG.esize (turn ⟨a,b⟩)
  rw[decide_eq_true h]at hb
  rw[show idV G.edges (turn ⟨a,b⟩)=Jn G.edges (turn ⟨a,b⟩)from if_pos h]
  (conv=>whnf)
  (repeat' ((first|refine Aj ?_ ?_|refine Af rfl hc ?_|refine Af rfl hb ?_|refine nx ?_|refine AD (λ_=>?_) (λ_=>?_)|exact AG)<;>conv=>whnf))
  exact rfl
 ·have hb:=Q6 G.edges hG.sorted hG.esize (turn ⟨a,b⟩)
  rw[decide_eq_false h]at hb
  rw[ABV h]
  (conv=>whnf)
  (repeat' ((first|refine Aj ?_ ?_|refine Af rfl hc ?_|refine Af rfl hb ?_|refine nx ?_|refine AD (λ_=>?_) (λ_=>?_)|exact AG)<;>conv=>whnf))
  exact rfl
def AFy:List FuncId:=[224]
theorem WX(G:Gr)(hG:G.Ok)(a b:Int):Pure C1 162 [dG G,.int .i64 a,.int .i64 b] (λy=>y=.bool (decide (turn ⟨a,b⟩∈G.edges))):=by
 refine AW Tryz.func162 Tryz.ntmps162 AFy [] ?_
 (conv=>whnf)
 (repeat' ((first|refine Aj ?_ ?_|refine Af rfl (ABU G hG a b) ?_|refine nx ?_|refine AD (λ_=>?_) (λ_=>?_)|exact AG)<;>conv=>whnf))
 show Da.plain _=_
 simp[Da.plain,ADY]
end Go.Proofs.YtjpmmkodoeipmaaGreatDoor
end
section
namespace Go.Gr
def N6:Option Nat->Int
 |some i=>i
 |none=>-1
def UQ(l:List Int)(p:Int->Bool):Int:=N6 (l.findIdx? p)
theorem ABR {l:List Int} {p:Int->Bool} {i:Nat} {x:Int}(h:l[i]? =some x)(hx:p x=true)(hn:∀y∈l.take i,p y=false):UQ l p=i:=by
 unfold UQ
 have:l.findIdx? p=some i:=by
  rw[Ba]
  obtain⟨h1,h2⟩:=Ae.1 h
  refine⟨h1,by rw[h2];exact hx,λj hj=>?_⟩
  have:=hn l[j] (Bd.2 ⟨j,by omega,rfl⟩)
  simp[this]
 rw[this];rfl
theorem sG {l:List Int} {p:Int->Bool}(h:∀y∈l,p y=false):UQ l p=-1:=by
 unfold UQ
 have:l.findIdx? p=none:=by rw[Be];exactλy hy=>by simp[h y hy]
 rw[this];rfl
theorem Qj(l:List Int)(p:Int->Bool):0<=UQ l p↔l.any p=true:=by
 unfold UQ
 cases h:l.findIdx? p with
 |
  none=>
  rw[Be]at h
  simp only[N6]
  refine⟨λh=>by omega,λh2=>?_⟩
  rw[Cp]at h2
  obtain⟨x,hx,hp⟩:=h2
  have:=h x hx
  simp[hp]at this
 |
  some i=>
  rw[Ba]at h
  obtain⟨h1,h2,_⟩:=h
  simp only[N6]
  exact⟨λ_=>Cp.2 ⟨_,Bc h1,h2⟩,λ_=>by omega⟩
end Go.Gr
namespace Go.Sx
theorem AC8(xs:List Da):EX (Ct xs)=some xs:=by
 induction xs with
 |nil=>rfl
 |cons x xs ih=>simp[Ct,EX,ih]
theorem FV(x:Da)(xs:List Da):EX (.d x::Ct xs)=some (x::xs):=by simp[EX,AC8]
end Go.Sx
namespace Go.Proofs.YtjpmmkodoeipmaaGreatDoor
open Go.Sx Go.RowKit Go.Reg Go.Gr
set_option maxRecDepth 100000
theorem JF(l:List Int)(g:FuncId)(cs:List Da)(p:Int->Bool)(hp:∀x∈l,Pure C1 g (.int .i64 x::cs) (λy=>y=.bool (p x))):Pure C1 149 [Bn l,.func (.func g) [] cs] (λy=>y=.int .i64 (UQ l p)):=by
 refine Pure.len1 λhm=>?_
 have hl:(l.map dI).length=l.length:=Ac _
 refine AW Tryz.func149 Tryz.ntmps149 [] [] ?_
 ((conv=>whnf);repeat' ((first|refine odw ?_|refine nx ?_|refine AD (λ_=>?_) (λ_=>?_))<;>conv=>whnf))
 refine AR (ι:=Nat) (λi=>i<=l.length/\∀y∈l.take i,p y=false) (λi=>[(8,.d (.int .i64 i)),(7,.d (.int .i64 (l.map dI).length)),(1,.d (.func (.func g) [] cs)),(0,.d (Bn l))]) (λ_=>[]) (λi=>l.length-i) 0 (λ_=>rfl) ⟨Am _,by simp⟩ (.refl _ _) ⟨rfl,rfl,rfl,rfl,trivial⟩ trivial ?_
 rintro i ⟨hi,hne⟩
 refine Cd [] [] ?_
 by_cases hlt:i<l.length
 ·have hx:=Ab hlt
  generalize l[i]=y at hx
  have hxd:(l.map dI)[i]? =some (.int .i64 y):=by rw[Ad,hx];rfl
  have hpy:=hp y (A8 hx)
  cases hy:p y with
  |
   true=>
   rw[hy]at hpy
   rw[ABR hx hy hne]
   (conv=>whnf)
   (repeat' ((first|refine Aj ?_ ?_|refine AP hxd rfl ?_|refine Af (FV _ _) hpy ?_|refine nx ?_|refine AD (λ_=>?_) (λ_=>?_)|exact AG)<;>conv=>whnf))
   exact rfl
  |
   false=>
   rw[hy]at hpy
   (conv=>whnf)
   (repeat' ((first|refine Aj ?_ ?_|refine AP hxd rfl ?_|refine Af (FV _ _) hpy ?_|refine nx ?_|refine AD (λ_=>?_) (λ_=>?_)|exact AG)<;>conv=>whnf))
   refine⟨i+1,_,_,⟨hlt,?_⟩,.refl _ _,⟨rfl,rfl,rfl,rfl,trivial⟩,trivial,by omega⟩
   intro z hz
   rw[Ay,hx]at hz
   rcases Ag.1 hz with hz|hz
   ·exact hne z hz
   ·simp at hz;subst hz;exact hy
 ·have hii:l.take i=l:=Al (by omega)
  rw[hii]at hne
  rw[sG hne]
  ((conv=>whnf);repeat' ((first|refine odw ?_|refine nx ?_|refine AD (λ_=>?_) (λ_=>?_))<;>conv=>whnf))
  exact rfl
theorem VQ(G:Gr)(v:Int):Pure C1 150 [dG G,.int .i64 v] (λy=>y=.bool (Gg G v)):=by
 refine AW Tryz.func150 Tryz.ntmps150 [] [] ?_
 by_cases h0:0<=v
 ·(conv=>whnf)
  (repeat' ((first|refine Aj ?_ ?_|refine Af rfl (Kz G) ?_|refine nx ?_|refine AD (λ_=>?_) (λ_=>?_)|exact AG)<;>conv=>whnf))
  show Da.plain _=_
  simp[Da.plain,Gg,h0]
 ·have:Gg G v=false:=by simp[Gg,h0]
  rw[this]
  ((conv=>whnf);repeat' ((first|refine odw ?_|refine nx ?_|refine AD (λ_=>?_) (λ_=>?_))<;>conv=>whnf))
  exact rfl
def AEn:List FuncId:=[162]
def I1(E:List Edg)(v:Int)(u:Int):Bool:=decide (turn ⟨u,v⟩∈E)
theorem tX(G:Gr)(hG:G.Ok)(v u:Int):Pure C1 216 [.int .i64 u,.ref (dG G),.ref (.int .i64 v)] (λy=>y=.bool (I1 G.edges v u)):=by
 refine AW Tryz.func216 Tryz.ntmps216 AEn [] ?_
 (conv=>whnf)
 (repeat' ((first|refine Aj ?_ ?_|refine Af rfl (WX G hG u v) ?_|refine nx ?_|refine AD (λ_=>?_) (λ_=>?_)|exact AG)<;>conv=>whnf))
 exact rfl
def AEY:List FuncId:=[149]
def eH(E:List Edg)(l:List Int)(v:Int):Int:=UQ l (I1 E v)
theorem eG(G:Gr)(hG:G.Ok)(l:List Int)(v:Int):Pure C1 151 [dG G,Bn l,.int .i64 v] (λy=>y=.int .i64 (eH G.edges l v)):=by
 refine AW Tryz.func151 Tryz.ntmps151 AEY [] ?_
 (conv=>whnf)
 (repeat' ((first|refine Aj ?_ ?_|refine Br tab rfl (JF l _ [.ref (dG G),.ref (.int .i64 v)] _ (λu _=>tX G hG v u)) rfl ?_|refine nx ?_|refine AD (λ_=>?_) (λ_=>?_)|exact AG)<;>conv=>whnf))
 exact rfl
end Go.Proofs.YtjpmmkodoeipmaaGreatDoor
namespace Go.Proofs.YtjpmmkodoeipmaaGreatDoor
open Go.Sx Go.RowKit Go.Reg Go.Gr
set_option maxRecDepth 100000
def DR(G:Gr)(l:List Int)(i:Nat)(v:Int):Bool:=Gg G v&&(!decide (v∈l.take i)&&(decide (i=0)||(l.take i).any (I1 G.edges v)))
def C6(G:Gr)(l:List Int):Bool:=(List.range l.length).all λi=>match l[i]? with
 |some v=>DR G l i v
 |none=>true
theorem Ge {G:Gr} {l:List Int} {i:Nat} {v:Int}(h:l[i]? =some v)(h2:DR G l i v=false):C6 G l=false:=by
 unfold C6
 rw[List.all_eq_false]
 exact⟨i,by simp[(Ae.1 h).1],by simp[h,h2]⟩
theorem M5 {G:Gr} {l:List Int}(h:∀(i:Nat) (v:Int),l[i]? =some v->DR G l i v=true):C6 G l=true:=by
 unfold C6
 rw[CU]
 intro i _
 cases hx:l[i]? with
 |none=>rfl
 |some v=>exact h i v hx
theorem MB {len i:Nat} {n:Int} {K:Nat->Prop}(hn:n=i)(hi:i<=len)(hK:K i):∃m:Nat,n=m/\m<=len/\K m:=⟨i,hn,hi,hK⟩
theorem Qz(l:List Int)(i:Nat):Bn (l.take i)=.list 1 ((l.map dI).take i):=by unfold Bn;rw[Gn]
def ADc:List FuncId:=[150,152,151]
theorem bA(G:Gr)(hG:G.Ok)(l:List Int):Pure C1 161 [dG G,Bn l] (λy=>y=.bool (C6 G l)):=by
 refine Pure.assume (λO w us hr=>by obtain⟨v,vs,rfl,h1,h2⟩:=Cn hr;obtain⟨v2,vs2,rfl,h3,_⟩:=Cn h2;exact M8 h3) λhm=>?_
 have hl:(l.map dI).length=l.length:=Ac _
 refine AW Tryz.func161 Tryz.ntmps161 ADc [] ?_
 ((conv=>whnf);repeat' ((first|refine odw ?_|refine nx ?_|refine AD (λ_=>?_) (λ_=>?_))<;>conv=>whnf))
 refine AR (ι:=Nat) (λi=>i<=l.length/\∀(j:Nat) (v:Int),j<i->l[j]? =some v->DR G l j v=true) (λi=>[(9,.d (.int .i64 i)),(8,.d (.int .i64 (l.map dI).length)),(7,.d (Bn l)),(1,.d (Bn l)),(0,.d (dG G))]) (λ_=>[]) (λi=>l.length-i) 0 (λ_=>rfl) ⟨Am _,by intro j v h;omega⟩ (.refl _ _) ⟨rfl,rfl,rfl,rfl,rfl,trivial⟩ trivial ?_
 rintro i ⟨hi,hne⟩
 refine Cd ADc [] ?_
 by_cases hlt:i<l.length
 ·have hx:=Ab hlt
  generalize l[i]=y at hx
  have hxd:(l.map dI)[i]? =some (.int .i64 y):=by rw[Ad,hx];rfl
  have h1:=VQ G y
  have h2:=Ie (l.take i) y
  have h3:=eG G hG (l.take i) y
  rw[Qz]at h2 h3
  have hi2:i<=(l.map dI).length:=by omega
  cases hv:Gg G y with
  |
   false=>
   rw[hv]at h1
   rw[Ge hx (by simp[DR,hv])]
   (conv=>whnf)
   (repeat' ((first|refine Aj ?_ ?_|refine AP hxd rfl ?_|refine Af rfl h1 ?_|refine nx ?_|refine AD (λ_=>?_) (λ_=>?_)|exact AG)<;>conv=>whnf))
   exact rfl
  |
   true=>
   rw[hv]at h1
   by_cases hc:y∈l.take i
   ·rw[decide_eq_true hc]at h2
    rw[Ge hx (by simp[DR,hc])]
    (conv=>whnf)
    (repeat' ((first|refine Aj ?_ ?_|refine AP hxd rfl ?_|refine Af rfl h1 ?_|refine MB rfl hi2 ?_|refine Af rfl h2 ?_|refine nx ?_|refine AD (λ_=>?_) (λ_=>?_)|exact AG)<;>conv=>whnf))
    exact rfl
   ·rw[decide_eq_false hc]at h2
    by_cases h0:i=0
    ·have hyes:DR G l i y=true:=by simp[DR,hv,h0]
     (conv=>whnf)
     (repeat' ((first|refine Aj ?_ ?_|refine AP hxd rfl ?_|refine Af rfl h1 ?_|refine MB rfl hi2 ?_|refine Af rfl h2 ?_|refine nx ?_|refine AD (λ_=>?_) (λ_=>?_)|exact AG)<;>conv=>whnf))
     refine⟨i+1,_,_,⟨hlt,?_⟩,.refl _ _,⟨rfl,rfl,rfl,rfl,rfl,trivial⟩,trivial,by omega⟩
     intro j v hj hjv
     by_cases hji:j=i
     ·subst hji;rw[hx]at hjv;cases hjv;exact hyes
     ·exact hne j v (by omega) hjv
    ·by_cases hb:(l.take i).any (I1 G.edges y)=true
     ·have hyes:DR G l i y=true:=by simp only[DR,hv,hb,decide_eq_false hc];simp
      have hbn:¬eH G.edges (l.take i) y<0:=by have:=(Qj (l.take i) (I1 G.edges y)).2 hb;unfold eH;omega
      (conv=>whnf)
      (repeat' ((first|refine Aj ?_ ?_|refine AP hxd rfl ?_|refine Af rfl h1 ?_|refine MB rfl hi2 ?_|refine Af rfl h2 ?_|refine Af rfl h3 ?_|refine nx ?_|refine AD (λ_=>?_) (λ_=>?_)|exact AG)<;>conv=>whnf))
      refine⟨i+1,_,_,⟨hlt,?_⟩,.refl _ _,⟨rfl,rfl,rfl,rfl,rfl,trivial⟩,trivial,by omega⟩
      intro j v hj hjv
      by_cases hji:j=i
      ·subst hji;rw[hx]at hjv;cases hjv;exact hyes
      ·exact hne j v (by omega) hjv
     ·have hno:DR G l i y=false:=by simp only[DR,hv,Pq.2 hb,decide_eq_false h0];simp
      rw[Ge hx hno]
      have hbn:eH G.edges (l.take i) y<0:=by
                                                     have:¬0<=UQ (l.take i) (I1 G.edges y):=λh=>hb ((Qj _ _).1 h)
                                                     unfold eH;omega
      (conv=>whnf)
      (repeat' ((first|refine Aj ?_ ?_|refine AP hxd rfl ?_|refine Af rfl h1 ?_|refine MB rfl hi2 ?_|refine Af rfl h2 ?_|refine Af rfl h3 ?_|refine nx ?_|refine AD (λ_=>?_) (λ_=>?_)|exact AG)<;>conv=>whnf))
      exact rfl
 ·rw[M5 (λj v h=>hne j v (by have:=(Ae.1 h).1;omega) h)]
  ((conv=>whnf);repeat' ((first|refine odw ?_|refine nx ?_|refine AD (λ_=>?_) (λ_=>?_))<;>conv=>whnf))
  exact rfl
end Go.Proofs.YtjpmmkodoeipmaaGreatDoor
end
section
namespace Go.Gr
theorem Uj {l:List Int}(h:l.Pairwise (· < ·)) {i j:Nat} {x y:Int}(hi:l[i]? =some x)(hj:l[j]? =some y)(hij:i<j):x<y:=by
 obtain⟨h1,rfl⟩:=Ae.1 hi
 obtain⟨h2,rfl⟩:=Ae.1 hj
 exact AO.1 h i j h1 h2 hij
theorem Wk {l:List Int}(h:l.Pairwise (· < ·)) {m:Nat} {y e:Int}(hm:l[m]? =some y)(he:y<e):∀x∈l.take (m+1),x<e:=by
 intro x hx
 obtain⟨i,hi,rfl⟩:=Bd.1 hx
 by_cases h2:i=m
 ·subst h2
  rw[Ab (by omega)]at hm
  rw[Ce hm];exact he
 ·have:=Uj h (Ab (by omega)) hm (show i<m by omega)
  omega
theorem Wl {l:List Int}(h:l.Pairwise (· < ·)) {m:Nat} {y e:Int}(hm:l[m]? =some y)(he:¬y<e):∀x∈l.drop m,¬x<e:=by
 intro x hx hc
 obtain⟨i,hi,rfl⟩:=KQ.1 hx
 by_cases h2:i=0
 ·subst h2
  rw[Ab (by omega)]at hm
  have:=Ce hm
  simp only[Et]at hc
  rw[this]at hc;exact he hc
 ·have:=Uj h hm (Ab (i:=m+i) (by omega)) (by omega)
  omega
theorem ZA {l:List Int}(h:l.Pairwise (· < ·)) {m:Nat} {e:Int}(h1:∀x∈l.take m,x<e)(h2:∀x∈l.drop m,¬x<e):e∈l↔l[m]? =some e:=by
 refine⟨λhe=>?_,λh=>A8 h⟩
 obtain⟨i,hi⟩:=EY.1 he
 have hil:=(Ae.1 hi).1
 have hie:=(Ae.1 hi).2
 by_cases h3:i<m
 ·have:=h1 e (hie▸Bd.2 ⟨i,by omega,rfl⟩);omega
 ·by_cases h4:i=m
  ·subst h4;exact hi
  ·have hm:=Ab (l:=l) (i:=m) (by omega)
   have h5:=Uj h hm hi (by omega)
   have:=h2 _ (KQ.2 ⟨0,by omega,rfl⟩)
   simp only[Et]at this
   omega
end Go.Gr
namespace Go.Proofs.YtjpmmkodoeipmaaGreatDoor
open Go.Sx Go.RowKit Go.Reg Go.Gr
set_option maxRecDepth 100000
theorem WS(a b:Int):Pure C1 241 [.int .i64 a,.int .i64 b] (λy=>y=.bool (decide (a<b))):=by
 refine AW Tryz.func241 Tryz.ntmps241 [] [] ?_
 (conv=>whnf)
 (repeat' ((first|refine Aj ?_ ?_|refine Af rfl (PV a) ?_|refine Af rfl (PV b) ?_|refine nx ?_|refine AD (λ_=>?_) (λ_=>?_)|exact AG)<;>conv=>whnf))
 exact rfl
theorem Wc(a:Int):Pure C1 280 [.int .i64 a] (λy=>y=.bool false):=by
 refine AW Tryz.func280 Tryz.ntmps280 [] [] ?_
 ((conv=>whnf);repeat' ((first|refine odw ?_|refine nx ?_|refine AD (λ_=>?_) (λ_=>?_))<;>conv=>whnf))
 show Da.plain (.prop _ _)=_
 simp[Da.plain]
theorem AAv(l:List Int)(hr:l.Pairwise (· < ·))(hl:l.length<=4294967296)(e:Int):Pure C1 252 [Bn l,.int .i64 e] (λy=>∃m:Nat,y=.tuple [.int .i64 m,.bool (decide (e∈l))]):=by
 have hlm:(l.map dI).length=l.length:=Ac _
 refine AW Tryz.func252 Tryz.ntmps252 [] [] ?_
 ((conv=>whnf);repeat' ((first|refine odw ?_|refine nx ?_|refine AD (λ_=>?_) (λ_=>?_))<;>conv=>whnf))
 refine AR (ι:=Nat×Nat) (λx=>x.1<=x.2/\x.2<=l.length/\(∀z∈l.take x.1,z<e)/\∀z∈l.drop x.2,¬z<e)
  (λx=>[(8,.d (.int .i64 x.2)),(7,.d (.int .i64 x.1)),(6,.d (.int .i64 (l.map dI).length)),(1,.d (.int .i64 e)),(0,.d (Bn l))])
  (λ_=>[]) (λx=>x.2-x.1) (0,(l.map dI).length) (λ_=>rfl) ⟨Am _,by rw[hlm];exact Ax _,by simp,by rw[hlm];simp⟩ (.refl _ _) ⟨rfl,rfl,rfl,rfl,rfl,trivial⟩ trivial ?_
 rintro⟨lo,hi⟩ ⟨h1,h2,h3,h4⟩
 dsimp only at h1 h2 h3 h4
 refine Cd [] [] ?_
 by_cases hlt:lo<hi
 ·have hx:=Ab (l:=l) (i:=(lo+hi)/2) (by omega)
  generalize l[(lo+hi)/2]'(by omega)=z at hx
  have hxd:(l.map dI)[(lo+hi)/2]? =some (.int .i64 z):=by rw[Ad,hx];rfl
  have hle:=WS z e
  by_cases hz:z<e
  ·rw[decide_eq_true hz]at hle
   (conv=>whnf)
   (repeat' ((first|refine Aj ?_ ?_|refine QM (by omega) ?_|refine nx ?_|refine AD (λ_=>?_) (λ_=>?_)|exact AG)<;>conv=>whnf))
   refine OA 1 rfl rfl rfl (by decide) rfl rfl ?_
   (conv=>whnf)
   (repeat' ((first|refine Aj ?_ ?_|refine R5 ((lo+hi)/2) (K8 lo hi) (by omega) ?_|refine AP hxd rfl ?_|refine Af rfl hle ?_|refine nx ?_|refine AD (λ_=>?_) (λ_=>?_)|exact AG)<;>conv=>whnf))
   exact⟨((lo+hi)/2+1,hi),_,_,⟨by dsimp only;omega,h2,Wk hr hx hz,h4⟩,.refl _ _,⟨rfl,rfl,rfl,rfl,rfl,trivial⟩,trivial,by dsimp only;omega⟩
  ·rw[decide_eq_false hz]at hle
   (conv=>whnf)
   (repeat' ((first|refine Aj ?_ ?_|refine QM (by omega) ?_|refine nx ?_|refine AD (λ_=>?_) (λ_=>?_)|exact AG)<;>conv=>whnf))
   refine OA 1 rfl rfl rfl (by decide) rfl rfl ?_
   (conv=>whnf)
   (repeat' ((first|refine Aj ?_ ?_|refine R5 ((lo+hi)/2) (K8 lo hi) (by omega) ?_|refine AP hxd rfl ?_|refine Af rfl hle ?_|refine nx ?_|refine AD (λ_=>?_) (λ_=>?_)|exact AG)<;>conv=>whnf))
   exact⟨(lo,(lo+hi)/2),_,_,⟨by dsimp only;omega,by dsimp only;omega,h3,Wl hr hx hz⟩,.refl _ _,⟨rfl,rfl,rfl,rfl,rfl,trivial⟩,trivial,by dsimp only;omega⟩
 ·have hm:=ZA hr h3 (by rw[show lo=hi by omega];exact h4)
  by_cases hln:lo<l.length
  ·have hx:=Ab hln
   generalize l[lo]=z at hx
   have hxd:(l.map dI)[lo]? =some (.int .i64 z):=by rw[Ad,hx];rfl
   have hnz:=Wc z
   by_cases hz:z=e
   ·rw[decide_eq_true (hm.2 (by rw[hx,hz]))]
    (conv=>whnf)
    (repeat' ((first|refine Aj ?_ ?_|refine AP hxd rfl ?_|refine Af rfl hnz ?_|refine nx ?_|refine AD (λ_=>?_) (λ_=>?_)|exact AG)<;>conv=>whnf))
    exact⟨lo,rfl⟩
   ·rw[decide_eq_false (λh=>hz (by have:=hm.1 h;rw[hx]at this;exact Ce this))]
    (conv=>whnf)
    (repeat' ((first|refine Aj ?_ ?_|refine AP hxd rfl ?_|refine Af rfl hnz ?_|refine nx ?_|refine AD (λ_=>?_) (λ_=>?_)|exact AG)<;>conv=>whnf))
    exact⟨lo,rfl⟩
  ·rw[decide_eq_false (λh=>by have:=hm.1 h;rw[AI (by omega)]at this;cases this)]
   ((conv=>whnf);repeat' ((first|refine odw ?_|refine nx ?_|refine AD (λ_=>?_) (λ_=>?_))<;>conv=>whnf))
   exact⟨lo,rfl⟩
theorem pQ(l:List Int)(hr:l.Pairwise (· < ·))(hl:l.length<=4294967296)(e:Int):Pure C1 213 [Bn l,.int .i64 e] (λy=>y=.bool (decide (e∈l))):=by
 refine AW Tryz.func213 Tryz.ntmps213 [] [] ?_
 ((conv=>whnf);repeat' ((first|refine odw ?_|refine nx ?_|refine AD (λ_=>?_) (λ_=>?_))<;>conv=>whnf))
 refine AS rfl (AAv l hr hl e) ?_;rintro y ⟨m,rfl⟩
 ((conv=>whnf);repeat' ((first|refine odw ?_|refine nx ?_|refine AD (λ_=>?_) (λ_=>?_))<;>conv=>whnf))
 exact rfl
def AEZ:List FuncId:=[149]
theorem Js(l:List Int)(g:FuncId)(cs:List Da)(p:Int->Bool)(hp:∀x∈l,Pure C1 g (.int .i64 x::cs) (λy=>y=.bool (p x))):Pure C1 153 [Bn l,.func (.func g) [] cs] (λy=>y=.bool (l.any p)):=by
 refine AW Tryz.func153 Tryz.ntmps153 AEZ [] ?_
 (conv=>whnf)
 (repeat' ((first|refine Aj ?_ ?_|refine Af rfl (JF l g cs p hp) ?_|refine nx ?_|refine AD (λ_=>?_) (λ_=>?_)|exact AG)<;>conv=>whnf))
 show Da.plain _=_
 have:=Qj l p
 cases h:l.any p<;>simp[Da.plain,this,h]
theorem sA(l:List Int)(g:FuncId)(cs:List Da)(p:Int->Bool)(hl:l.length<=4294967296)(hp:∀x∈l,Pure C1 g (.int .i64 x::cs) (λy=>y=.bool (p x))):E5 C1 211 [Bn l,.func (.func g) [] cs] 3 1 (λds=>ds=(l.filter p).map dI):=by
 have hll:(l.map dI).length=l.length:=Ac _
 refine WI Tryz.func211 Tryz.ntmps211 [] [] ?_
 ((conv=>whnf);repeat' ((first|refine odw ?_|refine nx ?_|refine AD (λ_=>?_) (λ_=>?_))<;>conv=>whnf))
 refine AR (ι:=Nat) (λi=>i<=l.length) (λi=>[(10,.d (.int .i64 i)),(9,.d (.int .i64 (l.map dI).length)),(8,.d (Bn l)),(5,.own 300),(1,.d (.func (.func g) [] cs))]) (λi=>[(300,.slice 3 1 (((l.take i).filter p).map dI))])
  (λi=>l.length-i) 0 (λ_=>rfl) (Am _) (.own 5 300 3 1 rfl rfl (.refl _ _)) ⟨rfl,rfl,rfl,rfl,rfl,trivial⟩ ⟨rfl,trivial⟩ ?_
 intro i hi
 refine Cd [] [] ?_
 by_cases hlt:i<l.length
 ·have hx:=Ab hlt
  have hpx:=hp _ (Bc hlt)
  generalize l[i]=x at hx hpx
  have hxd:(l.map dI)[i]? =some (.int .i64 x):=by rw[Ad,hx];rfl
  have hfl:((l.take i).filter p).length<=i:=by
   have:=CM p (l.take i)
   rw[AA]at this;omega
  cases hy:p x with
  |
   true=>
   rw[hy]at hpx
   have hfin:((l.take i).filter p).map dI++[.int .i64 x]=((l.take (i+1)).filter p).map dI:=by
    rw[Ay,hx,AU,Ca,A7]
    simp[hy,dI]
   (conv=>whnf)
   (repeat' ((first|refine Aj ?_ ?_|refine AP hxd rfl ?_|refine Af (FV _ _) hpx ?_|refine nx ?_|refine AD (λ_=>?_) (λ_=>?_)|exact AG)<;>conv=>whnf))
   exact⟨i+1,_,_,hlt,.refl _ _,⟨rfl,rfl,rfl,rfl,rfl,trivial⟩,⟨Bk hfin,trivial⟩,by omega⟩
  |
   false=>
   rw[hy]at hpx
   have hfin:((l.take i).filter p).map dI=((l.take (i+1)).filter p).map dI:=by
    rw[Ay,hx,AU,Ca]
    simp[hy]
   (conv=>whnf)
   (repeat' ((first|refine Aj ?_ ?_|refine AP hxd rfl ?_|refine Af (FV _ _) hpx ?_|refine nx ?_|refine AD (λ_=>?_) (λ_=>?_)|exact AG)<;>conv=>whnf))
   exact⟨i+1,_,_,hlt,.refl _ _,⟨rfl,rfl,rfl,rfl,rfl,trivial⟩,⟨Bk hfin,trivial⟩,by omega⟩
 ·have hii:l.take i=l:=Al (by omega)
  rw[hii]
  ((conv=>whnf);repeat' ((first|refine odw ?_|refine nx ?_|refine AD (λ_=>?_) (λ_=>?_))<;>conv=>whnf))
  exact⟨rfl,rfl,rfl⟩
def ACG:List FuncId:=[213]
theorem tU(b:List Int)(hr:b.Pairwise (· < ·))(hl:b.length<=4294967296)(x:Int):Pure C1 212 [.int .i64 x,.ref (Bn b)] (λy=>y=.bool (!decide (x∈b))):=by
 refine AW Tryz.func212 Tryz.ntmps212 ACG [] ?_
 (conv=>whnf)
 (repeat' ((first|refine Aj ?_ ?_|refine Af rfl (pQ b hr hl x) ?_|refine nx ?_|refine AD (λ_=>?_) (λ_=>?_)|exact AG)<;>conv=>whnf))
 exact rfl
end Go.Proofs.YtjpmmkodoeipmaaGreatDoor
end
