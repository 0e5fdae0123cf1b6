/- Merged: Lnp Vlc Vlg Lng Vli Srq Pgl Pdg Pgw Ins Pte Qip Clp Qif Qig Qih. -/
import Derived.Test.YtjpmmkodoeipmaaGreatDoorrkau
import Derived.Test.YtjpmmkodoeipmaaGreatDoorrkan
import Derived.Test.YtjpmmkodoeipmaaGreatDoorrkat
import Derived.Test.YtjpmmkodoeipmaaGreatDoorrkar
import Derived.Test.YtjpmmkodoeipmaaGreatDoorrkaq
import Derived.Test.YtjpmmkodoeipmaaGreatDoorrkah
import Derived.Shelf.Spec.SlicesInsert
import Derived.Lib.AppendZerosOnto
import Derived.Laws.CopyRow
import Derived.Test.YtjpmmkodoeipmaaGreatDoorrkap
section
namespace Go.Gr
theorem mC(E:List Edg)(i j:Nat):tch E i j=tch E j i:=by
 unfold tch
 cases E[i]? with
 |none=>cases E[j]? <;>rfl
 |
  some x=>
  cases E[j]? with
  |none=>rfl
  |
   some y=>
   rw[CJ]
   simp only[Ap,Dj,decide_eq_true_eq]
   constructor
   ·rintro⟨h,h2⟩;exact⟨λe=>h e.symm,by omega⟩
   ·rintro⟨h,h2⟩;exact⟨λe=>h e.symm,by omega⟩
def IF(G:Gr):Gr:=⟨List.replicate G.edges.length 0,Kd G.edges G.edges.length⟩
theorem ABI {G:Gr}(h:G.Ok)(hm:G.edges.length<=4096)(hp:(Cu G.edges G.labels.length).length<=16384):(IF G).Ok:=by
 have:=Q5 (Qe h hm hp)
 rwa [Sv h]at this
theorem aS {out:List Int} {x y:Int}:y∈I2 out x↔y∈out\/y=x:=by
 unfold I2
 split
 ·rename_i h
  constructor
  ·exact .inl
  ·rintro(h2|rfl)
   ·exact h2
   ·exact h
 ·simp
theorem V5 {out:List Int}(h:out.Nodup)(x:Int):(I2 out x).Nodup:=by
 unfold I2
 split
 ·exact h
 ·rename_i hx
  rw[Dm]
  exact⟨h,by simp,λa ha b hb e=>by simp at hb;subst hb;subst e;exact hx ha⟩
theorem KT(l:List Edg):(C5 l).Nodup/\∀x,x∈C5 l↔∃e∈l,x=e.a\/x=e.b:=by
 suffices h:∀l:List Edg,(C5 l.reverse).Nodup/\∀x,x∈C5 l.reverse↔∃e∈l.reverse,x=e.a\/x=e.b by have:=h l.reverse;rwa [E0]at this
 intro l
 induction l with
 |nil=>simp[C5]
 |
  cons e l ih=>
  rw[FK,KU]
  refine⟨V5 (V5 ih.1 _) _,λx=>?_⟩
  rw[aS,aS,ih.2]
  constructor
  ·rintro((⟨z,hz,h⟩|h)|h)
   ·exact⟨z,by simp at hz⊢;exact .inl hz,h⟩
   ·exact⟨e,by simp,.inl h⟩
   ·exact⟨e,by simp,.inr h⟩
  ·rintro⟨z,hz,h⟩
   rcases Ag.1 hz with hz|hz
   ·exact .inl (.inl ⟨z,hz,h⟩)
   ·simp at hz;subst hz
    rcases h with h|h
    ·exact .inl (.inr h)
    ·exact .inr h
def I9(k:Nat):List Int:=(List.range k).map λv:Nat=>(v:Int)
theorem VS(k:Nat):I9 (k+1)=I9 k++[(k:Int)]:=by simp[I9,D1]
theorem Ke(k:Nat):(I9 k).length=k:=by simp[I9]
theorem Kv {k:Nat} {x:Int}:x∈I9 k↔0<=x/\x<k:=by
 simp only[I9,An,AM]
 constructor
 ·rintro⟨v,h,rfl⟩;omega
 ·rintro⟨h1,h2⟩
  obtain⟨m,rfl⟩:=A6 h1
  exact⟨m,by omega,rfl⟩
end Go.Gr
end
section
namespace Go.Proofs.YtjpmmkodoeipmaaGreatDoor
open Go.Sx Go.RowKit Go.Reg Go.Gr
set_option maxRecDepth 100000
def U1(E:List Edg)(l:List Int)(v:Int):Bool:=decide (l=[])||decide (0<=eH E l v)
def aZ(E:List Edg):Nat->List Int->List Int->Option (List Int)
 |0,l,_=>some l
 |
  n+1,l,left=>match left.findIdx? (U1 E l)with
  |some i=>aZ E n (l++[left[i]?.getD 0]) (left.eraseIdx i)
  |none=>none
def UE(G:Gr)(s:List Int):Option (List Int):=if(DF s).any (λv=>!Gg G v)=true then none else aZ G.edges (DF s).length [] (DF s)
end Go.Proofs.YtjpmmkodoeipmaaGreatDoor
namespace Go.Proofs.YtjpmmkodoeipmaaGreatDoor
open Go.Sx Go.RowKit Go.Reg Go.Gr
set_option maxRecDepth 100000
def FH(G:Gr)(l:List Int)(v:Int):Bool:=match l[0]? with
 |none=>Gg G v
 |
  some y=>match l.findIdx? (I1 G.edges v)with
  |none=>false
  |some i=>!decide (v∈l)&&(!decide (v<y)&&!(l.drop (i+1)).any (λu=>decide (v<u)))
theorem AAj(l:List Int)(i:Nat):Bn (l.drop i)=.list 1 ((l.map dI).drop i):=by unfold Bn;rw[List.map_drop]
theorem kL(v u:Int):Pure C1 154 [.int .i64 u,.ref (.int .i64 v)] (λy=>y=.bool (decide (v<u))):=by
 refine AW Tryz.func154 Tryz.ntmps154 [] [] ?_
 ((conv=>whnf);repeat' ((first|refine odw ?_|refine nx ?_|refine AD (λ_=>?_) (λ_=>?_))<;>conv=>whnf))
 exact rfl
def AD9:List (Nat×Plan):=[(4,.leaf [0,0,0,0,1,2,0,0,1,0,0,1,0,0] [0,1,2,3,4,5,6,7,9,10,8,11,12,13] [0,1,3,7,7,31,63,127,255,255,767,1791,4095,8191])]
def AEX:List FuncId:=[150,151,152,153]
theorem Tp(G:Gr)(hG:G.Ok)(l:List Int)(v:Int):Pure C1 107 [dG G,Bn l,.int .i64 v] (λy=>y=.bool (FH G l v)):=by
 refine Pure.assume (λO w us hr=>by obtain⟨v,vs,rfl,h1,h2⟩:=Cn hr;obtain⟨v2,vs2,rfl,h3,_⟩:=Cn h2;exact M8 h3) λhm=>?_
 have hll:(l.map dI).length=l.length:=Ac _
 refine AW Tryz.func107 Tryz.ntmps107 AEX AD9 ?_
 cases hx:l[0]? with
 |
  none=>
  have hl:l=[]:=by cases l with|nil=>rfl|cons x l=>simp at hx
  subst hl
  (conv=>whnf)
  (repeat' ((first|refine Aj ?_ ?_|refine Af rfl (VQ G v) ?_|refine nx ?_|refine AD (λ_=>?_) (λ_=>?_)|exact AG)<;>conv=>whnf))
  exact rfl
 |
  some y=>
  have hpos:=(Ae.1 hx).1
  have hxd:(l.map dI)[0]? =some (.int .i64 y):=by rw[Ad,hx];rfl
  have hbs:=eG G hG l v
  have hct:=Ie l v
  have he:FH G l v=match l.findIdx? (I1 G.edges v)with
   |none=>false
   |some i=>!decide (v∈l)&&(!decide (v<y)&&!(l.drop (i+1)).any (λu=>decide (v<u))):=by unfold FH;rw[hx]
  rw[he]
  unfold eH UQ at hbs
  cases hf:l.findIdx? (I1 G.edges v)with
  |
   none=>
   rw[hf]at hbs
   simp only[N6]at hbs
   (conv=>whnf)
   (repeat' ((first|refine Aj ?_ ?_|refine Af rfl hbs ?_|refine nx ?_|refine AD (λ_=>?_) (λ_=>?_)|exact AG)<;>conv=>whnf))
   exact rfl
  |
   some i=>
   rw[hf]at hbs
   simp only[N6]at hbs
   have hil:i<l.length:=by
    rw[Ba]at hf
    exact hf.1
   by_cases hc:v∈l
   ·rw[decide_eq_true hc]at hct⊢
    (conv=>whnf)
    (repeat' ((first|refine Aj ?_ ?_|refine Af rfl hbs ?_|refine Af rfl hct ?_|refine nx ?_|refine AD (λ_=>?_) (λ_=>?_)|exact AG)<;>conv=>whnf))
    exact rfl
   ·rw[decide_eq_false hc]at hct⊢
    by_cases hv:v<y
    ·rw[decide_eq_true hv]
     (conv=>whnf)
     (repeat' ((first|refine Aj ?_ ?_|refine Af rfl hbs ?_|refine Af rfl hct ?_|refine AP hxd rfl ?_|refine nx ?_|refine AD (λ_=>?_) (λ_=>?_)|exact AG)<;>conv=>whnf))
     exact rfl
    ·rw[decide_eq_false hv]
     have hcf:=Js (l.drop (i+1)) 154 [.ref (.int .i64 v)] (λu=>decide (v<u)) (λu _=>kL v u)
     rw[AAj]at hcf
     (conv=>whnf)
     (repeat' ((first|refine Aj ?_ ?_|refine Af rfl hbs ?_|refine Af rfl hct ?_|refine AP hxd rfl ?_|refine Zm (i+1) rfl (by omega) ?_|refine Br tab rfl hcf rfl ?_|refine nx ?_|refine AD (λ_=>?_) (λ_=>?_)|exact AG)<;>conv=>whnf))
     exact rfl
def Ev(G:Gr)(l:List Int):Bool:=(List.range l.length).all λi=>match l[i]? with
 |some v=>FH G (l.take i) v
 |none=>true
theorem Xo {G:Gr} {l:List Int} {i:Nat} {v:Int}(h:l[i]? =some v)(h2:FH G (l.take i) v=false):Ev G l=false:=by
 unfold Ev
 rw[List.all_eq_false]
 exact⟨i,by simp[(Ae.1 h).1],by simp[h,h2]⟩
theorem L4 {G:Gr} {l:List Int}(h:∀(i:Nat) (v:Int),l[i]? =some v->FH G (l.take i) v=true):Ev G l=true:=by
 unfold Ev
 rw[CU]
 intro i _
 cases hx:l[i]? with
 |none=>rfl
 |some v=>exact h i v hx
def ADd:List FuncId:=[107]
theorem lF(G:Gr)(hG:G.Ok)(l:List Int):Pure C1 104 [dG G,Bn l] (λy=>y=.bool (Ev G l)):=by
 refine Pure.assume (λO w us hr=>by obtain⟨v,vs,rfl,h1,h2⟩:=Cn hr;obtain⟨v2,vs2,rfl,h3,_⟩:=Cn h2;exact M8 h3) λhm=>?_
 have hl:(l.map dI).length=l.length:=Ac _
 refine AW Tryz.func104 Tryz.ntmps104 ADd [] ?_
 ((conv=>whnf);repeat' ((first|refine odw ?_|refine nx ?_|refine AD (λ_=>?_) (λ_=>?_))<;>conv=>whnf))
 refine AR (ι:=Nat) (λi=>i<=l.length/\∀(j:Nat) (v:Int),j<i->l[j]? =some v->FH G (l.take j) v=true) (λi=>[(9,.d (.int .i64 i)),(8,.d (.int .i64 (l.map dI).length)),(7,.d (Bn l)),(1,.d (Bn l)),(0,.d (dG G))]) (λ_=>[]) (λi=>l.length-i) 0 (λ_=>rfl) ⟨Am _,by intro j v h;omega⟩ (.refl _ _) ⟨rfl,rfl,rfl,rfl,rfl,trivial⟩ trivial ?_
 rintro i ⟨hi,hne⟩
 refine Cd ADd [] ?_
 by_cases hlt:i<l.length
 ·have hx:=Ab hlt
  generalize l[i]=y at hx
  have hxd:(l.map dI)[i]? =some (.int .i64 y):=by rw[Ad,hx];rfl
  have h1:=Tp G hG (l.take i) y
  rw[Qz]at h1
  have hi2:i<=(l.map dI).length:=by omega
  cases hv:FH G (l.take i) y with
  |
   false=>
   rw[hv]at h1
   rw[Xo hx hv]
   (conv=>whnf)
   (repeat' ((first|refine Aj ?_ ?_|refine AP hxd rfl ?_|refine MB rfl hi2 ?_|refine Af rfl h1 ?_|refine nx ?_|refine AD (λ_=>?_) (λ_=>?_)|exact AG)<;>conv=>whnf))
   exact rfl
  |
   true=>
   rw[hv]at h1
   (conv=>whnf)
   (repeat' ((first|refine Aj ?_ ?_|refine AP hxd rfl ?_|refine MB rfl hi2 ?_|refine Af rfl h1 ?_|refine nx ?_|refine AD (λ_=>?_) (λ_=>?_)|exact AG)<;>conv=>whnf))
   refine⟨i+1,_,_,⟨hlt,?_⟩,.refl _ _,⟨rfl,rfl,rfl,rfl,rfl,trivial⟩,trivial,by omega⟩
   intro j v hj hjv
   by_cases hji:j=i
   ·subst hji;rw[hx]at hjv;cases hjv;exact hv
   ·exact hne j v (by omega) hjv
 ·rw[L4 (λj v h=>hne j v (by have:=(Ae.1 h).1;omega) h)]
  ((conv=>whnf);repeat' ((first|refine odw ?_|refine nx ?_|refine AD (λ_=>?_) (λ_=>?_))<;>conv=>whnf))
  exact rfl
end Go.Proofs.YtjpmmkodoeipmaaGreatDoor
namespace Go.Proofs.YtjpmmkodoeipmaaGreatDoor
open Go.Sx Go.RowKit Go.Reg Go.Gr
set_option maxRecDepth 100000
theorem eD(a b:List Int)(ha:a.length<=4294967296)(hr:b.Pairwise (· < ·))(hl:b.length<=4294967296):E5 C1 143 [Bn a,Bn b] 3 1 (λds=>ds=(a.filter λx=>!decide (x∈b)).map dI):=by
 refine WI Tryz.func143 Tryz.ntmps143 [] [] ?_
 (conv=>whnf)
 refine Vv tab 29 rfl rfl (sA a _ [.ref (Bn b)] _ ha (λx _=>tU b hr hl x)) (λds h=>by subst h;exact Lx _) ?_;rintro ds rfl
 ((conv=>whnf);repeat' ((first|refine odw ?_|refine nx ?_|refine AD (λ_=>?_) (λ_=>?_))<;>conv=>whnf))
 exact⟨rfl,rfl,rfl⟩
def Eh(G:Gr)(v:Int):List Int:=if 0<=v/\v<G.labels.length then Ep G.edges v.toNat else[]
theorem Rp {G:Gr}(hG:G.Ok)(v:Int):(Eh G v).length<=32768:=by
 unfold Eh
 split
 ·have:=Vn G.edges v.toNat
  have:=hG.esize
  unfold Hz at*;omega
 ·simp
def Hy(G:Gr)(l:List Int):List Int:=if l=[]then I9 G.labels.length else(DF (l.flatMap (Eh G))).filter λx=>!decide (x∈DF l)
theorem Kt {G:Gr}(hG:G.Ok)(l:List Int):(l.flatMap (Eh G)).length<=l.length*32768:=by
 induction l with
 |nil=>simp
 |
  cons x l ih=>
  have:=Rp hG x
  simp only[BD,Ah,Aw];omega
theorem U3 {G:Gr} {l:List Int} {i:Nat} {x:Int}(h:l[i]? =some x):(l.take (i+1)).flatMap (Eh G)=(l.take i).flatMap (Eh G)++Eh G x:=by
 rw[Ay,h,AU,CO];simp
def Xx:List FuncId:=[142]
theorem rI(G:Gr)(hG:G.Ok)(l:List Int)(hb:l.length<=100000):E5 C1 98 [dG G,Bn l] 3 1 (λds=>ds=(Hy G l).map dI):=by
 have hll:(l.map dI).length=l.length:=Ac _
 have hsz:=hG.size
 refine WI Tryz.func98 Tryz.ntmps98 Xx [] ?_
 unfold Hy
 by_cases hl:l=[]
 ·rw[if_pos hl]
  subst hl
  (conv=>whnf)
  (repeat' ((first|refine Aj ?_ ?_|refine Af rfl (Kz G) ?_|refine nx ?_|refine AD (λ_=>?_) (λ_=>?_)|exact AG)<;>conv=>whnf))
  refine AR (ι:=Nat) (λv=>v<=G.labels.length) (λv=>[(14,.d (.int .i64 v)),(13,.d (.int .i64 G.labels.length)),(5,.own 300)]) (λv=>[(300,.slice 3 1 ((I9 v).map dI))]) (λv=>G.labels.length-v) 0 (λ_=>rfl) (Am _)
   (.own 5 300 3 1 rfl rfl (.refl _ _)) ⟨rfl,rfl,rfl,trivial⟩ ⟨rfl,trivial⟩ ?_
  intro v hv
  refine Cd Xx [] ?_
  by_cases hlt:v<G.labels.length
  ·have hul:=Ke v
   have hfin:(I9 v).map dI++[.int .i64 (v:Int)]=(I9 (v+1)).map dI:=by rw[VS,A7];rfl
   ((conv=>whnf);repeat' ((first|refine odw ?_|refine nx ?_|refine AD (λ_=>?_) (λ_=>?_))<;>conv=>whnf))
   exact⟨v+1,_,_,hlt,.refl _ _,⟨rfl,rfl,rfl,trivial⟩,⟨Bk hfin,trivial⟩,by omega⟩
  ·have:v=G.labels.length:=by omega
   subst this
   ((conv=>whnf);repeat' ((first|refine odw ?_|refine nx ?_|refine AD (λ_=>?_) (λ_=>?_))<;>conv=>whnf))
   exact⟨rfl,rfl,rfl⟩
 ·rw[if_neg hl]
  have hl0:¬((l.map dI).length:Int)=0:=by rw[hll];have:=FZ.2 hl;omega
  ((conv=>whnf);repeat' ((first|refine odw ?_|refine nx ?_|refine AD (λ_=>?_) (λ_=>?_))<;>conv=>whnf))
  refine AR (ι:=Nat) (λi=>i<=l.length) (λi=>[(25,.d (.int .i64 i)),(24,.d (.int .i64 (l.map dI).length)),(23,.d (Bn l)),(5,.own 300),(1,.d (Bn l)),(0,.d (dG G))]) (λi=>[(300,.slice 3 1 (((l.take i).flatMap (Eh G)).map dI))]) (λi=>l.length-i) 0 (λ_=>rfl) (Am _)
   (.own 5 300 3 1 rfl rfl (.refl _ _)) ⟨rfl,rfl,rfl,rfl,rfl,rfl,trivial⟩ ⟨rfl,trivial⟩ ?_
  intro i hi
  refine Cd Xx [] ?_
  have hnl:=Kt hG (l.take i)
  rw[AA]at hnl
  by_cases hlt:i<l.length
  ·have hx:=Ab hlt
   generalize l[i]=x at hx
   have hxd:(l.map dI)[i]? =some (.int .i64 x):=by rw[Ad,hx];rfl
   have hst:=U3 (G:=G) hx
   have hxl:=Rp hG x
   have hnp:=Ro G hG x
   have hml:((l.take i).flatMap (Eh G)).length+(Eh G x).length<=4294967296:=by omega
   unfold Mx at hnp
   unfold Eh at hst hxl hml
   by_cases hr:0<=x/\x<G.labels.length
   ·rw[if_pos hr]at hnp hst hxl hml
    have hfin:((l.take i).flatMap (Eh G)).map dI++(Ep G.edges x.toNat).map dI=((l.take (i+1)).flatMap (Eh G)).map dI:=by
     rw[<-A7];exact congrArg (List.map dI) hst.symm
    (conv=>whnf)
    (repeat' ((first|refine Aj ?_ ?_|refine AP hxd rfl ?_|refine Af rfl hnp ?_|refine nx ?_|refine AD (λ_=>?_) (λ_=>?_)|exact AG)<;>conv=>whnf))
    exact⟨i+1,_,_,hlt,.refl _ _,⟨rfl,rfl,rfl,rfl,rfl,rfl,trivial⟩,⟨Bk hfin,trivial⟩,by omega⟩
   ·rw[if_neg hr]at hnp hst hxl hml
    have hfin:((l.take i).flatMap (Eh G)).map dI++[]=((l.take (i+1)).flatMap (Eh G)).map dI:=by
     rw[Cg]at hst⊢;exact congrArg (List.map dI) hst.symm
    (conv=>whnf)
    (repeat' ((first|refine Aj ?_ ?_|refine AP hxd rfl ?_|refine Af rfl hnp ?_|refine nx ?_|refine AD (λ_=>?_) (λ_=>?_)|exact AG)<;>conv=>whnf))
    exact⟨i+1,_,_,hlt,.refl _ _,⟨rfl,rfl,rfl,rfl,rfl,rfl,trivial⟩,⟨Bk hfin,trivial⟩,by omega⟩
  ·have hii:l.take i=l:=Al (by omega)
   rw[hii]
   have hnl2:=Kt hG l
   have ho1:=PT (l.flatMap (Eh G)) (by omega)
   have ho2:=PT l (by omega)
   have hs1:=HK (l.flatMap (Eh G))
   have hs2:=HK l
   ((conv=>whnf);repeat' ((first|refine odw ?_|refine nx ?_|refine AD (λ_=>?_) (λ_=>?_))<;>conv=>whnf))
   refine Dx 300 rfl ?_
   refine Af rfl ho1 ?_
   (conv=>whnf)
   (repeat' ((first|refine Aj ?_ ?_|refine Af rfl ho2 ?_|refine nx ?_|refine AD (λ_=>?_) (λ_=>?_)|exact AG)<;>conv=>whnf))
   refine EH 29 rfl rfl (eD (DF (l.flatMap (Eh G))) (DF l) (by omega) (BK l).1 (by omega)) ?_;rintro ds rfl
   ((conv=>whnf);repeat' ((first|refine odw ?_|refine nx ?_|refine AD (λ_=>?_) (λ_=>?_))<;>conv=>whnf))
   exact⟨rfl,rfl,rfl⟩
theorem rH(G:Gr)(hG:G.Ok)(l:List Int)(hb:l.length<=100000):Pure C1 98 [dG G,Bn l] (λy=>y=Bn (Hy G l)):=by
 have hll:(l.map dI).length=l.length:=Ac _
 have hsz:=hG.size
 refine AW Tryz.func98 Tryz.ntmps98 Xx [] ?_
 unfold Hy
 by_cases hl:l=[]
 ·rw[if_pos hl]
  subst hl
  (conv=>whnf)
  (repeat' ((first|refine Aj ?_ ?_|refine Af rfl (Kz G) ?_|refine nx ?_|refine AD (λ_=>?_) (λ_=>?_)|exact AG)<;>conv=>whnf))
  refine AR (ι:=Nat) (λv=>v<=G.labels.length) (λv=>[(14,.d (.int .i64 v)),(13,.d (.int .i64 G.labels.length)),(5,.own 300)]) (λv=>[(300,.slice 3 1 ((I9 v).map dI))]) (λv=>G.labels.length-v) 0 (λ_=>rfl) (Am _)
   (.own 5 300 3 1 rfl rfl (.refl _ _)) ⟨rfl,rfl,rfl,trivial⟩ ⟨rfl,trivial⟩ ?_
  intro v hv
  refine Cd Xx [] ?_
  by_cases hlt:v<G.labels.length
  ·have hul:=Ke v
   have hfin:(I9 v).map dI++[.int .i64 (v:Int)]=(I9 (v+1)).map dI:=by rw[VS,A7];rfl
   ((conv=>whnf);repeat' ((first|refine odw ?_|refine nx ?_|refine AD (λ_=>?_) (λ_=>?_))<;>conv=>whnf))
   exact⟨v+1,_,_,hlt,.refl _ _,⟨rfl,rfl,rfl,trivial⟩,⟨Bk hfin,trivial⟩,by omega⟩
  ·have:v=G.labels.length:=by omega
   subst this
   ((conv=>whnf);repeat' ((first|refine odw ?_|refine nx ?_|refine AD (λ_=>?_) (λ_=>?_))<;>conv=>whnf))
   exact rfl
 ·rw[if_neg hl]
  have hl0:¬((l.map dI).length:Int)=0:=by rw[hll];have:=FZ.2 hl;omega
  ((conv=>whnf);repeat' ((first|refine odw ?_|refine nx ?_|refine AD (λ_=>?_) (λ_=>?_))<;>conv=>whnf))
  refine AR (ι:=Nat) (λi=>i<=l.length) (λi=>[(25,.d (.int .i64 i)),(24,.d (.int .i64 (l.map dI).length)),(23,.d (Bn l)),(5,.own 300),(1,.d (Bn l)),(0,.d (dG G))]) (λi=>[(300,.slice 3 1 (((l.take i).flatMap (Eh G)).map dI))]) (λi=>l.length-i) 0 (λ_=>rfl) (Am _)
   (.own 5 300 3 1 rfl rfl (.refl _ _)) ⟨rfl,rfl,rfl,rfl,rfl,rfl,trivial⟩ ⟨rfl,trivial⟩ ?_
  intro i hi
  refine Cd Xx [] ?_
  have hnl:=Kt hG (l.take i)
  rw[AA]at hnl
  by_cases hlt:i<l.length
  ·have hx:=Ab hlt
   generalize l[i]=x at hx
   have hxd:(l.map dI)[i]? =some (.int .i64 x):=by rw[Ad,hx];rfl
   have hst:=U3 (G:=G) hx
   have hxl:=Rp hG x
   have hnp:=Ro G hG x
   have hml:((l.take i).flatMap (Eh G)).length+(Eh G x).length<=4294967296:=by omega
   unfold Mx at hnp
   unfold Eh at hst hxl hml
   by_cases hr:0<=x/\x<G.labels.length
   ·rw[if_pos hr]at hnp hst hxl hml
    have hfin:((l.take i).flatMap (Eh G)).map dI++(Ep G.edges x.toNat).map dI=((l.take (i+1)).flatMap (Eh G)).map dI:=by
     rw[<-A7];exact congrArg (List.map dI) hst.symm
    (conv=>whnf)
    (repeat' ((first|refine Aj ?_ ?_|refine AP hxd rfl ?_|refine Af rfl hnp ?_|refine nx ?_|refine AD (λ_=>?_) (λ_=>?_)|exact AG)<;>conv=>whnf))
    exact⟨i+1,_,_,hlt,.refl _ _,⟨rfl,rfl,rfl,rfl,rfl,rfl,trivial⟩,⟨Bk hfin,trivial⟩,by omega⟩
   ·rw[if_neg hr]at hnp hst hxl hml
    have hfin:((l.take i).flatMap (Eh G)).map dI++[]=((l.take (i+1)).flatMap (Eh G)).map dI:=by
     rw[Cg]at hst⊢;exact congrArg (List.map dI) hst.symm
    (conv=>whnf)
    (repeat' ((first|refine Aj ?_ ?_|refine AP hxd rfl ?_|refine Af rfl hnp ?_|refine nx ?_|refine AD (λ_=>?_) (λ_=>?_)|exact AG)<;>conv=>whnf))
    exact⟨i+1,_,_,hlt,.refl _ _,⟨rfl,rfl,rfl,rfl,rfl,rfl,trivial⟩,⟨Bk hfin,trivial⟩,by omega⟩
  ·have hii:l.take i=l:=Al (by omega)
   rw[hii]
   have hnl2:=Kt hG l
   have ho1:=PT (l.flatMap (Eh G)) (by omega)
   have ho2:=PT l (by omega)
   have hs1:=HK (l.flatMap (Eh G))
   have hs2:=HK l
   ((conv=>whnf);repeat' ((first|refine odw ?_|refine nx ?_|refine AD (λ_=>?_) (λ_=>?_))<;>conv=>whnf))
   refine Dx 300 rfl ?_
   refine Af rfl ho1 ?_
   (conv=>whnf)
   (repeat' ((first|refine Aj ?_ ?_|refine Af rfl ho2 ?_|refine nx ?_|refine AD (λ_=>?_) (λ_=>?_)|exact AG)<;>conv=>whnf))
   refine EH 29 rfl rfl (eD (DF (l.flatMap (Eh G))) (DF l) (by omega) (BK l).1 (by omega)) ?_;rintro ds rfl
   ((conv=>whnf);repeat' ((first|refine odw ?_|refine nx ?_|refine AD (λ_=>?_) (λ_=>?_))<;>conv=>whnf))
   exact rfl
end Go.Proofs.YtjpmmkodoeipmaaGreatDoor
namespace Go.Proofs.YtjpmmkodoeipmaaGreatDoor
open Go.Sx Go.RowKit Go.Reg Go.Gr
set_option maxRecDepth 100000
theorem tk1 {l:List Int} {i:Nat} {x:Int}(h:l[i]? =some x):l.take (i+1)=l.take i++[x]:=by rw[Ay,h];rfl
def ACn(v:Int):Da:=Bn [v]
end Go.Proofs.YtjpmmkodoeipmaaGreatDoor
end
section
namespace Go.Proofs.YtjpmmkodoeipmaaGreatDoor
open Go.Gr
theorem Oj {p:Int->Bool} {l:List Int} {i:Nat}(h:l.findIdx? p=some i):∃(h2:i<l.length),p l[i]=true/\∀j (hj:j<i),p (l[j]'(by omega))=false:=by
 rw[Ba]at h
 obtain⟨h1,h2,h3⟩:=h
 exact⟨h1,h2,λj hj=>by have:=h3 j hj;simpa using this⟩
theorem mZ {l:List Int}(h:l.Nodup) {i j:Nat}(hi:i<l.length)(hj:j<l.length)(e:l[i]=l[j]):i=j:=by
 rcases fJ i j with h1|h1|h1
 ·exact absurd e (AO.1 h i j hi hj h1)
 ·exact h1
 ·exact absurd e.symm (AO.1 h j i hj hi h1)
theorem Yk {l:List Int}(hn:l.Nodup) {i:Nat}(hi:i<l.length) {x:Int}:x∈l.eraseIdx i↔x∈l/\x≠l[i]:=by
 have e:=List.eraseIdx_eq_take_drop_succ l i
 rw[e,Ag,Bd,KQ]
 constructor
 ·rintro(⟨j,hj,rfl⟩|⟨j,hj,rfl⟩)
  ·exact⟨Bc _,λhe=>by have:=mZ hn (by omega) (by omega) he;omega⟩
  ·exact⟨Bc _,λhe=>by have:=mZ hn (by omega) (by omega) he;omega⟩
 ·rintro⟨hx,hne⟩
  obtain⟨j,hj,rfl⟩:=C4.1 hx
  rcases fJ j i with h|h|h
  ·exact .inl ⟨j,by omega,rfl⟩
  ·subst h;exact absurd rfl hne
  ·exact .inr ⟨j- (i+1),by omega,by congr 1;omega⟩
theorem Rm {E:List Edg} {l:List Int} {v:Int}:U1 E l v=true↔l=[]\/l.any (I1 E v)=true:=by
 unfold U1 eH
 rw[Dj,decide_eq_true_eq,decide_eq_true_eq,Qj]
end Go.Proofs.YtjpmmkodoeipmaaGreatDoor
namespace Go.Proofs.YtjpmmkodoeipmaaGreatDoor
open Go.Gr
theorem Rt {G:Gr}(h:G.Ok) {v u:Int}:u∈Eh G v↔(0<=v/\v<G.labels.length)/\0<=u/\u<G.labels.length/\turn ⟨u,v⟩∈G.edges:=by
 unfold Eh
 split
 ·rename_i hv
  obtain⟨m,rfl⟩:=A6 hv.1
  rw[AY,yR h]
  exact⟨λhh=>⟨hv,hh⟩,λhh=>hh.2⟩
 ·rename_i hv
  exact⟨λhh=>(by cases hh),λhh=>absurd hh.1 hv⟩
end Go.Proofs.YtjpmmkodoeipmaaGreatDoor
end
section
namespace Go.Proofs.YtjpmmkodoeipmaaGreatDoor
open Go.Sx Go.RowKit Go.Reg Go.Gr
set_option maxRecDepth 100000
theorem WB {G:Gr}(hG:G.Ok) {a:List Int}(h:a.length<=100000):(Hy G a).length<=4294967296:=by
 unfold Hy
 split
 ·rw[Ke];have:=hG.size;omega
 ·have h1:=CM (λx=>!decide (x∈DF a)) (DF (a.flatMap (Eh G)))
  have h2:=HK (a.flatMap (Eh G))
  have h3:=Kt hG a
  omega
end Go.Proofs.YtjpmmkodoeipmaaGreatDoor
end
section
namespace Go.Reg
open Go Go.RowKit Go.Sort Go.Proofs
abbrev cR(n:Int):List Value:=[Value.int .i64 n]
theorem Sl.zero1 {P:Program} {E:Nat} {w:World} {l:List Int} {g c:Nat}(h:Sl E 1 cR w (.slice (some ⟨g,0,none⟩) l.length c) l) {m:Nat}(hm:m<=l.length):
  ∃w',(storeCells ⟨g,m,none⟩ (List.replicate (l.length-m) (Value.int .i64 0))).run P w=.ok () w'/\Sl E 1 cR w' (.slice (some ⟨g,0,none⟩) l.length c) (l.take m++List.replicate (l.length-m) 0)/\Tch [g] w w':=by
 rcases h.2 with⟨h1,_⟩|⟨g',cap',cur,h1,h0,hg,hc,hmx,hs,ht⟩
 ·cases h1
 ·cases h1
  rw[FA]at hs
  have hsz:l.length<=cur.size:=by omega
  have hr:=run_storeCells_at P g m E (List.replicate (l.length-m) (Value.int .i64 0)) 0 cur w hg (by rw[B8];omega) (by intro v hv;rw[lT hv];rfl)
  rw[Et,B8]at hr
  have hl2:(l.take m++List.replicate (l.length-m) (0:Int)).length=l.length:=by rw[Ah,AA,B8];omega
  have e0:m+(l.length-m)=l.length:=by omega
  rw[e0]at hr
  refine⟨_,hr,?_,⟨rfl,rfl,rfl,by simp[World.setRow],λj hj hn=>by
    have:g≠j:=λe=>hn (by simp[e])
    simp[World.setRow,C9,this]⟩⟩
  unfold Sl
  rw[KB,hl2]
  refine⟨by rw[Ac,hl2];omega,.inr ⟨g,c,(cur.toList.take m++List.replicate (l.length-m) (Value.int .i64 0)++cur.toList.drop l.length).toArray,rfl,Am _,setRow_heap w g cur _ E (0,0) hg,hc,hmx,?_,?_⟩⟩
  ·simp;omega
  ·rw[KB,FA]at ht
   rw[FA]
   have h1:(cur.toList.take m++List.replicate (l.length-m) (Value.int .i64 0)).length=l.length:=by simp;omega
   rw[BW (by omega),Al (by omega),A7,List.map_replicate,Gn,<-ht,HW,LN hm]
end Go.Reg
namespace Go.Sx
open Go Go.RowKit Go.Reg Go.Gr Go.Proofs Go.Proofs.YtjpmmkodoeipmaaGreatDoor
def P1(E:Nat)(l:List Int)(m g c:Nat):Absn where
 R w v F:=v=.slice (if c=m then some ⟨g,0,none⟩else some ⟨g,m,none⟩) (l.length-m) (c-m)/\F=[g]/\m<=l.length/\Sl E 1 cR w (.slice (some ⟨g,0,none⟩) l.length c) l
 keep:=by
  rintro S w w' v F ⟨rfl,rfl,hm,h⟩ t hd
  exact⟨rfl,rfl,hm,h.keep t (λb hb=>by simp[Value.ownBlock]at hb;subst hb;exact hd g (by simp))⟩
 lt:=by
  rintro w v F ⟨rfl,rfl,hm,h⟩ x hx
  simp at hx;subst hx
  exact h.lt rfl
 one:=by rintro w v F ⟨rfl,rfl,hm,h⟩;rfl
section
variable {C:Cx} {T:Hh} {n kd:Nat} {fr:Fr} {σ:Sg} {E i:Nat} {l:List Int} {o:Oper} {K:Fr->Sg->Prop} {B S:List Nat} {w0 w w':World} {η:Nat->Value} {φ:Nat->List Nat} {a:Act}
theorem Models.turnRaw(hM:Models C B S w0 n fr σ η φ a w) {X:List Nat}(t:Tch X w w')(hX:∀b∈X,b∈φ i)(hi:i∈BA σ) {v:Value} {F:List Nat}(hF:∀b∈F,b∈φ i\/w.heap.size<=b) {x:Da}(hx:x.one=true)(hr:∀O w,RepC O w x [η i]) {ow:Own}
  (ho:ow.holds (CE η i v) (BA σ) (B++Ao (CE φ i F) (AX (BM i x) i ow σ)) w' v F):Models C B S w0 n (Fj i x fr) (AX (BM i x) i ow σ) (CE η i v) (CE φ i F) a w':=by
 have hl:=Later.turn (σ:=σ) B t hX hi hF (BM i x) ow
 have hm:=hM.mem.turn t hX hi hF hl (λq hq hne hh=>hh.kill hx hl (λj hj hne=>⟨hj,BU _ _ _ hne⟩) (hr _ _) t (λb hb hm=>hM.mem.disj q.1 (AV hq) i hi hne b hb (hX b hm))) ho
 exact⟨hm,hM.fr.kill hx hl (λj hj hne=>⟨by rw[AZ];exact hj,BU _ _ _ hne⟩) (hr _ _),hM.defers,hM.size⟩
theorem ABA(m:Nat) {t:TypeId} {x lo:Operand} {e ee:TyI}(hC:C.Ok T)(i:Nat)(ho:o.op=.slice t x (some lo) none none)(he:GQ t T=some e)(hk2:e.kd=2)(hee:GQ e.elem T=some ee)(h1:ee.size=1)(hx:ev C.Γ fr x=.own i)(hg:BI i σ=some (.slice E 1 (l.map dI))) {mi:Int}(hlo:ev C.Γ fr lo=.d (.int .i64 mi))(hmi:mi=m)(hm:m<=l.length)(hl:l≠[])(hkd:kd≠5/\kd≠2)(hd:Dh o.dst n=true)
  (hK:∀g c,Gi (Fj i (.raw (.slice (some ⟨g,0,none⟩) l.length c)) fr) λfr=>Ci (AX (BM i (.raw (.slice (some ⟨g,0,none⟩) l.length c))) i (P1 E l m g c).own σ) λσ=>K (CF o.dst (.own i) fr) σ):Bm C n kd o K fr σ:=by
 subst hmi
 refine CC hkd.1 hkd.2 λB S w0 η φ a w hM=>⟨λ_=>by simp[BG,ho],.inl ?_⟩
 obtain⟨css,hs,e2,hrr,hkk⟩:=BV hM.mem hg
 obtain rfl:=Yt hrr
 have hs1:=Tc.1 hs
 rcases hs1.shape with⟨_,rfl⟩|⟨g,cap,e3,hc⟩
 ·exact absurd rfl hl
 have ex:=FO (Bb hM x) hx
 have elo:=EZ (Eg (Bb hM lo) hlo)
 have hr:=Gq (w:=w) (hC.ty he) hk2 (hC.ty hee) (ad:=some ⟨g,0,none⟩) (len:=l.length) (cap:=cap) hc (lo:=some (.int .i64 m)) (hi:=none) (l:=m) (m:=l.length) ⟨_,rfl⟩ rfl hm (Ax _)
 have hi:=AV (AQ hg)
 have hF:∀b∈[g],b∈φ i\/w.heap.size<=b:=λb hb=>.inl (by rw[e2,e3];simpa[Value.ownBlock]using hb)
 have hM':=hM.turnRaw (Tch.refl [] w) (by simp) hi (v:=.slice (if cap=m then some ⟨g,0,none⟩else some ⟨g,m,none⟩) (l.length-m) (cap-m)) (F:=[g]) hF (x:=.raw (.slice (some ⟨g,0,none⟩) l.length cap)) rfl (λO w=>by simp only[RepC];rw[e3]) (ow:=(P1 E l m g cap).own) (show(P1 E l m g cap).R _ _ _ from⟨rfl,rfl,hm,by rw[<-e3];exact hs1⟩)
 have hk:=hK g cap
 rw[Ei,Bw]at hk
 refine⟨_,w,?_,_,_,_,_,hM'.put hd (d:=.own i) ⟨[.slice (if cap=m then some ⟨g,0,none⟩else some ⟨g,m,none⟩) (l.length-m) (cap-m)],by simp only[AH];exact⟨by rw[AZ];exact hi,by rw[Ck]⟩,rfl⟩,hk⟩
 simp only[execOp,ho,CA,V6]
 rw[ex,elo,e3]
 refine CZ ?_
 rw[hr]
 congr 2
 split
 ·rfl
 ·simp[DA,h1]
theorem Tg(hM:Models C B S w0 n fr σ η φ a w) {r:Absn}(hg:BI i σ=some r.own):r.R w (η i) (φ i):=hM.mem.own _ (AQ hg)
theorem xZ {m g c:Nat} {cl:Call} {t:TypeId} {x:Operand} {e:TyI}(hC:C.Ok T)(i:Nat)(ho:o.op=.call cl)(hcl:cl.callee=.builtin .clear)(hxs:cl.args.toList=[x])(hts:cl.argTypes.toList=[t])(he:GQ t T=some e)(hk2:e.kd=2)(hz:∀w,(zeroValue e.elem).run C.P w=.ok (.int .i64 0) w)(hx:ev C.Γ fr x=.own i)(hg:BI i σ=some (P1 E l m g c).own)(hkd:kd≠5/\kd≠2)(hd:Dh o.dst n=true)
  (hK:Ci (AX id i (P1 E (l.take m++List.replicate (l.length-m) 0) m g c).own σ) λσ=>K (CF o.dst (.d (.tuple [])) fr) σ):Bm C n kd o K fr σ:=by
 rw[Bw]at hK
 refine CC hkd.1 hkd.2 λB S w0 η φ a w hM=>⟨λ_=>by simp[BG,ho],.inl ?_⟩
 have ex:=FO (Bb hM x) hx
 obtain⟨ev1,ev2,hm,hs⟩:=Tg hM hg
 have hi:=AV (AQ hg)
 have e1:cl.args=#[x]:=by apply Ey;simpa using hxs
 have e2:cl.argTypes=#[t]:=by apply Ey;simpa using hts
 obtain⟨dd,g1,_,g3,_,_,_,_,g8⟩:=(hC.ty he).desc
 rw[hk2]at g8
 have hdd:∃el,dd=.slice el:=by cases dd<;>simp at g8<;>exact⟨_,rfl⟩
 obtain⟨el,rfl⟩:=hdd
 have hel:=g3 _ rfl
 subst hel
 have hl2:(l.take m++List.replicate (l.length-m) (0:Int)).length=l.length:=by rw[Ah,AA,B8];omega
 have step:∀w1,Tch [g] w w1->Sl E 1 cR w1 (.slice (some ⟨g,0,none⟩) l.length c) (l.take m++List.replicate (l.length-m) 0)->J4 C B S w0 n K (a.put o.dst (.tuple #[])) w1:=λw1 ht hs'=>by
  have hX:∀b∈[g],b∈φ i:=λb hb=>by rw[ev2];exact hb
  have hF:∀b∈φ i,b∈φ i\/w.heap.size<=b:=λb hb=>.inl hb
  have hlt:=Later.turn (σ:=σ) B ht hX hi hF id (P1 E (l.take m++List.replicate (l.length-m) 0) m g c).own
  have hmm:=hM.mem.turnSame (o:=(P1 E (l.take m++List.replicate (l.length-m) 0) m g c).own) ht hX hi hF (show(P1 E (l.take m++List.replicate (l.length-m) 0) m g c).R _ _ _ from⟨by rw[hl2];exact ev1,ev2,by rw[hl2];exact hm,by rw[hl2];exact hs'⟩)
  rw[Pz]at hmm hlt
  have M':Models C B S w0 n fr _ η φ a w1:=⟨hmm,hM.fr.later hlt (λj hj=>⟨by rw[AZ];exact hj,rfl⟩),hM.defers,hM.size⟩
  exact⟨_,_,_,_,M'.put hd (d:=.d (.tuple [])) ⟨[.tuple #[]],by simp[AH,RepC,Aq],rfl⟩,hK⟩
 have exec:∀w1,(Builtin.clear_ #[t] o.type #[η i]).run C.P w=.ok (.tuple #[]) w1->(execOp a.eval o).run C.P w=.ok (.value (.tuple #[])) w1:=λw1 h=>by
  simp only[execOp,ho,resolve,hcl,AK,Bo,AF,invoke,builtin,e1,e2,HX,Ar,Bu,ex]
  rw[h];rfl
 by_cases hml:m=l.length
 ·refine⟨_,w,exec w ?_,step w (Tch.refl _ _) ?_⟩
  ·rw[ev1,hml,Dy]
   generalize (if c=l.length then(some ⟨g,0,none⟩:Option Addr)else some ⟨g,l.length,none⟩)=ad
   cases ad<;>simp[Builtin.clear_,run_underlying g1]
  ·rw[hml,Dy,Ez];simpa using hs
 ·obtain⟨w1,r1,r2,r3⟩:=hs.zero1 (P:=C.P) hm
  refine⟨_,w1,exec w1 ?_,step w1 r3 r2⟩
  have hcm:c≠m:=by
   rcases hs.shape with⟨h,_⟩|⟨_,_,h,h2⟩
   ·cases h
   ·cases h;omega
  obtain⟨k,hk⟩:∃k,l.length-m=k+1:=⟨l.length-m-1,by omega⟩
  have hzc:(Builtin.zeroCells (Value.int .i64 0).cells (k+1)).toList=List.replicate (k+1) (Value.int .i64 0):=by
   apply List.ext_getElem
   ·simp[Builtin.zeroCells,Value.cells]
   ·intro j h1 h2
    simp[Builtin.zeroCells,Value.cells,Nat.mod_one]
  rw[ev1,if_neg hcm,hk]
  rw[hk]at r1
  simp[Builtin.clear_,run_underlying g1,hz,hzc,r1]
theorem ABB {m g c:Nat} {t:TypeId} {x hi:Operand} {e ee:TyI}(hC:C.Ok T)(i:Nat)(ho:o.op=.slice t x none (some hi) none)(he:GQ t T=some e)(hk2:e.kd=2)(hee:GQ e.elem T=some ee) {nn:Nat}(hx:ev C.Γ fr x=.d (.raw (.slice (some ⟨g,0,none⟩) nn c)))(hnn:nn=l.length)(hg:BI i σ=some (P1 E l m g c).own) {mi:Int}(hhi:ev C.Γ fr hi=.d (.int .i64 mi))(hmi:mi=m)(_hc0:0<l.length)(hkd:kd≠5/\kd≠2)(hd:Dh o.dst n=true)
  (hK:Gi (Fj i .undef fr) λfr=>Ci (AX (BM i .undef) i (.slice E 1 ((l.take m).map dI)) σ) λσ=>K (CF o.dst (.own i) fr) σ):Bm C n kd o K fr σ:=by
 subst hmi
 subst hnn
 rw[Ei,Bw]at hK
 refine CC hkd.1 hkd.2 λB S w0 η φ a w hM=>⟨λ_=>by simp[BG,ho],.inl ?_⟩
 obtain⟨ev1,ev2,hm,hs⟩:=Tg hM hg
 have hii:=AV (AQ hg)
 have ex:a.eval x=.slice (some ⟨g,0,none⟩) l.length c:=by
  obtain⟨cs,h1,h2⟩:=Eg (Bb hM x) hx
  simp only[RepC]at h1
  subst h1;exact h2
 have ehi:=EZ (Eg (Bb hM hi) hhi)
 have hlc:l.length<=c:=by
  rcases hs.shape with⟨h,_⟩|⟨_,_,h,h2⟩
  ·cases h
  ·cases h;exact h2
 have hr:=Gq (w:=w) (hC.ty he) hk2 (hC.ty hee) (ad:=some ⟨g,0,none⟩) (len:=l.length) (cap:=c) hlc (lo:=none) (hi:=some (.int .i64 m)) (l:=0) (m:=m) rfl ⟨_,rfl⟩ (Am _) hm
 have hs':Sl E 1 cR w (.slice (some ⟨g,0,none⟩) m c) (l.take m):=by
  have hlm:(l.take m).length=m:=by rw[AA];omega
  rcases hs.2 with⟨h1,_⟩|⟨g',cap',cur,h1,h0,hgg,hc,hmx,hsz,ht⟩
  ·cases h1
  ·cases h1
   unfold Sl
   rw[KB,hlm]
   refine⟨by rw[Ac,hlm];omega,.inr ⟨g,c,cur,rfl,Am _,hgg,by omega,hmx,hsz,?_⟩⟩
   rw[KB]at ht
   rw[Gn,<-ht,HW,FA,FA,LN hm]
 have hF:∀b∈(Value.slice (some ⟨g,0,none⟩) m c).ownBlock.toList,b∈φ i\/w.heap.size<=b:=λb hb=>.inl (by rw[ev2];simpa[Value.ownBlock]using hb)
 have hM':=hM.turnRaw (Tch.refl [] w) (by simp) hii (v:=.slice (some ⟨g,0,none⟩) m c) hF (x:=.undef) rfl (λO w=>RepC.undef_ex _ _ _) (ow:=.slice E 1 ((l.take m).map dI)) ⟨_,Tc.2 hs',rfl,Q1 _,Y7 _⟩
 refine⟨_,w,?_,_,_,_,_,hM'.put hd (d:=.own i) ⟨[.slice (some ⟨g,0,none⟩) m c],by simp only[AH];exact⟨by rw[AZ];exact hii,by rw[Ck]⟩,rfl⟩,hK⟩
 simp only[execOp,ho,CA,V6]
 rw[ex,ehi]
 refine CZ ?_
 rw[hr]
 congr 2
 split
 ·simp
 ·simp[DA]
end
end Go.Sx
namespace Go.Proofs.YtjpmmkodoeipmaaGreatDoor
open Go.Gr
theorem OE {G:Gr} {l:List Int}(h:C6 G l=true) {i:Nat} {v:Int}(hx:l[i]? =some v):DR G l i v=true:=by
 cases hh:DR G l i v with
 |true=>rfl
 |false=>rw[Ge hx hh]at h;cases h
theorem IS {G:Gr} {l:List Int}(h:Ev G l=true) {i:Nat} {v:Int}(hx:l[i]? =some v):FH G (l.take i) v=true:=by
 cases hh:FH G (l.take i) v with
 |true=>rfl
 |false=>rw[Xo hx hh]at h;cases h
theorem Ls {G:Gr} {l:List Int} {i:Nat} {v:Int}:DR G l i v=true↔Gg G v=true/\v∉l.take i/\(i=0\/(l.take i).any (I1 G.edges v)=true):=by
 simp only[DR,Ap,Cm,decide_eq_false_iff_not,Dj,decide_eq_true_eq]
theorem Qd {G:Gr} {l:List Int}(h:C6 G l=true):l.Nodup:=by
 refine AO.2 λi j hi hj hij e=>?_
 have:=(Ls.1 (OE h (Ab hj))).2.1
 exact this (Bd.2 ⟨i,by omega,e⟩)
theorem Tf {E:List Edg} {l:List Int} {v:Int}:l.any (I1 E v)=true↔∃u∈l,turn ⟨u,v⟩∈E:=by
 rw[Cp]
 constructor
 ·rintro⟨u,hu,h⟩;exact⟨u,hu,by simpa[I1]using h⟩
 ·rintro⟨u,hu,h⟩;exact⟨u,hu,by simpa[I1]using h⟩
theorem Sb {l:List Int}(h:l.Nodup):(DF l).length=l.length:=by
 have h1:(DF l).Nodup:=(BK l).1.imp λh=>by omega
 exact((List.perm_ext_iff_of_nodup h1 h).2 (BK l).2).length_eq
theorem OO {G:Gr} {l:List Int} {v y:Int}(h:FH G l v=true)(h0:l[0]? =some y):∃i,l.findIdx? (I1 G.edges v)=some i/\v∉l/\¬v<y/\∀u∈l.drop (i+1),¬v<u:=by
 unfold FH at h
 rw[h0]at h
 simp only at h
 cases hf:l.findIdx? (I1 G.edges v)with
 |none=>rw[hf]at h;cases h
 |
  some i=>
  rw[hf]at h
  simp only[Ap,Cm,decide_eq_false_iff_not,List.any_eq_false,decide_eq_true_eq]at h
  exact⟨i,rfl,h.1,h.2.1,h.2.2⟩
theorem Qr {G:Gr} {l:List Int} {v:Int}(h:FH G l v=true)(hl:l≠[]):v∉l/\∃u∈l,turn ⟨u,v⟩∈G.edges:=by
 obtain⟨y,hy⟩:∃y,l[0]? =some y:=⟨_,Ab (FZ.2 hl)⟩
 obtain⟨i,h1,h2,_⟩:=OO h hy
 obtain⟨h3,h4,_⟩:=Oj h1
 exact⟨h2,_,Bc h3,by simpa[I1]using h4⟩
theorem kK {G:Gr} {l:List Int} {v:Int}(h:FH G l v=true):U1 G.edges l v=true:=by
 by_cases hl:l=[]
 ·exact Rm.2 (.inl hl)
 ·exact Rm.2 (.inr (Tf.2 (Qr h hl).2))
theorem Vk {G:Gr}(hG:G.Ok) {u v:Int}(h:turn ⟨u,v⟩∈G.edges):Gg G u=true/\Gg G v=true:=by
 have hb:=hG.edge _ h
 unfold Gg
 simp only[decide_eq_true_eq]
 unfold turn at hb
 simp only at hb
 omega
theorem cJ {G:Gr}(hG:G.Ok) {l:List Int} {v:Int}(h:FH G l v=true):Gg G v=true:=by
 by_cases hl:l=[]
 ·subst hl;exact h
 ·obtain⟨u,_,hu⟩:=(Qr h hl).2
  exact(Vk hG hu).2
theorem IJ {G:Gr}(hG:G.Ok) {l:List Int}(h:Ev G l=true):C6 G l=true:=by
 refine M5 λi v hx=>Ls.2 ?_
 have hf:=IS h hx
 refine⟨cJ hG hf,?_⟩
 by_cases hi:i=0
 ·subst hi;exact⟨by simp,.inl rfl⟩
 ·have hil:=(Ae.1 hx).1
  have hne:l.take i≠[]:=λe=>by
   have:=congrArg List.length e
   simp only[AA,Bt]at this;omega
  have:=Qr hf hne
  exact⟨this.1,.inr (Tf.2 this.2)⟩
theorem lE {G:Gr} {l:List Int}(h:Ev G l=true)(i:Nat):Ev G (l.take i)=true:=by
 refine L4 λj v hx=>?_
 have hj:j<i:=by have:=(Ae.1 hx).1;rw[AA]at this;omega
 rw[CY,if_pos hj]at hx
 rw[HW,LN (by omega)]
 exact IS h hx
theorem Jt(G:Gr)(l:List Int)(v:Int):Ev G (l++[v])=(Ev G l&&FH G l v):=by
 have hlast:(l++[v])[l.length]? =some v:=by simp
 have htl:(l++[v]).take l.length=l:=by simp
 cases hc:Ev G (l++[v])with
 |
  true=>
  have h1:=lE hc l.length
  have h2:=IS hc hlast
  rw[htl]at h1 h2
  rw[h1,h2];rfl
 |
  false=>
  cases h1:Ev G l with
  |false=>rfl
  |
   true=>
   cases h2:FH G l v with
   |false=>rfl
   |
    true=>
    rw[<-hc]
    refine(L4 λj u hx=>?_).symm▸rfl
    by_cases hj:j<l.length
    ·rw[Bi hj]at hx
     rw[BW (by omega)]
     exact IS h1 hx
    ·have:=(Ae.1 hx).1
     rw[Ah,BE]at this
     have hj:j=l.length:=by omega
     subst hj
     rw[hlast]at hx;cases hx
     rw[htl];exact h2
theorem UF {G:Gr} {l:List Int}(hG:G.Ok)(hc:Ev G l=true):∀(rest pre left:List Int),l=pre++rest->left.Pairwise (· < ·)->(∀x,x∈left↔x∈rest)->aZ G.edges rest.length pre left=some l
 |[],pre,left,e,_,_=>by simp[aZ,e]
 |
  x::rest,pre,left,e,hr,hm=>by
  have hnd:=Qd (IJ hG hc)
  have hxl:l[pre.length]? =some x:=by rw[e];simp
  have htk:l.take pre.length=pre:=by rw[e];simp
  have hfx:=IS hc hxl
  rw[htk]at hfx
  have hlnod:left.Nodup:=hr.imp λh=>by omega
  obtain⟨i,hi,hxi⟩:=C4.1 ((hm x).2 (by simp))
  have hno:∀j (hj:j<i),U1 G.edges pre (left[j]'(by omega))=false:=by
   intro j hj
   have hlt:=AO.1 hr j i (by omega) hi hj
   rw[hxi]at hlt
   have hmem:=(hm _).1 (Bc (l:=left) (n:=j) (by omega))
   generalize left[j]'(by omega)=u at hlt hmem
   rcases Ai.1 hmem with h|h
   ·omega
   obtain⟨q,hq,hqu⟩:=C4.1 h
   have hul:l[pre.length+(q+1)]? =some u:=by
    rw[e,Bv (by omega)]
    simp only[Nat.add_sub_cancel_left,List.getElem?_cons_succ]
    rw[Ab hq,hqu]
   have hll:=(Ae.1 hul).1
   have hfu:=IS hc hul
   have hxt:(l.take (pre.length+(q+1)))[pre.length]? =some x:=by rw[CY,if_pos (by omega)];exact hxl
   cases hp:U1 G.edges pre u with
   |false=>rfl
   |
    true=>
    exfalso
    rcases Rm.1 hp with h0|h0
    ·have hxt0:(l.take (pre.length+(q+1)))[0]? =some x:=by
      have e0:pre.length=0:=by rw[h0];rfl
      rw[e0]at hxt⊢;exact hxt
     obtain⟨_,_,_,h5,_⟩:=OO hfu hxt0
     exact h5 hlt
    ·obtain⟨z,hz,hzu⟩:=Tf.1 h0
     obtain⟨k,hk,hkz⟩:=C4.1 hz
     obtain⟨y,hy⟩:∃y,(l.take (pre.length+(q+1)))[0]? =some y:=⟨_,Ab (by rw[AA];omega)⟩
     obtain⟨i0,g1,_,_,g4⟩:=OO hfu hy
     obtain⟨g5,_,g7⟩:=Oj g1
     have hki:i0<=k:=by
      rcases BL k i0 with h|h
      ·have:=g7 k h
       have hkk:(l.take (pre.length+(q+1)))[k]? =some z:=by
        rw[CY,if_pos (by omega),e,Bi hk,Ab hk,hkz]
       rw[Ab (by rw[AA];omega),AB]at hkk
       rw[hkk]at this
       simp[I1,hzu]at this
      ·exact h
     refine g4 x (KQ.2 ⟨pre.length- (i0+1),by rw[AA];omega,?_⟩) hlt
     have hsome:=Ae.1 hxt
     have hidx:i0+1+(pre.length- (i0+1))=pre.length:=by omega
     simp only[hidx]
     exact hsome.2
  have hf:left.findIdx? (U1 G.edges pre)=some i:=by
   rw[Ba]
   exact⟨hi,by rw[hxi];exact kK hfx,λj hj=>by rw[hno j hj];simp⟩
  simp only[Aw,aZ,hf]
  rw[Ab hi,Gz,hxi]
  refine UF hG hc rest (pre++[x]) (left.eraseIdx i) (by rw[e];simp) (hr.sublist (List.eraseIdx_sublist left i)) λz=>?_
  rw[Yk hlnod hi,hxi,hm]
  constructor
  ·rintro⟨h1,h2⟩
   exact(Ai.1 h1).resolve_left h2
  ·intro h1
   refine⟨A9 _ h1,λe2=>?_⟩
   subst e2
   rw[e]at hnd
   have:=(Dm.1 hnd).2.1
   exact(Cs.1 this).1 h1
theorem Zn {a b:List Int}(h:∀x,x∈a↔x∈b):DF a=DF b:=IC (BK a).1 (BK b).1 λx=>by rw[(BK a).2,(BK b).2,h]
theorem aY {G:Gr} {a b:List Int}(h:∀x,x∈a↔x∈b):UE G a=UE G b:=by unfold UE;rw[Zn h]
theorem WO {G:Gr}(hG:G.Ok) {l:List Int}(hc:Ev G l=true):UE G l=some l:=by
 have hlk:=IJ hG hc
 unfold UE
 rw[if_neg (by
  simp only[Cp,not_exists,not_and,Cm,Bool.not_eq_false]
  intro x hx
  obtain⟨i,hi,rfl⟩:=C4.1 (((BK l).2 x).1 hx)
  exact(Ls.1 (OE hlk (Ab hi))).1)]
 rw[Sb (Qd hlk)]
 exact UF hG hc l [] (DF l) rfl (BK l).1 (BK l).2
theorem aH {G:Gr} {l:List Int}(hl:l≠[]) {x:Int}:x∈Hy G l↔(∃v∈l,x∈Eh G v)/\x∉l:=by
 unfold Hy
 rw[if_neg hl,Az,(BK _).2,AL]
 simp only[Cm,decide_eq_false_iff_not,(BK l).2]
theorem MY(k:Nat):(I9 k).Pairwise (· < ·):=by
 unfold I9
 rw[B7]
 exact List.pairwise_lt_range.imp (by intro a b h;omega)
theorem WA(G:Gr)(l:List Int):(Hy G l).Pairwise (· < ·):=by
 unfold Hy
 split
 ·exact MY _
 ·exact(BK _).1.sublist EI
def K9(G:Gr)(l:List Int):List Int:=if Ev G l=true then(Hy G l).filter (FH G l)else[]
theorem Qm {G:Gr}(hG:G.Ok) {l:List Int} {v:Int}:v∈K9 G l↔Ev G l=true/\FH G l v=true:=by
 unfold K9
 split
 ·rename_i hc
  rw[Az]
  refine⟨λh=>⟨hc,h.2⟩,λh=>⟨?_,h.2⟩⟩
  have hv:=cJ hG h.2
  unfold Gg at hv
  simp only[decide_eq_true_eq]at hv
  by_cases hl:l=[]
  ·unfold Hy
   rw[if_pos hl,Kv]
   exact hv
  ·obtain⟨h1,u,hu,h2⟩:=Qr h.2 hl
   refine(aH hl).2 ⟨⟨u,hu,(Rt hG).2 ⟨?_,hv.1,hv.2,by rw[Ii];exact h2⟩⟩,h1⟩
   have:=(Vk hG h2).1
   unfold Gg at this
   simpa using this
 ·rename_i hc
  simp[hc]
end Go.Proofs.YtjpmmkodoeipmaaGreatDoor
namespace Go.Proofs.YtjpmmkodoeipmaaGreatDoor
open Go.Sx Go.RowKit Go.Reg Go.Gr
set_option maxRecDepth 100000
theorem pE {l:List Int} {i:Nat}(h:i<l.length)(y:Int):(l.set i y).take (i+1)=l.take i++[y]:=by
 rw[Ay,List.take_set_of_le (Ax i),I3 h];rfl
def xL:List (Nat×Plan):=[]
def AAQ:List FuncId:=[149]
theorem ACv:CH Tryz.prog AAQ xL (Tryz.f105.body.getD .skip)=true:=by kernel_rfl
theorem ABt(vs:Array Value)(w:World):(callFunc 105 vs).run C1.P w=.ok (.enter 105 vs) w:=by kernel_rfl
theorem cZ(l:List Int)(g:FuncId)(cs:List Da)(p:Int->Bool)(hl:l.length<=4294967296)(hp:∀x∈l,Pure C1 g (.int .i64 x::cs) (λy=>y=.bool (p x))):
  VA C1 105 3 1 (l.map dI) [.func (.func g) [] cs] (λds=>ds=(l.filter λx=>!p x).map dI):=by
 have hll:(l.map dI).length=l.length:=Ac _
 have hif:=JF l g cs p hp
 refine AAb EO (pl:=xL) (G:=AAQ) Tryz.func105 rfl Tryz.ntmps105 ABt ACv (by simp) ?_
 unfold UQ at hif
 cases hf:l.findIdx? p with
 |
  none=>
  rw[hf]at hif
  simp only[N6]at hif
  have hfl:(l.filter λx=>!p x)=l:=by
   rw[HC]
   intro a ha
   rw[Be]at hf
   simp[hf a ha]
  rw[hfl]
  (conv=>whnf)
  (repeat' ((first|refine Aj ?_ ?_|refine Br tab rfl hif rfl ?_|refine nx ?_|refine AD (λ_=>?_) (λ_=>?_)|exact AG)<;>conv=>whnf))
  exact⟨rfl,rfl,rfl⟩
 |
  some i=>
  rw[hf]at hif
  simp only[N6]at hif
  have hf2:=hf
  rw[Ba]at hf2
  obtain⟨hil,hpi,hfirst⟩:=hf2
  have hti:l.take i=(l.take (i+1)).filter λx=>!p x:=by
   rw[Ay,Ab hil,AU,Ca]
   have h2:[l[i]].filter (λx=>!p x)=[]:=by simp[hpi]
   rw[h2,Cg]
   refine(HC.2 λa ha=>?_).symm
   obtain⟨j,hj,rfl⟩:=Bd.1 ha
   have:=hfirst j (by omega)
   simpa using this
  (conv=>whnf)
  (repeat' ((first|refine Aj ?_ ?_|refine Br tab rfl hif rfl ?_|refine nx ?_|refine AD (λ_=>?_) (λ_=>?_)|exact AG)<;>conv=>whnf))
  refine AR (ι:=Nat×Nat×List Int) (λx=>(x.2.2.length=l.length/\x.1<x.2.1/\x.2.1<=l.length)/\x.2.2.take x.1=((l.take x.2.1).filter λx=>!p x)/\x.2.2.drop x.2.1=l.drop x.2.1)
   (λx=>[(6,.d (.int .i64 (x.2.1:Nat))),(5,.d (.int .i64 (x.1:Nat))),(1,.d (.func (.func g) [] cs)),(0,.own 900)]) (λx=>[(900,.slice 3 1 (x.2.2.map dI))]) (λx=>l.length-x.2.1) (i,i+1,l) (λ_=>rfl)
   ⟨⟨rfl,by simp,by simp only;omega⟩,hti,rfl⟩ (.refl _ _) ⟨rfl,rfl,rfl,rfl,trivial⟩ ⟨rfl,trivial⟩ ?_
  rintro⟨i,j,L⟩ ⟨⟨hLl,hij,hjl⟩,hT,hD⟩
  dsimp only at hLl hij hjl hT hD
  have hLm:(L.map dI).length=L.length:=Ac _
  dsimp only
  refine Cd AAQ [] ?_
  by_cases hj:j<l.length
  ·have hx:=Ab hj
   have hpy:=hp _ (Bc hj)
   generalize l[j]=y at hx hpy
   have hLj:L[j]? =some y:=by
    have:=congrArg (λz=>z[0]?) hD
    simp only[MW,Et]at this
    rw[this];exact hx
   have hxd:(L.map dI)[j]? =some (.int .i64 y):=by rw[Ad,hLj];rfl
   have hD2:L.drop (j+1)=l.drop (j+1):=by
    have:=congrArg (List.drop 1) hD
    rwa [List.drop_drop,List.drop_drop]at this
   cases hpv:p y with
   |
    true=>
    rw[hpv]at hpy
    (conv=>whnf)
    (repeat' ((first|refine Aj ?_ ?_|refine Hd (i:=j) rfl (by omega) ?_|refine Hc hxd ?_|refine Af (FV _ _) hpy ?_|refine nx ?_|refine AD (λ_=>?_) (λ_=>?_)|exact AG)<;>conv=>whnf))
    refine⟨(i,j+1,L),_,_,⟨⟨hLl,by dsimp only;omega,hj⟩,?_,hD2⟩,.refl _ _,⟨rfl,rfl,rfl,rfl,trivial⟩,⟨rfl,trivial⟩,by dsimp only;omega⟩
    dsimp only
    rw[hT,Ay,hx,AU,Ca]
    simp[hpv]
   |
    false=>
    rw[hpv]at hpy
    have hLi:=Ab (l:=L) (i:=i) (by omega)
    generalize L[i]'(by omega)=z at hLi
    have hzd:(L.map dI)[i]? =some (.int .i64 z):=by rw[Ad,hLi];rfl
    have hset:(L.map dI).set i (.int .i64 y)=(L.set i y).map dI:=by rw[Dz];rfl
    (conv=>whnf)
    (repeat' ((first|refine Aj ?_ ?_|refine Hd (i:=j) rfl (by omega) ?_|refine Hc hxd ?_|refine Af (FV _ _) hpy ?_|refine Hd (i:=i) rfl (by omega) ?_|refine Hc hzd ?_|refine nx ?_|refine AD (λ_=>?_) (λ_=>?_)|exact AG)<;>conv=>whnf))
    refine⟨(i+1,j+1,L.set i y),_,_,⟨⟨by rw[Di];exact hLl,by dsimp only;omega,hj⟩,?_,?_⟩,.refl _ _,⟨rfl,rfl,rfl,rfl,trivial⟩,⟨Bk hset,trivial⟩,by dsimp only;omega⟩
    ·dsimp only
     rw[pE (by omega),hT,Ay,hx,AU,Ca]
     simp[hpv]
    ·dsimp only
     rw[List.drop_set_of_lt (by omega)];exact hD2
  ·have hje:j=l.length:=by omega
   subst hje
   rw[Ez]at hT
   have hL0:L≠[]:=λe=>by rw[e]at hLl;simp at hLl;omega
   have hhead:((L.take i++List.replicate (L.length-i) 0).take i).map dI=(l.filter λx=>!p x).map dI:=by
    rw[BW (by rw[AA];omega),HW,Nat.min_self,hT]
   have hL2:(L.take i++List.replicate (L.length-i) (0:Int)).length=L.length:=by rw[Ah,AA,B8];omega
   ((conv=>whnf);repeat' ((first|refine odw ?_|refine nx ?_|refine AD (λ_=>?_) (λ_=>?_))<;>conv=>whnf))
   refine ABA i EO 900 rfl rfl rfl rfl rfl rfl rfl rfl rfl (by omega) hL0 ⟨by decide,by decide⟩ rfl λg c=>?_
   ((conv=>whnf);repeat' ((first|refine odw ?_|refine nx ?_|refine AD (λ_=>?_) (λ_=>?_))<;>conv=>whnf))
   refine xZ EO 900 rfl rfl rfl rfl rfl rfl (λw=>by kernel_rfl) rfl rfl (by decide) rfl ?_
   ((conv=>whnf);repeat' ((first|refine odw ?_|refine nx ?_|refine AD (λ_=>?_) (λ_=>?_))<;>conv=>whnf))
   refine ABB EO 900 rfl rfl rfl rfl rfl hL2.symm rfl rfl rfl (by omega) (by decide) rfl ?_
   rw[hhead]
   ((conv=>whnf);repeat' ((first|refine odw ?_|refine nx ?_|refine AD (λ_=>?_) (λ_=>?_))<;>conv=>whnf))
   exact⟨rfl,rfl,rfl⟩
def AEW:List FuncId:=[107]
theorem kH(G:Gr)(hG:G.Ok)(l:List Int)(v:Int):Pure C1 106 [.int .i64 v,.ref (dG G),.ref (Bn l)] (λy=>y=.bool (!FH G l v)):=by
 have h1:=Tp G hG l v
 refine AW Tryz.func106 Tryz.ntmps106 AEW [] ?_
 (conv=>whnf)
 (repeat' ((first|refine Aj ?_ ?_|refine Af rfl h1 ?_|refine nx ?_|refine AD (λ_=>?_) (λ_=>?_)|exact AG)<;>conv=>whnf))
 exact rfl
def AEV:List FuncId:=[104]
theorem sK(G:Gr)(hG:G.Ok)(l:List Int)(hb:l.length<=100000):Pure C1 57 [dG G,Bn l] (λy=>y=Bn (K9 G l)\/y=.nils/\K9 G l=[]):=by
 have hcn:=lF G hG l
 have hnl:=WB hG hb
 have hdl:=cZ (Hy G l) 106 [.ref (dG G),.ref (Bn l)] (λv=>!FH G l v) hnl (λv _=>kH G hG l v)
 refine AW Tryz.func57 Tryz.ntmps57 AEV [] ?_
 unfold K9
 cases hc:Ev G l with
 |
  false=>
  rw[hc]at hcn
  rw[if_neg (by decide)]
  (conv=>whnf)
  (repeat' ((first|refine Aj ?_ ?_|refine Af rfl hcn ?_|refine nx ?_|refine AD (λ_=>?_) (λ_=>?_)|exact AG)<;>conv=>whnf))
  exact .inr ⟨rfl,rfl⟩
 |
  true=>
  rw[hc]at hcn
  rw[if_pos rfl]
  have he:((Hy G l).filter λx=>!!FH G l x)=(Hy G l).filter (FH G l):=by simp only[Bool.not_not]
  rw[he]at hdl
  (conv=>whnf)
  (repeat' ((first|refine Aj ?_ ?_|refine Af rfl hcn ?_|refine nx ?_|refine AD (λ_=>?_) (λ_=>?_)|exact AG)<;>conv=>whnf))
  refine EH 300 rfl rfl (rI G hG l hb) ?_;rintro ds rfl
  (conv=>whnf)
  refine Xp tab rfl rfl hdl (λds h=>by subst h;exact Lx _) ?_;rintro ds rfl
  ((conv=>whnf);repeat' ((first|refine odw ?_|refine nx ?_|refine AD (λ_=>?_) (λ_=>?_))<;>conv=>whnf))
  exact .inl rfl
end Go.Proofs.YtjpmmkodoeipmaaGreatDoor
end
section
namespace Go.Gr
open Go.Proofs.YtjpmmkodoeipmaaGreatDoor
structure Opp where
 kind:Int
 n:Int
def HJ(k:Int):Bool:=!(decide (k=1)||decide (k=6)||decide (k=8))
def Fl(o:Opp):Int:=if o.kind<1\/8<o.kind then 1 else if o.n<0\/255<o.n\/0<o.n/\HJ o.kind=false then 3 else 0
def GK(E:List Edg)(a b:Int):Bool:=decide (turn ⟨a,b⟩∈E)
def Yp(p:Pt)(a:Nat):Int:=(p.labels[a]?).getD 0
def oX(p:Pt):Bool:=p.edges.any λe=>(List.range p.labels.length).any λv=>GK p.edges e.a v&&GK p.edges e.b v
def tD(p:Pt)(n:Int):Bool:=(List.range p.labels.length).all λv=>decide ((SK p.edges v:Int)<=n)
def Dk(o:Opp)(p:Pt):Bool:=
 if o.kind=1 then decide (p.edges.length=p.labels.length*(p.labels.length-1)/2)
 else if o.kind=2 then !p.labels.any λl=>decide (o.n<l)
 else if o.kind=3 then tD p o.n
 else if o.kind=4 then decide ((p.labels.length:Int)<=o.n)
 else if o.kind=5 then decide ((p.edges.length:Int)<=o.n)
 else if o.kind=6 then decide ((DF p.labels).length=p.labels.length)
 else if o.kind=7 then !p.labels.any λl=>decide (l≠o.n)
 else !oX p
def AEe(p:Pt)(a:Nat):Nat:=(List.range p.labels.length).countP λb=>decide (a≠b)&&GK p.edges a b
def XL(o:Opp)(p:Pt)(a b:Nat):Bool:=decide (a=b)||(!(decide (o.kind=1)&&!GK p.edges a b)&&!(decide (o.kind=6)&&decide (Yp p a=Yp p b))&&(List.range p.labels.length).all λc=>!(decide (o.kind=8)&&GK p.edges a b&&GK p.edges a c&&GK p.edges b c))
def XM(o:Opp)(p:Pt)(a:Nat):Bool:=!(decide (o.kind=2)&&decide (o.n<Yp p a))&&!(decide (o.kind=7)&&decide (Yp p a≠o.n))&&((List.range p.labels.length).all (XL o p a))&&!(decide (o.kind=3)&&decide (o.n<(AEe p a:Int)))
def Ul(o:Opp)(p:Pt):Bool:=!(decide (o.kind=4)&&decide (o.n<(p.labels.length:Int)))&&!(decide (o.kind=5)&&decide (o.n<(p.edges.length:Int)))&&(List.range p.labels.length).all (XM o p)
def prs:Nat->List Edg
 |0=>[]
 |n+1=>prs n++(List.range n).map λa=>⟨(a:Int),(n:Int)⟩
theorem Nl:∀{n:Nat} {e:Edg},e∈prs n↔0<=e.a/\e.a<e.b/\e.b<(n:Int)
 |0,e=>by simp[prs];omega
 |
  n+1,e=>by
  unfold prs
  rw[Ag,Nl,An]
  constructor
  ·rintro(h|⟨a,ha,rfl⟩)
   ·omega
   ·have:=AM.1 ha;simp only;omega
  ·rintro⟨h1,h2,h3⟩
   by_cases h:e.b<(n:Int)
   ·exact .inl ⟨h1,h2,h⟩
   ·obtain⟨a,b⟩:=e
    simp only at h1 h2 h3 h
    refine .inr ⟨a.toNat,AM.2 (by omega),?_⟩
    rw[HD h1,show b=(n:Int)by omega]
theorem Wr:∀n,(prs n).Nodup
 |0=>List.nodup_nil
 |
  n+1=>by
  unfold prs
  rw[Dm]
  refine⟨Wr n,?_,λx hx y hy e=>?_⟩
  ·unfold List.Nodup
   rw[B7]
   exact List.nodup_range.imp λhne e=>hne (by have:=(Edg.mk.inj e).1;omega)
  ·subst e
   have h1:=Nl.1 hx
   obtain⟨a,_,rfl⟩:=An.1 hy
   simp only at h1;omega
theorem XP:∀n,(prs n).length=n*(n-1)/2
 |0=>rfl
 |
  n+1=>by
  unfold prs
  rw[Ah,XP n,Ac,D9,Nat.add_sub_cancel]
  have h:(n+1)*n=n*(n-1)+n*2:=by
   cases n with
   |zero=>rfl
   |succ n=>rw[Nat.add_sub_cancel,<-Nat.mul_add,AAC]
  rw[h,Nat.add_mul_div_right _ _ (by decide)]
section
variable {n:Nat} {p:Pt}
theorem lD(hp:PtOk n p):p.edges.length=n*(n-1)/2↔∀a b:Nat,a<n->b<n->a≠b->GK p.edges a b=true:=by
 rw[<-XP]
 have hsub:∀e∈p.edges,e∈prs n:=λe he=>Nl.2 (hp.edge e he)
 constructor
 ·intro h a b ha hb hne
  have hperm:=EN hp.strict.nodup hsub (by omega)
  unfold GK
  refine decide_eq_true (hperm.mem_iff.2 (Nl.2 ?_))
  unfold turn;simp only;omega
 ·intro h
  have h1:=Ff hp.strict.nodup hsub
  have h2:=Ff (Wr n) (m:=p.edges) λe he=>by
   obtain⟨g1,g2,g3⟩:=Nl.1 he
   have:=h e.a.toNat e.b.toNat (by omega) (by omega) (by omega)
   unfold GK at this
   have:=of_decide_eq_true this
   rw[HD g1,HD (show 0<=e.b by omega)]at this
   unfold turn at this
   rw[show min e.a e.b=e.a by omega,show max e.a e.b=e.b by omega]at this
   exact this
  omega
def XZ(v:Int)(e:Edg):Int:=if e.a=v then e.b else e.a
theorem AAh(hp:PtOk n p) {a:Nat}(ha:a<n):AEe p a=SK p.edges a:=by
 unfold AEe SK
 rw[List.countP_eq_length_filter,List.countP_eq_length_filter,hp.len]
 have h:(((List.range n).filter λb=>decide (a≠b)&&GK p.edges a b).map λb:Nat=>(b:Int)).Perm ((p.edges.filter λe=>decide (e.a=(a:Int)\/e.b=(a:Int))).map (XZ a)):=by
  refine(List.perm_ext_iff_of_nodup ?_ ?_).2 λx=>?_
  ·unfold List.Nodup
   rw[B7]
   exact(List.nodup_range.sublist EI).imp λhne e=>hne (by omega)
  ·unfold List.Nodup
   rw[B7]
   refine Er ?_ (hp.strict.nodup.sublist EI)
   intro x y hx hy hne e
   obtain⟨hx,qx⟩:=Az.1 hx
   obtain⟨hy,qy⟩:=Az.1 hy
   have qx:=of_decide_eq_true qx
   have qy:=of_decide_eq_true qy
   have ex:=hp.edge x hx
   have ey:=hp.edge y hy
   refine hne ?_
   obtain⟨xa,xb⟩:=x
   obtain⟨ya,yb⟩:=y
   simp only[Edg.mk.injEq,XZ]at*
   split at e<;>split at e<;>omega
  ·rw[An,An]
   constructor
   ·rintro⟨b,hb,rfl⟩
    obtain⟨hb,q⟩:=Az.1 hb
    rw[Ap,decide_eq_true_eq]at q
    have:=AM.1 hb
    refine⟨turn ⟨a,b⟩,Az.2 ⟨of_decide_eq_true q.2,?_⟩,?_⟩
    ·refine decide_eq_true ?_
     unfold turn;simp only;omega
    ·unfold XZ turn;simp only;split<;>omega
   ·rintro⟨e,he,rfl⟩
    obtain⟨he,q⟩:=Az.1 he
    have q:=of_decide_eq_true q
    have g:=hp.edge e he
    refine⟨(XZ a e).toNat,Az.2 ⟨AM.2 ?_,?_⟩,?_⟩
    ·unfold XZ;split<;>omega
    ·rw[Ap,decide_eq_true_eq]
     refine⟨by unfold XZ;split<;>omega,decide_eq_true ?_⟩
     have:turn ⟨(a:Int),((XZ a e).toNat:Int)⟩=e:=by
      obtain⟨xa,xb⟩:=e
      simp only at g q
      simp only[turn,XZ,Edg.mk.injEq]
      split<;>omega
     rw[this];exact he
    ·unfold XZ;split<;>omega
 have:=h.length_eq
 rwa [Ac,Ac]at this
theorem Rx(hp:PtOk n p) {a:Nat}(ha:a<n):p.labels[a]? =some (Yp p a):=by
 unfold Yp
 rw[Ab (by rw[hp.len];exact ha)];rfl
theorem bE(hp:PtOk n p)(q:Int->Bool):p.labels.any q=true↔∃a,a<n/\q (Yp p a)=true:=by
 rw[Cp]
 constructor
 ·rintro⟨x,hx,h⟩
  obtain⟨a,ha,rfl⟩:=C4.1 hx
  have han:a<n:=by rw[<-hp.len];exact ha
  refine⟨a,han,?_⟩
  have:=Rx hp han
  rw[Ab ha,AB]at this
  rw[<-this];exact h
 ·rintro⟨a,ha,h⟩
  exact⟨_,A8 (Rx hp ha),h⟩
theorem fQ(hp:PtOk n p):(DF p.labels).length=p.labels.length↔∀a b:Nat,a<n->b<n->a≠b->Yp p a≠Yp p b:=by
 constructor
 ·intro h a b ha hb hne e
  have hperm:=EN (l:=DF p.labels) (m:=p.labels) (((BK p.labels).1).imp λh=>by omega) (λx hx=>((BK p.labels).2 x).1 hx) (by omega)
  have hn:p.labels.Nodup:=hperm.nodup_iff.1 (((BK p.labels).1).imp λh=>by omega)
  have h1:=Rx hp ha
  have h2:=Rx hp hb
  have ha':a<p.labels.length:=by rw[hp.len];exact ha
  have hb':b<p.labels.length:=by rw[hp.len];exact hb
  rw[Ab ha',AB]at h1
  rw[Ab hb',AB]at h2
  have hq:=AO.1 hn
  rcases BL a b with g|g
  ·exact hq a b ha' hb' g (by rw[h1,h2,e])
  ·exact hq b a hb' ha' (by omega) (by rw[h1,h2,e])
 ·intro h
  refine Sb ?_
  unfold List.Nodup
  rw[AO]
  intro i j hi hj hij e
  have hi':i<n:=by rw[<-hp.len];exact hi
  have hj':j<n:=by rw[<-hp.len];exact hj
  have h1:=Rx hp hi'
  have h2:=Rx hp hj'
  rw[Ab hi,AB]at h1
  rw[Ab hj,AB]at h2
  exact h i j hi' hj' (by omega) (by rw[<-h1,<-h2,e])
theorem ABf(hp:PtOk n p):oX p=true↔∃a b c:Nat,a<n/\b<n/\c<n/\a≠b/\GK p.edges a b=true/\GK p.edges a c=true/\GK p.edges b c=true:=by
 unfold oX
 rw[Cp]
 constructor
 ·rintro⟨e,he,h⟩
  obtain⟨c,hc,h⟩:=Cp.1 h
  rw[Ap]at h
  have g:=hp.edge e he
  have hcn:=AM.1 hc
  rw[hp.len]at hcn
  refine⟨e.a.toNat,e.b.toNat,c,by omega,by omega,hcn,by omega,?_,?_,?_⟩
  ·rw[HD g.1,HD (show 0<=e.b by omega)]
   unfold GK
   rw[show turn ⟨e.a,e.b⟩=e by obtain⟨xa,xb⟩:=e;simp only[turn,Edg.mk.injEq]at*;omega]
   exact decide_eq_true he
  ·rw[HD g.1];exact h.1
  ·rw[HD (show 0<=e.b by omega)];exact h.2
 ·rintro⟨a,b,c,ha,hb,hc,hne,h1,h2,h3⟩
  refine⟨turn ⟨a,b⟩,of_decide_eq_true h1,Cp.2 ⟨c,AM.2 (by rw[hp.len];exact hc),?_⟩⟩
  rw[Ap]
  unfold turn
  simp only
  rcases BL a b with h|h
  ·rw[show min (a:Int) b=a by omega,show max (a:Int) b=b by omega];exact⟨h2,h3⟩
  ·rw[show min (a:Int) b=b by omega,show max (a:Int) b=a by omega];exact⟨h3,h2⟩
theorem sH(hp:PtOk n p) {o:Opp}(h1:1<=o.kind)(h8:o.kind<=8):Dk o p=Ul o p:=by
 obtain⟨k,m⟩:=o
 simp only at h1 h8
 have hk:k=1\/k=2\/k=3\/k=4\/k=5\/k=6\/k=7\/k=8:=by omega
 rcases hk with rfl|rfl|rfl|rfl|rfl|rfl|rfl|rfl
 ·rw[CJ]
  have:=lD hp
  simp[Dk,Ul,XM,XL,hp.len]
  rw[this]
  exact⟨λh a ha b hb=>Classical.byCases .inl λhne=>.inr (h a b ha hb hne),λh a b ha hb hne=>(h a ha b hb).resolve_left hne⟩
 ·rw[CJ]
  have:=bE hp λl=>decide (m<l)
  rw[show Dk ⟨2,m⟩ p=!p.labels.any λl=>decide (m<l)from rfl,Cm,Pq,ne_eq,this]
  simp[Ul,XM,XL,hp.len]
 ·rw[CJ]
  simp[Dk,Ul,XM,XL,hp.len,tD]
  exact⟨λh a ha=>by rw[AAh hp ha];exact h a ha,λh a ha=>by rw[<-AAh hp ha];exact h a ha⟩
 ·rw[CJ]
  simp[Dk,Ul,XM,XL,hp.len]
 ·rw[CJ]
  simp[Dk,Ul,XM,XL,hp.len]
 ·rw[CJ]
  have:=fQ hp
  rw[show Dk ⟨6,m⟩ p=decide ((DF p.labels).length=p.labels.length)from rfl,decide_eq_true_eq,this]
  simp[Ul,XM,XL,hp.len]
  exact⟨λh a ha b hb=>Classical.byCases .inl λhne=>.inr (h a b ha hb hne),λh a b ha hb hne=>(h a ha b hb).resolve_left hne⟩
 ·rw[CJ]
  have:=bE hp λl=>decide (l≠m)
  rw[show Dk ⟨7,m⟩ p=!p.labels.any λl=>decide (l≠m)from rfl,Cm,Pq,ne_eq,this]
  simp[Ul,XM,XL,hp.len]
 ·rw[CJ]
  have:=ABf hp
  rw[show Dk ⟨8,m⟩ p=!oX p from rfl,Cm,Pq,ne_eq,this]
  simp[Ul,XM,XL,hp.len]
  constructor
  ·intro h a ha b hb
   refine Classical.byCases .inl λhne=>.inr λc hc=>?_
   have:=h a ha b hb c hc hne
   revert this
   cases GK p.edges a b<;>cases GK p.edges a c<;>cases GK p.edges b c<;>simp
  ·intro h a ha b hb c hc hne g1 g2
   have:=(h a ha b hb).resolve_left hne c hc
   rw[g1,g2]at this
   simpa using this
end
end Go.Gr
end
section
namespace Go.Gr
theorem tE {E:List Edg} {v:Int} {i:Nat} {x:Edg}(h:E[i]? =some x):SK (E.take (i+1)) v=SK (E.take i) v+if x.a=v\/x.b=v then 1 else 0:=by
 unfold SK
 rw[Ay,h,AU,List.countP_append]
 congr 1
 by_cases hc:x.a=v\/x.b=v<;>simp[hc]
theorem ACj(E:List Edg)(v:Int)(i:Nat):SK (E.take i) v<=i:=by
 unfold SK
 exact BH List.countP_le_length (by rw[AA];omega)
end Go.Gr
namespace Go.Proofs.YtjpmmkodoeipmaaGreatDoor
open Go.Sx Go.RowKit Go.Reg Go.Gr
set_option maxRecDepth 100000
theorem XV(p:Pt)(v:Int)(hme:p.edges.length<=4294967296):Pure C1 293 [FE p,.int .i64 v] (λy=>y=.int .i64 (SK p.edges v:Nat)):=by
 have hde:(p.edges.map dE).length=p.edges.length:=Ac _
 refine AW Tryz.func293 Tryz.ntmps293 [] [] ?_
 ((conv=>whnf);repeat' ((first|refine odw ?_|refine nx ?_|refine AD (λ_=>?_) (λ_=>?_))<;>conv=>whnf))
 refine AR (ι:=Nat) (λi=>i<=p.edges.length) (λi=>[(11,.d (.int .i64 i)),(10,.d (.int .i64 (p.edges.map dE).length)),(9,.d (Fa p.edges)),(5,.d (.int .i64 (SK (p.edges.take i) v:Nat))),(1,.d (.int .i64 v))]) (λ_=>[]) (λi=>p.edges.length-i) 0 (λ_=>rfl) (Am _) (.refl _ _) ⟨rfl,rfl,rfl,rfl,rfl,trivial⟩ trivial ?_
 intro i hi
 refine Cd [] [] ?_
 by_cases hil:i<p.edges.length
 ·have hx:=Ab hil
  generalize p.edges[i]=x at hx
  have hxd:(p.edges.map dE)[i]? =some (.agg [.int .i64 x.a,.int .i64 x.b]):=by rw[Ad,hx];rfl
  have hst:=tE (v:=v) hx
  have hle:=ACj p.edges v i
  by_cases h1:x.a=v
  ·rw[if_pos (.inl h1)]at hst
   (conv=>whnf)
   (repeat' ((first|refine Aj ?_ ?_|refine AP hxd rfl ?_|refine nx ?_|refine AD (λ_=>?_) (λ_=>?_)|exact AG)<;>conv=>whnf))
   exact⟨i+1,_,_,hil,.refl _ _,⟨rfl,rfl,rfl,OK (by omega),rfl,trivial⟩,trivial,by omega⟩
  ·by_cases h2:x.b=v
   ·rw[if_pos (.inr h2)]at hst
    (conv=>whnf)
    (repeat' ((first|refine Aj ?_ ?_|refine AP hxd rfl ?_|refine nx ?_|refine AD (λ_=>?_) (λ_=>?_)|exact AG)<;>conv=>whnf))
    exact⟨i+1,_,_,hil,.refl _ _,⟨rfl,rfl,rfl,OK (by omega),rfl,trivial⟩,trivial,by omega⟩
   ·rw[if_neg (by omega)]at hst
    (conv=>whnf)
    (repeat' ((first|refine Aj ?_ ?_|refine AP hxd rfl ?_|refine nx ?_|refine AD (λ_=>?_) (λ_=>?_)|exact AG)<;>conv=>whnf))
    exact⟨i+1,_,_,hil,.refl _ _,⟨rfl,rfl,rfl,OK (by omega),rfl,trivial⟩,trivial,by omega⟩
 ·have e:p.edges.take i=p.edges:=Al (by omega)
  rw[e]
  ((conv=>whnf);repeat' ((first|refine odw ?_|refine nx ?_|refine AD (λ_=>?_) (λ_=>?_))<;>conv=>whnf))
  exact rfl
end Go.Proofs.YtjpmmkodoeipmaaGreatDoor
end
section
namespace Go.Gr
theorem Yw {α:Type} {l:List α} {p:α->Bool} {i:Nat} {x:α}(h:l[i]? =some x)(hx:p x=true)(hn:∀y∈l.take i,p y=false):l.findIdx? p=some i:=by
 have hil:i<l.length:=by
  rcases BL i l.length with g|g
  ·exact g
  ·rw[AI g]at h;cases h
 rw[Ba]
 rw[Ab hil,AB]at h
 refine⟨hil,by rw[h];exact hx,λj hj=>?_⟩
 have:=hn (l[j]'(by omega)) (Bd.2 ⟨j,by omega,rfl⟩)
 simp[this]
theorem R1 {α:Type} {l:List α} {p:α->Bool}(h:∀y∈l,p y=false):l.findIdx? p=none:=by
 rw[Be];exact h
end Go.Gr
namespace Go.Proofs.YtjpmmkodoeipmaaGreatDoor
open Go.Sx Go.RowKit Go.Reg Go.Gr
set_option maxRecDepth 100000
def dO(o:Opp):Da:=.agg [.int .i64 o.kind,.int .i64 o.n]
def Ka(l:List Opp):Da:=.list 2 (l.map dO)
def zD:ByteArray:=⟨#[107,105,110,100]⟩
def ADS:ByteArray:=⟨#[110,117,109,98,101,114]⟩
def Sq(k:Int):List UInt8:=if k=1 then[99,108,105,113,117,101]else if k=2 then[108,97,98,101,108,115]else if k=3 then[100,101,103,114,101,101]else if k=4 then[115,105,122,101]else if k=5 then[101,100,103,101,115]else if k=6 then[117,110,108,105,107,101]else if k=7 then[111,110,108,121]else if k=8 then[102,114,101,101]else[]
def Yh:List Da:=(List.range 8).map λk:Nat=>.str ⟨(Sq ((k:Int)+1)).toArray⟩
theorem rK {i:Nat}(h:i<8):Yh[i]? =some (.str ⟨(Sq ((i:Int)+1)).toArray⟩):=by
 unfold Yh
 rw[Ad,CN h];rfl
theorem ZN:Pure C1 215 [] (λy=>y=.list 1 Yh):=by
 refine AW Tryz.func215 Tryz.ntmps215 [] [] ?_
 ((conv=>whnf);repeat' ((first|refine odw ?_|refine nx ?_|refine AD (λ_=>?_) (λ_=>?_))<;>conv=>whnf))
 exact rfl
def AEt:List FuncId:=[215]
theorem iA(k:Int):Pure C1 145 [.int .i64 k] (λy=>y=.str ⟨(Sq k).toArray⟩):=by
 have hn:=ZN
 have hl:Yh.length=8:=rfl
 refine AW Tryz.func145 Tryz.ntmps145 AEt [] ?_
 by_cases hk:1<=k/\k<=8
 ·have hx:=rK (i:=(k-1).toNat) (by omega)
  rw[show(((k-1).toNat:Nat):Int)+1=k by omega]at hx
  (conv=>whnf)
  (repeat' ((first|refine Aj ?_ ?_|refine Af rfl hn ?_|refine AP hx (by omega) ?_|refine nx ?_|refine AD (λ_=>?_) (λ_=>?_)|exact AG)<;>conv=>whnf))
  exact rfl
 ·have e:Sq k=[]:=by unfold Sq;repeat rw[if_neg (by omega)]
  rw[e]
  (conv=>whnf)
  (repeat' ((first|refine Aj ?_ ?_|refine Af rfl hn ?_|refine nx ?_|refine AD (λ_=>?_) (λ_=>?_)|exact AG)<;>conv=>whnf))
  all_goals exact rfl
theorem ZM(k:Int):Pure C1 146 [.int .i64 k] (λy=>y=.bool (HJ k)):=by
 refine AW Tryz.func146 Tryz.ntmps146 [] [] ?_
 by_cases h1:k=1
 ·subst h1;((conv=>whnf);repeat' ((first|refine odw ?_|refine nx ?_|refine AD (λ_=>?_) (λ_=>?_))<;>conv=>whnf));exact rfl
 by_cases h6:k=6
 ·subst h6;((conv=>whnf);repeat' ((first|refine odw ?_|refine nx ?_|refine AD (λ_=>?_) (λ_=>?_))<;>conv=>whnf));exact rfl
 by_cases h8:k=8
 ·subst h8;((conv=>whnf);repeat' ((first|refine odw ?_|refine nx ?_|refine AD (λ_=>?_) (λ_=>?_))<;>conv=>whnf));exact rfl
 have e:HJ k=true:=by unfold HJ;simp[h1,h6,h8]
 rw[e]
 ((conv=>whnf);repeat' ((first|refine odw ?_|refine nx ?_|refine AD (λ_=>?_) (λ_=>?_))<;>conv=>whnf))
 exact rfl
def Ld(o:Opp)(at_:Int):Da:=if Fl o=0 then .nili else dF (Fl o) at_ (if Fl o=1 then zD else ADS)
theorem ABE {k:Int}(h:1<=k/\k<=8):∃c t,Sq k=c::t:=by
 have hk:k=1\/k=2\/k=3\/k=4\/k=5\/k=6\/k=7\/k=8:=by omega
 rcases hk with rfl|rfl|rfl|rfl|rfl|rfl|rfl|rfl<;>exact⟨_,_,rfl⟩
def AFj:List FuncId:=[145,146]
theorem PM(o:Opp)(a:Int):Pure C1 99 [dO o,.int .i64 a] (λy=>y=Ld o a):=by
 have hn:=iA o.kind
 have ht:=ZM o.kind
 have hf1:=CG 1 a zD
 have hf3:=CG 3 a ADS
 refine AW Tryz.func99 Tryz.ntmps99 AFj [] ?_
 by_cases hk:1<=o.kind/\o.kind<=8
 ·obtain⟨c,t,hct⟩:=ABE hk
  rw[hct]at hn
  have hsn:¬({data:=(c::t).toArray}:ByteArray)={data:=#[]}:=λh=>by simp at h
  by_cases hr:o.n<0\/255<o.n\/0<o.n/\HJ o.kind=false
  ·have e:Ld o a=dF 3 a ADS:=by
    unfold Ld Fl
    rw[if_neg (show¬(o.kind<1\/8<o.kind)by omega),if_pos hr];rfl
   rw[e]
   cases htk:HJ o.kind<;>rw[htk]at ht hr<;>
   ·(conv=>whnf)
    (repeat' ((first|refine Aj ?_ ?_|refine nS hsn ?_|refine Af rfl hn ?_|refine Af rfl ht ?_|refine Af rfl hf3 ?_|refine nx ?_|refine AD (λ_=>?_) (λ_=>?_)|exact AG)<;>conv=>whnf))
    all_goals first|exact rfl|(exfalso;simp at hr;omega)
  ·have e:Ld o a=.nili:=by
    unfold Ld Fl
    rw[if_neg (show¬(o.kind<1\/8<o.kind)by omega),if_neg hr];rfl
   rw[e]
   cases htk:HJ o.kind<;>rw[htk]at ht hr<;>
   ·(conv=>whnf)
    (repeat' ((first|refine Aj ?_ ?_|refine nS hsn ?_|refine Af rfl hn ?_|refine Af rfl ht ?_|refine Af rfl hf3 ?_|refine nx ?_|refine AD (λ_=>?_) (λ_=>?_)|exact AG)<;>conv=>whnf))
    all_goals first|exact rfl|(exfalso;simp at hr;omega)
 ·have e1:Sq o.kind=[]:=by unfold Sq;repeat rw[if_neg (by omega)]
  have e:Ld o a=dF 1 a zD:=by
   unfold Ld Fl
   rw[if_pos (show(o.kind<1\/8<o.kind)by omega)];rfl
  rw[e1]at hn
  rw[e]
  (conv=>whnf)
  (repeat' ((first|refine Aj ?_ ?_|refine Af rfl hn ?_|refine Af rfl hf1 ?_|refine nx ?_|refine AD (λ_=>?_) (λ_=>?_)|exact AG)<;>conv=>whnf))
  all_goals exact rfl
end Go.Proofs.YtjpmmkodoeipmaaGreatDoor
end
section
namespace Go.Reg
open Go Go.RowKit
section
variable {P:Program} {α:Type}
theorem Ia(w:World)(dT sT ty elem:TypeId)(k:Nat)(g o dLen dCap:Nat)(a:Addr)(sLen sCap:Nat)(cur:Array Value)(t:TypeId)(cs:List Value)
  (hu:P.underlying dT=some (.slice elem)) (hs:(P.info? elem).map (·.size)=some k)
  (hg:w.heap[g]? =some (.cells cur t (0,0))) (hn:cs.length=Nat.min sLen dLen*k)
  (hsrc:∀j v,cs[j]? =some v->w.cell? (a.add j)=some v) (hfit:o+cs.length<=cur.size) (h1:∀v∈cs,v.oneCell'=true):
  (Builtin.copy_ #[dT,sT] ty #[.slice (some ⟨g,o,none⟩) dLen dCap,.slice (some a) sLen sCap]).run P w=
   .ok (goInt (Nat.min sLen dLen)) (w.setRow g (cur.toList.take o++cs++cur.toList.drop (o+cs.length)).toArray):=by
 have hl:=run_loadCells_list (P:=P) w a cs hsrc
 have hst:=run_storeCells_at P g o t cs 0 cur w hg (by simpa using hfit) h1
 cases hq:P.info? elem with
 |none=>simp[hq]at hs
 |
  some i=>
  have hi:i.size=k:=by simpa[hq]using hs
  simp[Builtin.copy_,run_underlying hu,Builtin.lenOf,Builtin.firstCells,sizeOf,typeInfo,hq,hi,<-hn,hl,hst]
theorem QX(w:World)(tS tR e:TypeId)(ht:P.underlying tS=some (.slice e))(size:Nat)(hz:∀w,(Go.sizeOf e).run P w=.ok size w)
  (a b:Addr) (la ca lb cb:Nat) (hne:a.block≠b.block) {cA cB:Array Value} {tA tB:TypeId} {frA:Nat×Nat} (ha:w.heap[a.block]? =some (.cells cA tA frA)) (hb:w.heap[b.block]? =some (.cells cB tB (0,0))) (hA:cA.size≠0) (hB:cB.size≠0):
  (Extern.SlicesOverlaps.overlaps #[tS,tS] #[tR] #[.slice (some a) la ca,.slice (some b) lb cb]).run P w=.ok (.bool false) w:=by
 have hnb:(a.block !=b.block)=true:=by simpa using hne
 have hnb':(a.block==b.block)=false:=by simpa using hne
 have hsa:w.shape? a.block=some (tA,cA.size):=by simp[World.shape?,ha]
 have hsb:w.shape? b.block=some (tB,cB.size):=by simp[World.shape?,hb]
 have hfb:w.frozen? b=false:=by simp[World.frozen?,hb]
 have hfb2:w.frozen? {block:=b.block,off:=cB.size}=false:=by simp[World.frozen?,hb]
 generalize hka:cA.size=kA at*
 generalize hkb:cB.size=kB at*
 cases kA with
 |zero=>exact absurd rfl hA
 |
  succ kA=>
  cases kB with
  |zero=>exact absurd rfl hB
  |
   succ kB=>
   change Sem.run P (α:=Value) (do
    let some t:=(#[tS,tS]:Array TypeId)[0]? |stuck "slices.overlaps: no parameter types"
    let .slice elem<-underlying t|stuck "slices.overlaps: slice type expected"
    let size<-sizeOf elem
    match(some a:Option Addr),(some b:Option Addr)with
    |
     some a,some b=>
     if la=0\/lb=0\/size=0 then pure (Value.bool false)
     else if a.block !=b.block&&(<-frozen a)&&(<-frozen b)then unsupported .addressObserved
     else do
      if a.block !=b.block then do
       noView a;noView b
       if<-mayBeOne a b then return Value.bool ((<-choose (.extern "sameAddr.stringBytes" 2))==1)
      pure (Value.bool (a.block==b.block&&a.off<b.off+lb*size&&b.off<a.off+la*size))
    |_,_=>pure (Value.bool false)) w=_
   by_cases h0:la=0\/lb=0\/size=0
   ·simp[run_underlying ht,hz,h0]
   ·cases hfa:w.frozen? a<;>cases hfe:w.frozen? {block:=a.block,off:=kA+1}<;>
     simp[run_underlying ht,hz,h0,hnb,hnb',frozen,noView,viewAt,mayBeOne,stringish,shape,Sem.run,hsa,hsb,hfb,hfb2,hfa,hfe]
theorem Ua {E k:Nat} {enc:α->List Value}(he:∀x,(enc x).length=k)(h1:∀x,∀u∈enc x,u.oneCell'=true) {t:TypeId} {bytes:Nat}(ht:P.underlying t=some (.slice E))(hinfo:(P.info? E).map (λi=>(i.zero.map (·.cells.size),i.size,i.bytes))=some (some k,k,bytes))(hkb:(decide (0<k)&&decide (bytes<=1000))=true)
  {w:World} {v:Value} {l:List α} (h:Sl E k enc w v l) (hlen:l.length<=4294967296) (x:α) {a:Addr} {c:Nat} (hnews:∀j u,(enc x)[j]? =some u->w.cell? (a.add j)=some u) (ty:TypeId):
  ∃v' w',(Builtin.append_ #[t,t] ty #[v,.slice (some a) 1 c]).run P w=.ok v' w'/\Sl E k enc w' v' (l++[x])/\Tch v.ownBlock.toList w w'/\(v'.ownBlock=v.ownBlock\/v'.ownBlock=some w.heap.size):=by
 obtain⟨i,z,hi,hz,hsize,hby,hzs⟩:∃i z,P.info? E=some i/\i.zero=some z/\i.size=k/\i.bytes=bytes/\z.cells.size=k:=by
  cases hP:P.info? E with
  |none=>rw[hP]at hinfo;cases hinfo
  |
   some i=>
   rw[hP]at hinfo
   simp only[CA,AB,Prod.mk.injEq,Cl]at hinfo
   obtain⟨⟨z,hz,h1⟩,h2,h3⟩:=hinfo
   exact⟨i,z,rfl,hz,h2,h3,h1⟩
 simp only[Ap,decide_eq_true_eq]at hkb
 obtain⟨hk,hb0⟩:=hkb
 have hl1:(enc x).length=1*k:=by rw[he];omega
 have hfit:(l.length+1)*bytes<=4294967297*1000:=DO (by omega) hb0
 obtain⟨v',w',hr,ho,hg,_⟩:=run_append_own (P:=P) w 0 t ty E i z k bytes ht hi hz hsize hby hzs hk v l.length (l.flatMap enc) h a 1 c (enc x) hl1 hnews (h1 x) (by simp only[maxLen];omega) (by omega) (Am _)
 refine⟨v',w',hr,?_,⟨hg.os,hg.tape,hg.output,hg.size,λj hj hn=>hg.block j hj (λe=>hn (by rw[<-e];simp))⟩,?_⟩
 ·unfold Sl;simpa using ho
 ·subst hsize
  subst hby
  rcases h.2 with⟨rfl,hn⟩|⟨g,cap,cur,rfl,_,hcur,hnc,hcm,hcs,htake⟩
  ·have hx':=run_append_nil (P:=P) w t ty E i z ht hi hz a 1 c (enc x) hl1 hnews (by omega) (by omega) (by omega)
   rw[hx']at hr
   simp at hr
   exact .inr (by rw[<-hr.1];rfl)
  ·by_cases hroom:l.length+1<=cap
   ·have hfit2:l.length*i.size+(enc x).length<=cur.size:=by rw[hl1,hcs,<-CV];exact Hi _ hroom
    have hx':=run_append_room (P:=P) w t ty E i ht hi g l.length cap cur hcur a 1 c (enc x) hl1 hnews (h1 x) hroom hfit2
    rw[hx']at hr
    simp at hr
    exact .inl (by rw[<-hr.1];rfl)
   ·have holds:∀j u,(l.flatMap enc)[j]? =some u->w.cell? ((⟨g,0,none⟩:Addr).add j)=some u:=VB h (g:=g) rfl
    have hx':=run_append_grow (P:=P) w t ty E i z ht hi hz ⟨g,0,none⟩ l.length cap (l.flatMap enc) h.1 holds a 1 c (enc x) hl1 hnews (by omega) (by omega) (growslice_fits (by omega) (by omega))
    rw[hx']at hr
    simp at hr
    exact .inr (by rw[<-hr.1];rfl)
end
end Go.Reg
namespace Go.Proofs.YtjpmmkodoeipmaaGreatDoor
open Go.Sx Go.RowKit Go.Reg Go.Gr
theorem M9:Tryz.prog.follows .mixedOrders=true:=by kernel_rfl
def Cr(e:Edg):List Value:=[.int .i64 e.a,.int .i64 e.b]
theorem IQ(e:Edg):(Cr e).length=2:=rfl
theorem IP(e:Edg):∀u∈Cr e,u.oneCell'=true:=by
 intro u hu;simp[Cr]at hu;rcases hu with rfl|rfl<;>rfl
theorem VP:(Tryz.prog.info? 90).map (λi=>(i.zero,i.size,i.bytes))=some (some (.agg #[.int .i64 0,.int .i64 0]),2,16):=by kernel_rfl
theorem fL:(Tryz.prog.info? 90).map (λi=>(i.zero.map (·.cells.size),i.size,i.bytes))=some (some 2,2,16):=by kernel_rfl
theorem Gj(l:List Edg):(l.flatMap Cr).length=l.length*2:=by
 induction l with
 |nil=>rfl
 |cons x l ih=>simp[ih,Cr];omega
theorem Sz(l:List Edg)(i:Nat):(l.take i).flatMap Cr=(l.flatMap Cr).take (i*2):=by
 induction l generalizing i with
 |nil=>simp
 |
  cons x l ih=>
  cases i with
  |zero=>simp
  |
   succ i=>
   simp only[List.take_succ_cons,BD,ih]
   rw[List.take_append,IQ,show(i+1)*2-2=i*2 from by omega,Al (l:=Cr x) (by rw[IQ];omega)]
theorem S0(l:List Edg)(i:Nat):(l.drop i).flatMap Cr=(l.flatMap Cr).drop (i*2):=by
 induction l generalizing i with
 |nil=>simp
 |
  cons x l ih=>
  cases i with
  |zero=>simp
  |
   succ i=>
   simp only[List.drop_succ_cons,BD,ih]
   rw[uG,IQ,show(i+1)*2-2=i*2 from by omega,C0 (l:=Cr x) (by rw[IQ];omega),BB]
def LB(l:List Edg)(w:World)(v:Value)(e:Ending)(w':World):Prop:=
 ∃v',e=.returned v'/\Sl 90 2 Cr w' v' l/\Tch v.ownBlock.toList w w'/\∀b∈v'.ownBlock.toList,b∈v.ownBlock.toList\/w.heap.size<=b
set_option maxRecDepth 100000 in
set_option maxHeartbeats 1000000 in
theorem jV(v:Value)(l:List Edg)(e:Edg)(w:World)(h:Sl 90 2 Cr w v l)(hl:l.length<=4294967296)(vb vo vc:Nat)(hv:∀j u,(Cr e)[j]? =some u->w.cell? ⟨vb,vo+j,none⟩=some u):
  Calls Tryz.prog 222 #[v,.int .i64 l.length,.slice (some ⟨vb,vo,none⟩) 1 vc] w (LB (l++[e]) w v):=by
 have mixed:=M9
 obtain⟨v',w',hr,ho,ht,hb⟩:=Ua (P:=Tryz.prog) IQ IP Tryz.underlying52 fL (by decide) h hl e (a:=⟨vb,vo,none⟩) (c:=vc) (λj u hu=>by rw[DA];exact hv j u hu) 52
 have HR:=Ga hr
 have HF:LB (l++[e]) w v (.returned v') w':=⟨_,rfl,ho,ht,λb hbm=>by
  rcases hb with hb|hb
  ·rw[hb]at hbm;exact .inl hbm
  ·rw[hb]at hbm;simp at hbm;subst hbm;exact .inr (Ax _)⟩
 rcases h.shape with⟨rfl,rfl⟩|⟨g,cap,rfl,hc⟩
 ·clear h hv hr ho ht hb
  go_enter Tryz.func222,Tryz.ntmps222
  go_wp2_with (first|(at_builtin;refine wpList_plain rfl (λK hK=>?_);refine Kc rfl rfl rfl HR.out ?_;go_simp))
  go_ret
  exact HF
 ·clear h hv hr ho ht hb
  generalize l.length=n at*
  have hnc:¬(cap<n):=by omega
  go_enter Tryz.func222,Tryz.ntmps222
  go_wp2_with (first|(at_builtin;refine wpList_plain rfl (λK hK=>?_);refine Kc rfl rfl rfl HR.out ?_;go_simp))
  all_goals (go_ret;exact HF)
theorem UP(w:World)(g:Nat)(cs:Array Value):Tch [g] w (w.setRow g cs):=⟨rfl,rfl,rfl,by simp[World.setRow],λk _ hn=>setRow_other w g k cs (by simpa using hn)⟩
theorem VW {α:Type}(L A M:List α)(a m:Nat)(hA:A.length=a)(hL:L.take a=A)(_hLl:a+M.length<=L.length)(hm:m=a+M.length):(L.take a++M++L.drop (a+M.length)).take m=A++M:=by
 subst hm
 rw[hL,BW (by simp;omega),Al (by simp;omega)]
theorem PX {α:Type}(L M:List α)(a:Nat)(h:a+M.length<=L.length):(L.take a++M++L.drop (a+M.length)).length=L.length:=by simp;omega
set_option maxRecDepth 100000 in
set_option maxHeartbeats 2000000 in
theorem bL(g n i:Nat)(cur:Array Value)(l:List Edg)(e:Edg)(w:World)(hg:w.heap[g]? =some (.cells cur 90 (0,0)))(htake:cur.toList.take (n*2)=l.flatMap Cr)(hln:l.length=n)(hi:i<n)(hl:n<=4294967296)
  (vb vo vc:Nat) (hv:∀j u,(Cr e)[j]? =some u->w.cell? ⟨vb,vo+j,none⟩=some u):
  Calls Tryz.prog 222 #[.slice (some ⟨g,0,none⟩) n n,.int .i64 i,.slice (some ⟨vb,vo,none⟩) 1 vc] w (LB (l.take i++e::l.drop i) w (.slice (some ⟨g,0,none⟩) n n)):=by
 have mixed:=M9
 obtain⟨i0,hin,hz0,hz1,hz2⟩:=info_parts VP
 have hfl:(l.flatMap Cr).length=n*2:=by rw[Gj,hln]
 have hgl:=(Ak.1 hg).1
 have hcells:∀j u,(l.flatMap Cr)[j]? =some u->w.cell? ⟨g,j,none⟩=some u:=λj u hu=>by
  rw[<-htake,CY]at hu
  split at hu
  ·simp only[World.cell?,hg];simpa using hu
  ·cases hu
 have hlt:((l.take i).flatMap Cr).length=i*2:=by rw[Gj,AA,hln];omega
 have hld:((l.drop i).flatMap Cr).length=(n-i)*2:=by rw[Gj,List.length_drop,hln]
 have hold:(Builtin.firstCells i0.size i (.slice (some ⟨g,0,none⟩) i n)).run Tryz.prog w.drew=.ok ((l.take i).flatMap Cr).toArray w.drew:=by
  rw[hz1]
  refine run_firstCells_some w.drew 2 i ⟨g,0,none⟩ i n _ hlt (λj u hj=>?_)
  rw[Sz,CY]at hj
  rw[DA,DT]
  split at hj
  ·exact hcells j u hj
  ·cases hj
 have hin1:i+(n+1-i)=n+1:=by omega
 have hrz:=Lib.run_append_grow_zeros (P:=Tryz.prog) w 52 3 52 90 i0 _ .i64 .i64 Tryz.underlying52 Tryz.underlying3 hin hz0 (some ⟨g,0,none⟩) i n _ hold (n+1-i) (by omega) (by omega) (by omega) (by omega) (by rw[hz2];omega) (by rw[hin1,hz2];exact growslice_fits (by omega) (by omega))
 rw[hin1]at hrz
 have hGn:n+1<=grownCap w (n+1) n 90:=grownCap_ge w _ _ _
 have hGm:grownCap w (n+1) n 90<=maxLen:=grownCap_le_maxLen w (n+1) n _ (by unfold maxLen;omega)
 generalize grownCap w (n+1) n 90=G at*
 obtain⟨ROW,hROW⟩:∃R,R=((l.take i).flatMap Cr).toArray++Builtin.zeroCells (Value.agg #[.int .i64 0,.int .i64 0]).cells (n+1-i)++Builtin.zeroCells (Value.agg #[.int .i64 0,.int .i64 0]).cells (G- (n+1)):=⟨_,rfl⟩
 rw[<-hROW]at hrz
 have hR0:ROW.size=G*2:=by
  rw[hROW]
  simp only[Pr,BC,hlt,Builtin.zeroCells,Array.size_map,Array.size_range,Value.cells]
  simp only[Aw,Bt]
  omega
 have hR1:ROW.toList.take (i*2)=(l.take i).flatMap Cr:=by
  rw[hROW]
  simp only[Array.toList_append]
  rw[Bj,BW (by rw[hlt];omega),Al (by rw[hlt];omega)]
 have hN:g≠w.heap.size:=by omega
 obtain⟨W1,hW1⟩:∃W,W=w.drew.alloc (.cells ROW 90):=⟨_,rfl⟩
 rw[<-hW1]at hrz
 have hg1:W1.heap[w.heap.size]? =some (.cells ROW 90 (0,0)):=by rw[hW1];show(w.drew.heap.push _)[w.drew.heap.size]? =_;exact Array.getElem?_push_size
 have hT1:Tch [] w W1:=by rw[hW1];exact(Tch.drew w []).trans0 (Tch.alloc _ _ _)
 obtain⟨R2,hR2⟩:∃R,R=(ROW.toList.take (i*2)++Cr e++ROW.toList.drop (i*2+(Cr e).length)).toArray:=⟨_,rfl⟩
 have hs2:R2.size=G*2:=by rw[hR2,BC,PX _ _ _ (by simp[hR0,Cr];omega)];simpa using hR0
 have ht2:R2.toList.take ((i+1)*2)=(l.take i).flatMap Cr++Cr e:=by
  rw[hR2];exact VW _ _ _ _ _ hlt hR1 (by simp[hR0,Cr];omega) (by simp[Cr];omega)
 have hA:∀ty o dl dc,o=i*2->Nat.min 1 dl=1->(Builtin.copy_ #[52,52] ty #[.slice (some ⟨w.heap.size,o,none⟩) dl dc,.slice (some ⟨vb,vo,none⟩) 1 vc]).run Tryz.prog W1=.ok (goInt 1) (W1.setRow w.heap.size R2):=λty o dl dc ho hm=>by
  have:=Ia (P:=Tryz.prog) W1 52 52 ty 90 2 w.heap.size (i*2) dl dc ⟨vb,vo,none⟩ 1 vc ROW _ (Cr e) Tryz.underlying52 (by rw[hin];simp[hz1]) hg1 (by rw[hm];rfl) (λj u hj=>by rw[DA];exact hT1.cell (hv j u hj) (by simp)) (by rw[hR0];simp[Cr];omega) (IP e)
  rw[hm,<-hR2]at this
  rw[ho];exact this
 have hg2:=setRow_heap W1 w.heap.size ROW R2 _ (0,0) hg1
 have hT2:Tch [] w (W1.setRow w.heap.size R2):=hT1.trans (UP W1 w.heap.size R2) (by simp) (λx hx=>.inr (by simp at hx;omega))
 generalize W1.setRow w.heap.size R2=W2 at hA hg2 hT2
 obtain⟨R3,hR3⟩:∃R,R=(R2.toList.take ((i+1)*2)++(l.drop i).flatMap Cr++R2.toList.drop ((i+1)*2+((l.drop i).flatMap Cr).length)).toArray:=⟨_,rfl⟩
 have hs3:R3.size=G*2:=by rw[hR3,BC,PX _ _ _ (by simp only[HG,hs2,hld];omega)];simpa using hs2
 have ht3:R3.toList.take ((n+1)*2)=(l.take i++e::l.drop i).flatMap Cr:=by
  rw[CO,BD,<-Bj,hR3]
  exact VW _ _ _ _ _ (by rw[Ah,hlt];simp[Cr];omega) ht2 (by simp only[HG,hs2,hld];omega) (by rw[hld];omega)
 have hB:∀W,Tch [] W2 W->∀ty o dl dc so sl sc,o=(i+1)*2->so=i*2->Nat.min sl dl=n-i->(Builtin.copy_ #[52,52] ty #[.slice (some ⟨w.heap.size,o,none⟩) dl dc,.slice (some ⟨g,so,none⟩) sl sc]).run Tryz.prog W=.ok (goInt (n-i:Nat)) (W.setRow w.heap.size R3):=λW hW ty o dl dc so sl sc ho hso hm=>by
  have hgW:W.heap[w.heap.size]? =some (.cells R2 90 (0,0)):=by rw[hW.blk _ (Ak.1 hg2).1 (by simp)];exact hg2
  have:=Ia (P:=Tryz.prog) W 52 52 ty 90 2 w.heap.size ((i+1)*2) dl dc ⟨g,i*2,none⟩ sl sc R2 _ ((l.drop i).flatMap Cr) Tryz.underlying52 (by rw[hin];simp[hz1]) hgW (by rw[hm,hld])
   (λj u hj=>by rw[DA];rw[S0,MW]at hj;exact(hT2.trans0 hW).cell (hcells _ u hj) (by simp)) (by rw[hs2,hld];omega) (λu hu=>by obtain⟨x,_,hx⟩:=AL.1 hu;exact IP x u hx)
  rw[hm,<-hR3]at this
  rw[ho,hso];exact this
 have hF:∀W,Tch [] W2 W->LB (l.take i++e::l.drop i) w (.slice (some ⟨g,0,none⟩) n n) (.returned (.slice (some ⟨w.heap.size,0,none⟩) (n+1) G)) (W.setRow w.heap.size R3):=λW hW=>by
  have hgW:W.heap[w.heap.size]? =some (.cells R2 90 (0,0)):=by rw[hW.blk _ (Ak.1 hg2).1 (by simp)];exact hg2
  have hll:(l.take i++e::l.drop i).length=n+1:=by simp[hln];omega
  refine⟨_,rfl,?_,((hT2.trans0 hW).trans (UP W w.heap.size R3) (by simp) (λx hx=>.inr (by simp at hx;omega))),λb hb=>.inr (by simp[Value.ownBlock]at hb;omega)⟩
  unfold Sl
  rw[hll]
  exact⟨by rw[Gj,hll],.inr ⟨_,G,R3,rfl,Am _,setRow_heap W _ R2 R3 _ (0,0) hgW,hGn,hGm,hs3,ht3⟩⟩
 have hwi:∀z:Int,z=((n+1-i:Nat):Int)->(Builtin.append_ #[52,3] 52 #[.slice (some ⟨g,0,none⟩) i n,.int .i64 z]).run Tryz.prog w=.ok (.slice (some ⟨w.heap.size,0,none⟩) (n+1) G) W1:=λz hz=>by rw[hz];exact hrz
 have HZ:=Ga hwi
 have HA:=Ga hA
 have HB:=Ga hB
 have HF:=Ga hF
 have h1:¬((i:Int)=(n:Int)):=by omega
 have h2:(n:Int)<(n:Int)+1:=by omega
 have h3:i<=n:=by omega
 have h5:¬(n=i):=by omega
 have h6:¬(G=i):=by omega
 have h7:¬(G=i+1):=by omega
 have h8:i<=n+1:=by omega
 have h9:(i:Int)<=(n:Int):=by omega
 have h10:(i:Int)<=(n:Int)+1:=by omega
 clear hg htake hln hv hin hz0 hz1 hz2 hfl hcells hlt hld hold hrz hROW hR0 hR1 hW1 hg1 hT1 hR2 hs2 ht2 hg2 hT2 hR3 hs3 ht3 hA hB hF hwi
 go_enter Tryz.func222,Tryz.ntmps222
 go_wp2_with (first|(at_builtin;refine wpList_plain rfl (λK hK=>?_);refine Kc rfl rfl rfl (HZ.out _ (by omega)) ?_;go_simp)|(refine wpList_copy_runI _ rfl _ _ 52 52 rfl _ _ rfl rfl (HA.out _ _ _ _ (by omega) (by simp only[Nat.min_def];split<;>omega)) ?_;go_simp))
 refine LP [] [0,0,0,0,0,0,0,0,3] [0,1,2,3,4,5,6,7,8] [0,0,0,6,15,0,0,96,255] M9 (by kernel_rfl) ?_
 intro w1 hT
 have HT:=Ga hT
 clear hT
 go_wp2_with (first|(refine Cv rfl rfl rfl rfl (λ_ _=>?_)))
 refine Hj rfl rfl rfl (λK hK=>?_)
 refine wp_copy_runI _ _ _ 52 52 rfl _ _ rfl rfl (HB.out w1 HT.out _ _ _ _ _ _ _ (by omega) (by omega) (by simp only[Nat.min_def];split<;>omega)) ?_
 have HFF:=Ga (HF.out w1 HT.out)
 go_simp
 go_wp2_with (first|(refine Cv rfl rfl rfl rfl (λ_ _=>?_))|refine GN ?_)
 go_ret
 exact HFF.out
set_option maxRecDepth 100000 in
set_option maxHeartbeats 2000000 in
theorem Yu(g n i cap:Nat)(cur:Array Value)(l:List Edg)(e:Edg)(w:World)(hg:w.heap[g]? =some (.cells cur 90 (0,0)))(hcs:cur.size=cap*2)(htake:cur.toList.take (n*2)=l.flatMap Cr)(hln:l.length=n)(hi:i<n)(hl:n<=4294967296)(hroom:n+1<=cap)(hcm:cap<=maxLen)
  (vb vo vc:Nat) (hvb:vb≠g) (hv:∀j u,(Cr e)[j]? =some u->w.cell? ⟨vb,vo+j,none⟩=some u):
  Calls Tryz.prog 222 #[.slice (some ⟨g,0,none⟩) n cap,.int .i64 i,.slice (some ⟨vb,vo,none⟩) 1 vc] w (LB (l.take i++e::l.drop i) w (.slice (some ⟨g,0,none⟩) n cap)):=by
 have mixed:=M9
 obtain⟨i0,hin,hz0,hz1,hz2⟩:=info_parts VP
 have hfl:(l.flatMap Cr).length=n*2:=by rw[Gj,hln]
 have hgl:=(Ak.1 hg).1
 have hcells:∀j u,(l.flatMap Cr)[j]? =some u->w.cell? ⟨g,j,none⟩=some u:=λj u hu=>by
  rw[<-htake,CY]at hu
  split at hu
  ·simp only[World.cell?,hg];simpa using hu
  ·cases hu
 have hlt:((l.take i).flatMap Cr).length=i*2:=by rw[Gj,AA,hln];omega
 have hld:((l.drop i).flatMap Cr).length=(n-i)*2:=by rw[Gj,List.length_drop,hln]
 have hT1:∀W,Tch [] w W->W.heap[g]? =some (.cells cur 90 (0,0)):=λW hW=>by rw[hW.blk _ hgl (by simp)];exact hg
 obtain⟨R2,hR2⟩:∃R,R=(cur.toList.take ((i+1)*2)++(l.drop i).flatMap Cr++cur.toList.drop ((i+1)*2+((l.drop i).flatMap Cr).length)).toArray:=⟨_,rfl⟩
 have hs2:R2.size=cap*2:=by rw[hR2,BC,PX _ _ _ (by simp only[HG,hcs,hld];omega)];simpa using hcs
 have ht2:R2.toList.take (i*2)=(l.take i).flatMap Cr:=by
  rw[hR2,Sz,<-htake]
  simp only[Bj]
  rw[BW (by simp[hcs];omega),HW,HW]
  congr 1;omega
 have hd2:R2.toList.drop (i*2+(Cr e).length)=(l.drop i).flatMap Cr++cur.toList.drop ((i+1)*2+((l.drop i).flatMap Cr).length):=by
  rw[hR2]
  simp only[Bj]
  rw[List.drop_append_of_le_length (by simp[hcs,Cr];omega),C0 (by simp[hcs,Cr];omega),BB]
 obtain⟨R3,hR3⟩:∃R,R=(R2.toList.take (i*2)++Cr e++R2.toList.drop (i*2+(Cr e).length)).toArray:=⟨_,rfl⟩
 have hs3:R3.size=cap*2:=by rw[hR3,BC,PX _ _ _ (by simp only[HG,hs2];simp[Cr];omega)];simpa using hs2
 have ht3:R3.toList.take ((n+1)*2)=(l.take i++e::l.drop i).flatMap Cr:=by
  rw[CO,BD,hR3,hd2,ht2]
  simp only[<-Bj]
  rw[BW (by simp only[Ah,hlt,hld];simp[Cr];omega),Al (by simp only[Ah,hlt,hld];simp[Cr];omega)]
 have hB:∀W,Tch [] w W->∀ty o dl dc so sl sc,o=(i+1)*2->so=i*2->Nat.min sl dl=n-i->(Builtin.copy_ #[52,52] ty #[.slice (some ⟨g,o,none⟩) dl dc,.slice (some ⟨g,so,none⟩) sl sc]).run Tryz.prog W=.ok (goInt (n-i:Nat)) (W.setRow g R2):=λW hW ty o dl dc so sl sc ho hso hm=>by
  have:=Ia (P:=Tryz.prog) W 52 52 ty 90 2 g ((i+1)*2) dl dc ⟨g,i*2,none⟩ sl sc cur _ ((l.drop i).flatMap Cr) Tryz.underlying52 (by rw[hin];simp[hz1]) (hT1 W hW) (by rw[hm,hld])
   (λj u hj=>by rw[DA];rw[S0,MW]at hj;exact hW.cell (hcells _ u hj) (by simp)) (by rw[hcs,hld];omega) (λu hu=>by obtain⟨x,_,hx⟩:=AL.1 hu;exact IP x u hx)
  rw[hm,<-hR2]at this
  rw[ho,hso];exact this
 have hA:∀W,Tch [] w W->∀ty o dl dc,o=i*2->Nat.min 1 dl=1->(Builtin.copy_ #[52,52] ty #[.slice (some ⟨g,o,none⟩) dl dc,.slice (some ⟨vb,vo,none⟩) 1 vc]).run Tryz.prog (W.setRow g R2)=.ok (goInt 1) ((W.setRow g R2).setRow g R3):=λW hW ty o dl dc ho hm=>by
  have:=Ia (P:=Tryz.prog) (W.setRow g R2) 52 52 ty 90 2 g (i*2) dl dc ⟨vb,vo,none⟩ 1 vc R2 _ (Cr e) Tryz.underlying52 (by rw[hin];simp[hz1]) (setRow_heap W g cur R2 _ (0,0) (hT1 W hW)) (by rw[hm];rfl) (λj u hj=>by rw[DA];exact(hW.ahead0 (UP W g R2)).cell (hv j u hj) (by simpa using hvb)) (by rw[hs2];simp[Cr];omega) (IP e)
  rw[hm,<-hR3]at this
  rw[ho];exact this
 have hF:∀W,Tch [] w W->LB (l.take i++e::l.drop i) w (.slice (some ⟨g,0,none⟩) n cap) (.returned (.slice (some ⟨g,0,none⟩) (n+1) cap)) ((W.setRow g R2).setRow g R3):=λW hW=>by
  have hll:(l.take i++e::l.drop i).length=n+1:=by simp[hln];omega
  refine⟨_,rfl,?_,(hW.ahead0 (UP W g R2)).trans0 (UP _ g R3),λb hb=>.inl hb⟩
  unfold Sl
  rw[hll]
  exact⟨by rw[Gj,hll],.inr ⟨_,cap,R3,rfl,Am _,setRow_heap _ _ R2 R3 _ (0,0) (setRow_heap W g cur R2 _ (0,0) (hT1 W hW)),hroom,hcm,hs3,ht3⟩⟩
 have hov:∀lb cb,(callFunc 265 #[.slice (some ⟨vb,vo,none⟩) 1 vc,.slice (some ⟨g,(i+1)*2,none⟩) lb cb]).run Tryz.prog w=.ok (.value (.bool false)) w:=λlb cb=>by
  have hc0:=hv 0 _ rfl
  unfold World.cell? at hc0
  have hsome:∃cA tA frA,w.heap[vb]? =some (.cells cA tA frA)/\cA.size≠0:=by
   cases hh:w.heap[vb]? with
   |none=>simp[hh]at hc0
   |
    some o=>
    cases o with
    |
     cells c t fr=>
     refine⟨c,t,fr,rfl,λh0=>?_⟩
     simp only[hh]at hc0
     simp at hc0
     have:=(Ak.1 hc0).1
     omega
    |_=>simp[hh]at hc0
  obtain⟨cA,tA,frA,ha,hA0⟩:=hsome
  rw[run_callFunc_extern Tryz.func265 (by kernel_rfl) (by kernel_rfl) (by kernel_rfl) (e:=Extern.SlicesOverlaps.overlaps #[52,52] #[4]) (by kernel_rfl),
   QX w 52 4 90 Tryz.underlying52 2 (λw=>by kernel_rfl) ⟨vb,vo,none⟩ ⟨g,(i+1)*2,none⟩ 1 vc lb cb hvb ha hg hA0 (by omega)]
  rfl
 have HA:=Ga hA
 have HB:=Ga hB
 have HF:=Ga hF
 have h1:¬((i:Int)=(n:Int)):=by omega
 have h2:¬((cap:Int)<(n:Int)+1):=by omega
 have h3:i<=n:=by omega
 have h5:¬(cap=i):=by omega
 have h7:¬(cap=i+1):=by omega
 have h8:i<=n+1:=by omega
 have h9:(i:Int)<=(n:Int):=by omega
 have h10:(i:Int)<=(n:Int)+1:=by omega
 have hcm':cap<=9223372036854775807:=by unfold maxLen at hcm;omega
 clear hg hcs htake hln hv hin hz0 hz1 hz2 hfl hcells hlt hld hT1 hR2 hs2 ht2 hd2 hR3 hs3 ht3 hA hB hF hcm
 go_enter Tryz.func222,Tryz.ntmps222
 go_wp2_with (simp only[hov])
 refine LP [] [0,0,0,0,0,0,0,0,3] [0,1,2,3,4,5,6,7,8] [0,0,0,6,15,0,0,96,255] M9 (by kernel_rfl) ?_
 intro w1 hT
 have HT:=Ga hT
 clear hT
 go_wp2_with (first|(refine Cv rfl rfl rfl rfl (λ_ _=>?_)))
 refine Hj rfl rfl rfl (λK hK=>?_)
 refine wp_copy_runI _ _ _ 52 52 rfl _ _ rfl rfl (HB.out w1 HT.out _ _ _ _ _ _ _ (by omega) (by omega) (by simp only[Nat.min_def];split<;>omega)) ?_
 have HFF:=Ga (HF.out w1 HT.out)
 have HAA:=Ga (HA.out w1 HT.out)
 go_simp
 go_wp2_with (first|(refine Cv rfl rfl rfl rfl (λ_ _=>?_))|refine GN ?_|(refine wpList_copy_runI _ rfl _ _ 52 52 rfl _ _ rfl rfl (HAA.out _ _ _ _ (by omega) (by simp only[Nat.min_def];split<;>omega)) ?_))
 go_ret
 exact HFF.out
theorem sF(v:Value)(l:List Edg)(e:Edg)(i:Nat)(hi:i<=l.length)(w:World)(h:Sl 90 2 Cr w v l)(hl:l.length<=4294967296)(vb vo vc:Nat)(hvb:vb∉v.ownBlock.toList)(hv:∀j u,(Cr e)[j]? =some u->w.cell? ⟨vb,vo+j,none⟩=some u):
  Calls Tryz.prog 222 #[v,.int .i64 i,.slice (some ⟨vb,vo,none⟩) 1 vc] w (LB (l.take i++e::l.drop i) w v):=by
 by_cases hin:i=l.length
 ·subst hin
  rw[Ez,List.drop_length]
  exact jV v l e w h hl vb vo vc hv
 ·rcases h.2 with⟨rfl,hl0⟩|⟨g,cap,cur,rfl,_,hg,hnc,hcm,hcs,htake⟩
  ·omega
  ·by_cases hroom:l.length+1<=cap
   ·exact Yu g l.length i cap cur l e w hg hcs htake rfl (by omega) hl hroom hcm vb vo vc (by simpa[Value.ownBlock]using hvb) hv
   ·have hc:cap=l.length:=by omega
    subst hc
    exact bL g l.length i cur l e w hg htake rfl (by omega) hl vb vo vc hv
end Go.Proofs.YtjpmmkodoeipmaaGreatDoor
end
section
namespace Go.Gr
def vZ(f:Nat->Nat->Bool)(a b:Nat):List Edg:=((List.range b).filter λx=>decide (a<x)&&f a x).map λx:Nat=>⟨(a:Int),(x:Int)⟩
def Z1(f:Nat->Nat->Bool)(n a:Nat):List Edg:=(List.range a).flatMap λj=>vZ f j n
theorem Rs {f:Nat->Nat->Bool} {n a:Nat} {e:Edg}:e∈Z1 f n a↔∃j x:Nat,j<a/\x<n/\j<x/\f j x=true/\e=⟨(j:Int),(x:Int)⟩:=by
 simp only[Z1,vZ,AL,AM,An,Az,Ap,decide_eq_true_eq]
 constructor
 ·rintro⟨j,hj,x,⟨h1,h2,h3⟩,rfl⟩;exact⟨j,x,hj,h1,h2,h3,rfl⟩
 ·rintro⟨j,x,hj,h1,h2,h3,rfl⟩;exact⟨j,hj,x,⟨h1,h2,h3⟩,rfl⟩
def Ww(E:List Edg)(L:List Int)(a b:Nat):Bool:=AEa E ((L[a]?).getD 0) ((L[b]?).getD 0)
def UC(E:List Edg)(L:List Int):List Edg:=Z1 (Ww E L) L.length L.length
end Go.Gr
end
section
namespace Go.Gr
section
variable {n:Nat} {ok:List Int->Int->Bool}
def AED(n:Nat)(ok:List Int->Int->Bool):Nat->List Int->List (List Int)
 |0,l=>[l]
 |k+1,l=>((List.range n).filter λv:Nat=>ok l v).flatMap λv:Nat=>AED n ok k (l++[(v:Int)])
end
end Go.Gr
end
section
namespace Go.Sx
open Go Go.RowKit Go.Reg
section
variable {C:Cx} {T:Hh} {B S:List Nat} {w0 w:World} {n kd:Nat} {fr:Fr} {σ:Sg} {η:Nat->Value} {φ:Nat->List Nat} {a:Act}
theorem Models.pin(hM:Models C B S w0 n fr σ η φ a w) {g:Nat}(hg:BI g σ=none) {x:Da} {u:Value}(hr:Rep (B++Ao φ σ) w x u):Models C B S w0 n fr ((g,.ghost [u] [.d x])::σ) (CE η g .nilFunc) (CE φ g []) a w:=by
 have hi':=CQ hg
 obtain⟨cs,h1,h2⟩:=hr
 obtain⟨hm,hl⟩:=hM.mem.add (Tch.refl [] w) hi' (v:=.nilFunc) (F:=[]) (o:=.ghost [u] [.d x]) (by simp) ⟨rfl,rfl,[cs],by simp only[AE,AH];exact⟨_,_,rfl,h1,rfl⟩,by rw[h2];rfl⟩
 exact⟨hm,hM.fr.add hi' hl,hM.defers,hM.size⟩
def lW(C:Cx)(f:FuncId):Prop:=∀(w:World) (a:Option Addr) (n c:Nat),n<=c->c<=maxLen->
 (callFunc f #[.slice a n c]).run C.P w=.ok (.enter f #[.slice a n c]) w/\Calls C.P f #[.slice a n c] w λe w'=>e=.returned (.slice a n n)/\w'=w
theorem tT(g:Nat) {q:Bool} {f:FuncId} {args:List Dat} {k:Nat} {xs:List Da} {K:KD}(hg:BI g σ=none)(ha:EX args=some [.list k xs])(hf:lW C f)
  (hK:∀a,Ci (Fm g (.ghost [.slice a xs.length xs.length] [.d (.list k xs)]) σ) λσ=>K (.d (.raw (.slice a xs.length xs.length))) fr σ):Cj C q f args K fr σ:=by
 unfold Cj
 rintro B S w0 η φ n a w vs hM ⟨css,hr,rfl⟩
 obtain⟨h1,h2⟩:=Iw ha hr
 rw[h2]
 simp only[Aq,RepC]at h1
 obtain⟨c1,c2,rfl,⟨p,c,es,rfl,h3,h4,h5,h6,h7⟩,rfl⟩:=h1
 obtain⟨g1,g2⟩:=hf w p xs.length c h3 h4
 refine⟨g1,g2.mono ?_⟩
 rintro e w' ⟨rfl,rfl⟩
 have hrep:Rep (B++Ao φ σ) w' (.list k xs) (.slice p xs.length xs.length):=⟨[_],by simp only[RepC];exact⟨p,xs.length,es,rfl,Ax _,BH h3 h4,h5,h6,h7⟩,rfl⟩
 have hM2:=(hM.pin hg hrep).perm (C7 g _ σ)
 have hk:=hK p
 rw[Bw]at hk
 exact⟨_,_,fr,_,_,_,rfl,hk,hM2,⟨[_],by simp only[AH,RepC],rfl⟩,λ_=>(Tch.refl [] w').ext⟩
theorem SC {P:Program} {t:TypeId} {e ee:TyI}(h:TyOk P t e)(hk:e.kd=2)(h2:TyOk P e.elem ee)(hk0:0<ee.size)(hb0:ee.bytes<=1000) {p:Option Addr} {css:List (List Value)}(hrow:∀x∈css,ER ee.size x)(hcell:css=[]\/∃b o,p=some ⟨b,o,none⟩/\Fv w b o css.flatten)
  {O:List Nat} {es:List Da} {vy:Value} (hy:Src ee.size O w es vy) (hne:es≠[]) (hlen:css.length+es.length<=HN ee.bytes) (ty:TypeId):
  ∃v' w' css2,(Builtin.append_ #[t,t] ty #[.slice p css.length css.length,vy]).run P w=.ok v' w'/\Sl e.elem ee.size id w' v' (css++css2)/\Aq O w es css2/\(∀x∈css2,ER ee.size x)/\Tch [] w w'/\(∀b,v'.ownBlock=some b->w.heap.size<=b):=by
 cases p with
 |
  none=>
  have hc:css=[]:=hcell.resolve_right (by rintro⟨b,o,h,_⟩;cases h)
  subst hc
  obtain⟨v',w',css2,g1,g2,g3,g4,g5,g6⟩:=L7 (v:=.slice none 0 0) (css:=[]) h hk h2 hk0 hb0 (fI w 0 _ _) hy hlen ty
  refine⟨v',w',css2,g1,g2,g3,g4,g5,λb hb=>?_⟩
  rcases g6 with g6|g6
  ·rw[g6]at hb;cases hb
  ·rw[g6]at hb;cases hb;exact Ax _
 |
  some ad=>
  obtain⟨d,h1,_,h3,_,_,_,_,h8⟩:=h.desc
  rw[hk]at h8
  cases d<;>simp at h8
  have he:=h3 _ rfl
  subst he
  obtain⟨i,z,hi,hsize,hby,hz,_,_⟩:=h2.info
  obtain⟨av,c,css2,rfl,hr2,hk2,hsrc⟩:=hy.ex
  have hl2:=De hr2
  have hfl2:=KC (λx hx=>(hk2 x hx).1)
  have hfl:=KC (λx hx=>(hrow x hx).1)
  unfold HN at hlen
  have hbb:=Nat.mul_le_of_le_div _ _ _ hlen
  have hl0:css.length+es.length<=140737488355328:=BH hlen (Nat.div_le_self _ _)
  have h0:es.length≠0:=λe=>hne (AJ e)
  obtain⟨b,o,rfl,hcl⟩:∃b o,av=some ⟨b,o,none⟩/\Fv w b o css2.flatten:=hsrc.resolve_left hne
  have hnews:=RH hcl
  have hln:css2.flatten.length=es.length*i.size:=by rw[hfl2,hl2,hsize]
  have hlo:css.flatten.length=css.length*i.size:=by rw[hfl,hsize]
  have holds:∀j u,css.flatten[j]? =some u->w.cell? (ad.add j)=some u:=by
   rcases hcell with rfl|⟨b',o',h',hc'⟩
   ·intro j u hj;simp at hj
   ·cases h';exact RH hc'
  have hzs:z.cells.size=i.size:=by
   obtain⟨i',z',g1,g2,_,g4,_,g6⟩:=h2.info
   rw[hi]at g1;cases g1
   rw[hz]at g4;cases g4
   have:=FF _ _ (g6 [] w)
   have hsz:=h2.zsize
   simp at this
   omega
  have hx:=run_append_grow (P:=P) w t ty e.elem i z h1 hi hz ad css.length css.length css.flatten hlo holds ⟨b,o,none⟩ es.length c css2.flatten hln hnews (by omega) (by omega) (growslice_fits (by omega) (by rw[hby];omega))
  refine⟨_,_,css2,hx,?_,hr2,hk2,⟨rfl,rfl,rfl,by simp,λk hk _=>by first|exact heap_alloc_old w.drew _ hk|exact heap_alloc_old w.drew _ _ hk⟩,λb hb=>by cases hb;exact Ax _⟩
  have hge:=grownCap_ge w (css.length+es.length) css.length e.elem
  have hcm:grownCap w (css.length+es.length) css.length e.elem<=maxLen:=grownCap_le_maxLen w _ _ e.elem (by simp only[maxLen];omega)
  have hlen2:(css.flatten++css2.flatten).length=(css.length+es.length)*i.size:=by rw[Ah,hlo,hln,CV]
  unfold Sl
  rw[flatMap_id,Df,Ah,hl2,<-hsize]
  refine⟨hlen2,.inr ⟨w.heap.size,_,_,rfl,Am _,heap_alloc_new w.drew _,hge,hcm,?_,?_⟩⟩
  ·simp only[Pr,BC,size_zeroCells,hzs,hlo,hln,<-CV]
   congr 1
   omega
  ·simp only[Array.toList_append,Bj]
   rw[<-Bj,<-hlen2]
   exact List.take_left
end
section
variable {C:Cx} {T:Hh} {n kd:Nat} {fr:Fr} {σ:Sg}
def LH(t:Nat):Fr->Fr
 |[]=>[]
 |
  (s,d)::fr=>match Nat.beq s t with
  |true=>LH t fr
  |false=>(s,d)::LH t fr
theorem MD(t:Nat):∀fr:Fr,get (LH t fr) t=.d .undef
 |[]=>rfl
 |
  (u,d)::fr=>by
  rcases BN u t with⟨hb,e⟩|⟨hb,e⟩
  ·simp only[LH,hb];exact MD t fr
  ·simp only[LH,hb,get];exact MD t fr
theorem Ns(t s:Nat):∀fr:Fr,get (LH t fr) s=.d .undef\/get (LH t fr) s=get fr s
 |[]=>.inr rfl
 |
  (u,d)::fr=>by
  rcases BN u t with⟨hb,e⟩|⟨hb,e⟩
  ·simp only[LH,hb]
   rcases Ns t s fr with h|h
   ·exact .inl h
   ·rcases BN u s with⟨h1,e1⟩|⟨h1,e1⟩
    ·left
     subst e1
     subst e
     exact MD u fr
    ·right;simp only[get,h1];exact h
  ·simp only[LH,hb,get]
   rcases BN u s with⟨h1,e1⟩|⟨h1,e1⟩
   ·right;simp only[h1]
   ·simp only[h1];exact Ns t s fr
theorem iU(g j tx:Nat) {o:Oper} {K:Fr->Sg->Prop} {t:TypeId} {y:Operand} {e ee:TyI} {p:Option Addr} {m k:Nat} {xs es:List Da}(hC:C.Ok T)(ho:o.op=.call {callee:=.builtin .append,args:=#[.tmp tx,y],argTypes:=#[t,t]})
  (he:GQ t T=some e) (hk2:e.kd=2) (hee:GQ e.elem T=some ee) (hk0:0<ee.size) (hb0:ee.bytes<=1000) (hkk:k=ee.size) (hx:get fr tx=.d (.raw (.slice p m m))) (hg:BI g σ=some (.ghost [.slice p m m] [.d (.list k xs)])) (hy:cT (ev C.Γ fr y) k σ=some es) (hne:es≠[]) (hj:BI j σ=none)
  (hkd:kd=3) (hd:Dh o.dst n=true) (hlen:xs.length+es.length<=HN ee.bytes) (hz:yB (CF o.dst (.own j) (LH tx fr)) (Fm j (.slice e.elem ee.size (xs++es)) (Dc id g σ))=true) (hs:Pk (Fm j (.slice e.elem ee.size (xs++es)) (Dc id g σ)) (Fm j (.slice e.elem ee.size (xs++es)) σ)) (hK:Ci (Fm j (.slice e.elem ee.size (xs++es)) (Dc id g σ)) λσ=>K (CF o.dst (.own j) (LH tx fr)) σ):Bm C n kd o K fr σ:=by
 subst hkd
 subst hkk
 refine Jg (by decide) (by decide) λB S w0 η φ a' w hM=>?_
 refine .inr ⟨(λh=>by cases h),.inl ?_⟩
 have ex:a'.eval (.tmp tx)=.slice p m m:=by
  obtain⟨cs,r,e⟩:=Eg (Bb hM (.tmp tx)) hx
  simp only[RepC]at r
  subst r
  exact e
 obtain⟨_,_,css,h1,h2⟩:=hM.mem.own _ (AQ hg)
 simp only[AE,AH,RepC]at h1
 obtain⟨c1,c2,rfl,⟨q,c,rows,rfl,h3,h4,h5,h6,h7⟩,rfl⟩:=h1
 have h2:Value.slice p m m=.slice q xs.length c:=by simpa[Ch,Ea]using h2
 simp only[Value.slice.injEq]at h2
 obtain⟨rfl,rfl,rfl⟩:=h2
 have hrl:=De h5
 have hcell:rows=[]\/∃b o,p=some ⟨b,o,none⟩/\Fv w b o rows.flatten:=by
  rcases h7 with h7|⟨b,o,h8,_,_,h9⟩
  ·left
   rw[h7]at hrl
   exact AJ hrl
  ·exact .inr ⟨b,o,h8,h9⟩
 have hsrc:=Vj hM.mem hy (Bb hM y)
 obtain⟨v',w',css2,g1,g2,g3,g4,g5,g6⟩:=SC (hC.ty he) hk2 (hC.ty hee) hk0 hb0 h6 hcell hsrc hne (by rw[hrl];exact hlen) o.type
 rw[hrl]at g1
 have:=hM.add (o:=.slice e.elem ee.size (xs++es)) (v:=v') (F:=v'.ownBlock.toList) g5 (CQ hj) (λb hb=>g6 b (by simpa using hb)) (λO' hl=>⟨rows++css2,g2,rfl,FJ (Aq.later hl _ _ h5) (Aq.later hl _ _ g3),λx hx=>by
  rcases Ag.1 hx with hx|hx
  ·exact h6 x hx
  ·exact g4 x hx⟩) hd
 rw[Bw]at hK
 have M3:=(this.perm (C7 _ _ _)).sub' (fr':=CF o.dst (.own j) (LH tx fr)) (λs=>by
  cases hdst:o.dst with
  |none=>exact Ns tx s fr
  |
   some d=>
   simp only[CF,get]
   rcases BN d s with⟨h1,_⟩|⟨h1,_⟩
   ·right;simp only[h1]
   ·simp only[h1];exact Ns tx s fr)
 refine⟨v',w',?_,_,_,_,_,M3.only hz hs,hK⟩
 simp only[execOp,ho]
 simp only[resolve,invoke,builtin,AK,Bo,AF,HX,Ar,Bu,ex,g1]
end
end Go.Sx
end
section
namespace Go.Gr
open Go.Proofs.YtjpmmkodoeipmaaGreatDoor
def AFD(p:Pt)(i:Nat):Int:=(p.labels[i]?).getD 0
def AE6(p:Pt)(i j:Nat):Bool:=decide (turn ⟨(i:Int),(j:Int)⟩∈p.edges)
def AEF(G:Gr)(u v:Int):Bool:=decide (turn ⟨u,v⟩∈G.edges)
def Mq(n:Nat)(ok:List Int->Int->Bool)(k:Nat)(l:List Int)(v:Nat):List (List Int):=((List.range v).filter λv:Nat=>ok l v).flatMap λv:Nat=>AED n ok k (l++[(v:Int)])
end Go.Gr
namespace Go.Proofs.YtjpmmkodoeipmaaGreatDoor
open Go.Sx Go.RowKit Go.Reg Go.Gr
set_option maxRecDepth 100000
def dLL(X:List (List Int)):Da:=.list 1 (X.map Bn)
theorem ACy:lW C1 58:=by
 intro w a n c hn hc
 refine⟨by kernel_rfl,?_⟩
 show Calls Tryz.prog _ _ _ _
 go_enter Tryz.func58,Tryz.ntmps58
 go_wp2
 go_ret
 exact⟨rfl,rfl⟩
end Go.Proofs.YtjpmmkodoeipmaaGreatDoor
end
section
namespace Go.Gr
open Go.Proofs.YtjpmmkodoeipmaaGreatDoor
theorem MZ {a b:Int}(h:a<=b):turn ⟨a,b⟩=⟨a,b⟩:=by unfold turn;simp only[Edg.mk.injEq];omega
theorem lZ {a b:Int}(h:b<=a):turn ⟨a,b⟩=⟨b,a⟩:=by unfold turn;simp only[Edg.mk.injEq];omega
theorem K7 {E:List Edg}(h:∀e∈E,e.a<e.b)(x y:Int):AEa E x y=decide (turn ⟨x,y⟩∈E):=by
 rw[CJ,decide_eq_true_eq]
 unfold AEa
 rw[Cp]
 constructor
 ·rintro⟨e,he,hc⟩
  have hc:=of_decide_eq_true hc
  have hl:=h e he
  obtain⟨a,b⟩:=e
  simp only at hc hl
  rcases hc with⟨rfl,rfl⟩|⟨rfl,rfl⟩
  ·rw[MZ (by omega)];exact he
  ·rw[lZ (by omega)];exact he
 ·intro he
  refine⟨_,he,decide_eq_true ?_⟩
  rcases Int.le_total x y with hxy|hxy
  ·rw[MZ hxy];exact .inl ⟨rfl,rfl⟩
  ·rw[lZ hxy];exact .inr ⟨rfl,rfl⟩
end Go.Gr
end
