/- Merged: Vlc Vlg Lng Vli Srq Pgl Pdg Pgw. -/
import Derived.Test.YtjejpdfldmempaaGreatDoorltaw
import Derived.Test.YtjejpdfldmempaaGreatDoorltav
import Derived.Test.YtjejpdfldmempaaGreatDoorltan
import Derived.Test.YtjejpdfldmempaaGreatDoorltau
import Derived.Test.YtjejpdfldmempaaGreatDoorltas
section
namespace Go.Proofs.YtjejpdfldmempaaGreatDoor
open Go.Sx Go.RowKit Go.Reg Go.Gr
set_option maxRecDepth 100000
def PG(E:List Edg)(l:List Int)(v:Int):Bool:=decide (l=[])||decide (0<=VG E l v)
def UL(E:List Edg):Nat->List Int->List Int->Option (List Int)
 |0,l,_=>some l
 |
  n+1,l,left=>match left.findIdx? (PG E l)with
  |some i=>UL E n (l++[left[i]?.getD 0]) (left.eraseIdx i)
  |none=>none
def PQ(G:Gr)(s:List Int):Option (List Int):=if(Dx s).any (λv=>!E0 G v)=true then none else UL G.edges (Dx s).length [] (Dx s)
end Go.Proofs.YtjejpdfldmempaaGreatDoor
namespace Go.Proofs.YtjejpdfldmempaaGreatDoor
open Go.Sx Go.RowKit Go.Reg Go.Gr
set_option maxRecDepth 100000
def Ec(G:Gr)(l:List Int)(v:Int):Bool:=match l[0]? with
 |none=>E0 G v
 |
  some y=>match l.findIdx? (Gd G.edges v)with
  |none=>false
  |some i=>!decide (v∈l)&&(!decide (v<y)&&!(l.drop (i+1)).any (λu=>decide (v<u)))
theorem iK(l:List Int)(i:Nat):Bx (l.drop i)=.list 1 ((l.map dI).drop i):=by unfold Bx;rw[List.map_drop]
theorem X9(v u:Int):Pure C1 188 [.int .i64 u,.ref (.int .i64 v)] (λy=>y=.bool (decide (v<u))):=by
 refine AT Tryz.func188 Tryz.ntmps188 [] [] ?_
 ((conv=>whnf);repeat' ((first|refine odw ?_|refine nx ?_|refine A5 (λ_=>?_) (λ_=>?_))<;>conv=>whnf))
 exact rfl
def pP:List (Nat×Plan):=[(4,.leaf [0,0,0,0,1,2,0,0,1,0,0,1,0,0] [0,1,2,3,4,5,6,7,9,10,8,11,12,13] [0,1,3,7,7,31,63,127,255,255,767,1791,4095,8191])]
def sO:List FuncId:=[184,185,186,187]
theorem RO(G:Gr)(hG:G.Ok)(l:List Int)(v:Int):Pure C1 123 [dG G,Bx l,.int .i64 v] (λy=>y=.bool (Ec G l v)):=by
 refine Pure.assume (λO w us hr=>by obtain⟨v,vs,rfl,h1,h2⟩:=Cb hr;obtain⟨v2,vs2,rfl,h3,_⟩:=Cb h2;exact Jv h3) λhm=>?_
 have hll:(l.map dI).length=l.length:=Ac _
 refine AT Tryz.func123 Tryz.ntmps123 sO pP ?_
 cases hx:l[0]? with
 |
  none=>
  have hl:l=[]:=by cases l with|nil=>rfl|cons x l=>simp at hx
  subst hl
  (conv=>whnf)
  (repeat' ((first|refine Ai ?_ ?_|refine Aj rfl (QV G v) ?_|refine nx ?_|refine A5 (λ_=>?_) (λ_=>?_)|exact AA)<;>conv=>whnf))
  exact rfl
 |
  some y=>
  have hpos:=(Ad.1 hx).1
  have hxd:(l.map dI)[0]? =some (.int .i64 y):=by rw[Af,hx];rfl
  have hbs:=VF G hG l v
  have hct:=FT l v
  have he:Ec G l v=match l.findIdx? (Gd G.edges v)with
   |none=>false
   |some i=>!decide (v∈l)&&(!decide (v<y)&&!(l.drop (i+1)).any (λu=>decide (v<u))):=by unfold Ec;rw[hx]
  rw[he]
  unfold VG Qf at hbs
  cases hf:l.findIdx? (Gd G.edges v)with
  |
   none=>
   rw[hf]at hbs
   simp only[Ka]at hbs
   (conv=>whnf)
   (repeat' ((first|refine Ai ?_ ?_|refine Aj rfl hbs ?_|refine nx ?_|refine A5 (λ_=>?_) (λ_=>?_)|exact AA)<;>conv=>whnf))
   exact rfl
  |
   some i=>
   rw[hf]at hbs
   simp only[Ka]at hbs
   have hil:i<l.length:=by
    rw[AJ]at hf
    exact hf.1
   by_cases hc:v∈l
   ·rw[decide_eq_true hc]at hct⊢
    (conv=>whnf)
    (repeat' ((first|refine Ai ?_ ?_|refine Aj rfl hbs ?_|refine Aj rfl hct ?_|refine nx ?_|refine A5 (λ_=>?_) (λ_=>?_)|exact AA)<;>conv=>whnf))
    exact rfl
   ·rw[decide_eq_false hc]at hct⊢
    by_cases hv:v<y
    ·rw[decide_eq_true hv]
     (conv=>whnf)
     (repeat' ((first|refine Ai ?_ ?_|refine Aj rfl hbs ?_|refine Aj rfl hct ?_|refine AM hxd rfl ?_|refine nx ?_|refine A5 (λ_=>?_) (λ_=>?_)|exact AA)<;>conv=>whnf))
     exact rfl
    ·rw[decide_eq_false hv]
     have hcf:=GG (l.drop (i+1)) 188 [.ref (.int .i64 v)] (λu=>decide (v<u)) (λu _=>X9 v u)
     rw[iK]at hcf
     (conv=>whnf)
     (repeat' ((first|refine Ai ?_ ?_|refine Aj rfl hbs ?_|refine Aj rfl hct ?_|refine AM hxd rfl ?_|refine Ym (i+1) rfl (by omega) ?_|refine Bc tab rfl hcf rfl ?_|refine nx ?_|refine A5 (λ_=>?_) (λ_=>?_)|exact AA)<;>conv=>whnf))
     exact rfl
def Dk(G:Gr)(l:List Int):Bool:=(List.range l.length).all λi=>match l[i]? with
 |some v=>Ec G (l.take i) v
 |none=>true
theorem RY {G:Gr} {l:List Int} {i:Nat} {v:Int}(h:l[i]? =some v)(h2:Ec G (l.take i) v=false):Dk G l=false:=by
 unfold Dk
 rw[List.all_eq_false]
 exact⟨i,by simp[(Ad.1 h).1],by simp[h,h2]⟩
theorem IC {G:Gr} {l:List Int}(h:∀(i:Nat) (v:Int),l[i]? =some v->Ec G (l.take i) v=true):Dk G l=true:=by
 unfold Dk
 rw[Cr]
 intro i _
 cases hx:l[i]? with
 |none=>rfl
 |some v=>exact h i v hx
def oL:List FuncId:=[123]
theorem XN(G:Gr)(hG:G.Ok)(l:List Int):Pure C1 81 [dG G,Bx l] (λy=>y=.bool (Dk G l)):=by
 refine Pure.assume (λO w us hr=>by obtain⟨v,vs,rfl,h1,h2⟩:=Cb hr;obtain⟨v2,vs2,rfl,h3,_⟩:=Cb h2;exact Jv h3) λhm=>?_
 have hl:(l.map dI).length=l.length:=Ac _
 refine AT Tryz.func81 Tryz.ntmps81 oL [] ?_
 ((conv=>whnf);repeat' ((first|refine odw ?_|refine nx ?_|refine A5 (λ_=>?_) (λ_=>?_))<;>conv=>whnf))
 refine AN (ι:=Nat) (λi=>i<=l.length/\∀(j:Nat) (v:Int),j<i->l[j]? =some v->Ec G (l.take j) v=true) (λi=>[(9,.d (.int .i64 i)),(8,.d (.int .i64 (l.map dI).length)),(7,.d (Bx l)),(1,.d (Bx l)),(0,.d (dG G))]) (λ_=>[]) (λi=>l.length-i) 0 (λ_=>rfl) ⟨As _,by intro j v h;omega⟩ (.refl _ _) ⟨rfl,rfl,rfl,rfl,rfl,trivial⟩ trivial ?_
 rintro i ⟨hi,hne⟩
 refine BV oL [] ?_
 by_cases hlt:i<l.length
 ·have hx:=Ab hlt
  generalize l[i]=y at hx
  have hxd:(l.map dI)[i]? =some (.int .i64 y):=by rw[Af,hx];rfl
  have h1:=RO G hG (l.take i) y
  rw[M5]at h1
  have hi2:i<=(l.map dI).length:=by omega
  cases hv:Ec G (l.take i) y with
  |
   false=>
   rw[hv]at h1
   rw[RY hx hv]
   (conv=>whnf)
   (repeat' ((first|refine Ai ?_ ?_|refine AM hxd rfl ?_|refine Jy rfl hi2 ?_|refine Aj rfl h1 ?_|refine nx ?_|refine A5 (λ_=>?_) (λ_=>?_)|exact AA)<;>conv=>whnf))
   exact rfl
  |
   true=>
   rw[hv]at h1
   (conv=>whnf)
   (repeat' ((first|refine Ai ?_ ?_|refine AM hxd rfl ?_|refine Jy rfl hi2 ?_|refine Aj rfl h1 ?_|refine nx ?_|refine A5 (λ_=>?_) (λ_=>?_)|exact AA)<;>conv=>whnf))
   refine⟨i+1,_,_,⟨hlt,?_⟩,.refl _ _,⟨rfl,rfl,rfl,rfl,rfl,trivial⟩,trivial,by omega⟩
   intro j v hj hjv
   by_cases hji:j=i
   ·subst hji;rw[hx]at hjv;cases hjv;exact hv
   ·exact hne j v (by omega) hjv
 ·rw[IC (λj v h=>hne j v (by have:=(Ad.1 h).1;omega) h)]
  ((conv=>whnf);repeat' ((first|refine odw ?_|refine nx ?_|refine A5 (λ_=>?_) (λ_=>?_))<;>conv=>whnf))
  exact rfl
end Go.Proofs.YtjejpdfldmempaaGreatDoor
namespace Go.Proofs.YtjejpdfldmempaaGreatDoor
open Go.Sx Go.RowKit Go.Reg Go.Gr
set_option maxRecDepth 100000
theorem VE(a b:List Int)(ha:a.length<=4294967296)(hr:b.Pairwise (· < ·))(hl:b.length<=4294967296):D4 C1 199 [Bx a,Bx b] 3 1 (λds=>ds=(a.filter λx=>!decide (x∈b)).map dI):=by
 refine UB Tryz.func199 Tryz.ntmps199 rD lQ ?_
 (conv=>whnf)
 refine Q4 tab 29 rfl rfl (aI a _ [.ref (Bx b)] _ ha (λx _=>bM b hr hl x)) (λds h=>by subst h;exact I6 _) ?_;rintro ds rfl
 ((conv=>whnf);repeat' ((first|refine odw ?_|refine nx ?_|refine A5 (λ_=>?_) (λ_=>?_))<;>conv=>whnf))
 exact⟨rfl,rfl,rfl⟩
def CY(G:Gr)(v:Int):List Int:=if 0<=v/\v<G.labels.length then Df G.edges v.toNat else[]
theorem Nq {G:Gr}(hG:G.Ok)(v:Int):(CY G v).length<=32768:=by
 unfold CY
 split
 ·have:=Qz G.edges v.toNat
  have:=hG.esize
  unfold F3 at*;omega
 ·simp
def F0(G:Gr)(l:List Int):List Int:=if l=[]then Gk G.labels.length else(Dx (l.flatMap (CY G))).filter λx=>!decide (x∈Dx l)
theorem H6 {G:Gr}(hG:G.Ok)(l:List Int):(l.flatMap (CY G)).length<=l.length*32768:=by
 induction l with
 |nil=>simp
 |
  cons x l ih=>
  have:=Nq hG x
  simp only[AZ,Ae,Ax];omega
theorem PI {G:Gr} {l:List Int} {i:Nat} {x:Int}(h:l[i]? =some x):(l.take (i+1)).flatMap (CY G)=(l.take i).flatMap (CY G)++CY G x:=by
 rw[A2,h,BY,BH];simp
def Sd:List FuncId:=[198]
theorem ZS(G:Gr)(hG:G.Ok)(l:List Int)(hb:l.length<=100000):D4 C1 137 [dG G,Bx l] 3 1 (λds=>ds=(F0 G l).map dI):=by
 have hll:(l.map dI).length=l.length:=Ac _
 have hsz:=hG.size
 refine UB Tryz.func137 Tryz.ntmps137 Sd [] ?_
 unfold F0
 by_cases hl:l=[]
 ·rw[if_pos hl]
  subst hl
  (conv=>whnf)
  (repeat' ((first|refine Ai ?_ ?_|refine Aj rfl (HH G) ?_|refine nx ?_|refine A5 (λ_=>?_) (λ_=>?_)|exact AA)<;>conv=>whnf))
  refine AN (ι:=Nat) (λv=>v<=G.labels.length) (λv=>[(14,.d (.int .i64 v)),(13,.d (.int .i64 G.labels.length)),(5,.own 300)]) (λv=>[(300,.slice 3 1 ((Gk v).map dI))]) (λv=>G.labels.length-v) 0 (λ_=>rfl) (As _)
   (.own 5 300 3 1 rfl rfl (.refl _ _)) ⟨rfl,rfl,rfl,trivial⟩ ⟨rfl,trivial⟩ ?_
  intro v hv
  refine BV Sd [] ?_
  by_cases hlt:v<G.labels.length
  ·have hul:=Ho v
   have hfin:(Gk v).map dI++[.int .i64 (v:Int)]=(Gk (v+1)).map dI:=by rw[QY,AF];rfl
   ((conv=>whnf);repeat' ((first|refine odw ?_|refine nx ?_|refine A5 (λ_=>?_) (λ_=>?_))<;>conv=>whnf))
   exact⟨v+1,_,_,hlt,.refl _ _,⟨rfl,rfl,rfl,trivial⟩,⟨Bj hfin,trivial⟩,by omega⟩
  ·have:v=G.labels.length:=by omega
   subst this
   ((conv=>whnf);repeat' ((first|refine odw ?_|refine nx ?_|refine A5 (λ_=>?_) (λ_=>?_))<;>conv=>whnf))
   exact⟨rfl,rfl,rfl⟩
 ·rw[if_neg hl]
  have hl0:¬((l.map dI).length:Int)=0:=by rw[hll];have:=List.length_pos_iff.2 hl;omega
  ((conv=>whnf);repeat' ((first|refine odw ?_|refine nx ?_|refine A5 (λ_=>?_) (λ_=>?_))<;>conv=>whnf))
  refine AN (ι:=Nat) (λi=>i<=l.length) (λi=>[(25,.d (.int .i64 i)),(24,.d (.int .i64 (l.map dI).length)),(23,.d (Bx l)),(5,.own 300),(1,.d (Bx l)),(0,.d (dG G))]) (λi=>[(300,.slice 3 1 (((l.take i).flatMap (CY G)).map dI))]) (λi=>l.length-i) 0 (λ_=>rfl) (As _)
   (.own 5 300 3 1 rfl rfl (.refl _ _)) ⟨rfl,rfl,rfl,rfl,rfl,rfl,trivial⟩ ⟨rfl,trivial⟩ ?_
  intro i hi
  refine BV Sd [] ?_
  have hnl:=H6 hG (l.take i)
  rw[Aw]at hnl
  by_cases hlt:i<l.length
  ·have hx:=Ab hlt
   generalize l[i]=x at hx
   have hxd:(l.map dI)[i]? =some (.int .i64 x):=by rw[Af,hx];rfl
   have hst:=PI (G:=G) hx
   have hxl:=Nq hG x
   have hnp:=Np G hG x
   have hml:((l.take i).flatMap (CY G)).length+(CY G x).length<=4294967296:=by omega
   unfold Jn at hnp
   unfold CY at hst hxl hml
   by_cases hr:0<=x/\x<G.labels.length
   ·rw[if_pos hr]at hnp hst hxl hml
    have hfin:((l.take i).flatMap (CY G)).map dI++(Df G.edges x.toNat).map dI=((l.take (i+1)).flatMap (CY G)).map dI:=by
     rw[<-AF];exact congrArg (List.map dI) hst.symm
    (conv=>whnf)
    (repeat' ((first|refine Ai ?_ ?_|refine AM hxd rfl ?_|refine Aj rfl hnp ?_|refine nx ?_|refine A5 (λ_=>?_) (λ_=>?_)|exact AA)<;>conv=>whnf))
    exact⟨i+1,_,_,hlt,.refl _ _,⟨rfl,rfl,rfl,rfl,rfl,rfl,trivial⟩,⟨Bj hfin,trivial⟩,by omega⟩
   ·rw[if_neg hr]at hnp hst hxl hml
    have hfin:((l.take i).flatMap (CY G)).map dI++[]=((l.take (i+1)).flatMap (CY G)).map dI:=by
     rw[C4]at hst⊢;exact congrArg (List.map dI) hst.symm
    (conv=>whnf)
    (repeat' ((first|refine Ai ?_ ?_|refine AM hxd rfl ?_|refine Aj rfl hnp ?_|refine nx ?_|refine A5 (λ_=>?_) (λ_=>?_)|exact AA)<;>conv=>whnf))
    exact⟨i+1,_,_,hlt,.refl _ _,⟨rfl,rfl,rfl,rfl,rfl,rfl,trivial⟩,⟨Bj hfin,trivial⟩,by omega⟩
  ·have hii:l.take i=l:=Ao (by omega)
   rw[hii]
   have hnl2:=H6 hG l
   have ho1:=OE (l.flatMap (CY G)) (by omega)
   have ho2:=OE l (by omega)
   have hs1:=Hu (l.flatMap (CY G))
   have hs2:=Hu l
   ((conv=>whnf);repeat' ((first|refine odw ?_|refine nx ?_|refine A5 (λ_=>?_) (λ_=>?_))<;>conv=>whnf))
   refine Du 300 rfl ?_
   refine Aj rfl ho1 ?_
   (conv=>whnf)
   (repeat' ((first|refine Ai ?_ ?_|refine Aj rfl ho2 ?_|refine nx ?_|refine A5 (λ_=>?_) (λ_=>?_)|exact AA)<;>conv=>whnf))
   refine Ee 29 rfl rfl (VE (Dx (l.flatMap (CY G))) (Dx l) (by omega) (BT l).1 (by omega)) ?_;rintro ds rfl
   ((conv=>whnf);repeat' ((first|refine odw ?_|refine nx ?_|refine A5 (λ_=>?_) (λ_=>?_))<;>conv=>whnf))
   exact⟨rfl,rfl,rfl⟩
theorem ZR(G:Gr)(hG:G.Ok)(l:List Int)(hb:l.length<=100000):Pure C1 137 [dG G,Bx l] (λy=>y=Bx (F0 G l)):=by
 have hll:(l.map dI).length=l.length:=Ac _
 have hsz:=hG.size
 refine AT Tryz.func137 Tryz.ntmps137 Sd [] ?_
 unfold F0
 by_cases hl:l=[]
 ·rw[if_pos hl]
  subst hl
  (conv=>whnf)
  (repeat' ((first|refine Ai ?_ ?_|refine Aj rfl (HH G) ?_|refine nx ?_|refine A5 (λ_=>?_) (λ_=>?_)|exact AA)<;>conv=>whnf))
  refine AN (ι:=Nat) (λv=>v<=G.labels.length) (λv=>[(14,.d (.int .i64 v)),(13,.d (.int .i64 G.labels.length)),(5,.own 300)]) (λv=>[(300,.slice 3 1 ((Gk v).map dI))]) (λv=>G.labels.length-v) 0 (λ_=>rfl) (As _)
   (.own 5 300 3 1 rfl rfl (.refl _ _)) ⟨rfl,rfl,rfl,trivial⟩ ⟨rfl,trivial⟩ ?_
  intro v hv
  refine BV Sd [] ?_
  by_cases hlt:v<G.labels.length
  ·have hul:=Ho v
   have hfin:(Gk v).map dI++[.int .i64 (v:Int)]=(Gk (v+1)).map dI:=by rw[QY,AF];rfl
   ((conv=>whnf);repeat' ((first|refine odw ?_|refine nx ?_|refine A5 (λ_=>?_) (λ_=>?_))<;>conv=>whnf))
   exact⟨v+1,_,_,hlt,.refl _ _,⟨rfl,rfl,rfl,trivial⟩,⟨Bj hfin,trivial⟩,by omega⟩
  ·have:v=G.labels.length:=by omega
   subst this
   ((conv=>whnf);repeat' ((first|refine odw ?_|refine nx ?_|refine A5 (λ_=>?_) (λ_=>?_))<;>conv=>whnf))
   exact rfl
 ·rw[if_neg hl]
  have hl0:¬((l.map dI).length:Int)=0:=by rw[hll];have:=List.length_pos_iff.2 hl;omega
  ((conv=>whnf);repeat' ((first|refine odw ?_|refine nx ?_|refine A5 (λ_=>?_) (λ_=>?_))<;>conv=>whnf))
  refine AN (ι:=Nat) (λi=>i<=l.length) (λi=>[(25,.d (.int .i64 i)),(24,.d (.int .i64 (l.map dI).length)),(23,.d (Bx l)),(5,.own 300),(1,.d (Bx l)),(0,.d (dG G))]) (λi=>[(300,.slice 3 1 (((l.take i).flatMap (CY G)).map dI))]) (λi=>l.length-i) 0 (λ_=>rfl) (As _)
   (.own 5 300 3 1 rfl rfl (.refl _ _)) ⟨rfl,rfl,rfl,rfl,rfl,rfl,trivial⟩ ⟨rfl,trivial⟩ ?_
  intro i hi
  refine BV Sd [] ?_
  have hnl:=H6 hG (l.take i)
  rw[Aw]at hnl
  by_cases hlt:i<l.length
  ·have hx:=Ab hlt
   generalize l[i]=x at hx
   have hxd:(l.map dI)[i]? =some (.int .i64 x):=by rw[Af,hx];rfl
   have hst:=PI (G:=G) hx
   have hxl:=Nq hG x
   have hnp:=Np G hG x
   have hml:((l.take i).flatMap (CY G)).length+(CY G x).length<=4294967296:=by omega
   unfold Jn at hnp
   unfold CY at hst hxl hml
   by_cases hr:0<=x/\x<G.labels.length
   ·rw[if_pos hr]at hnp hst hxl hml
    have hfin:((l.take i).flatMap (CY G)).map dI++(Df G.edges x.toNat).map dI=((l.take (i+1)).flatMap (CY G)).map dI:=by
     rw[<-AF];exact congrArg (List.map dI) hst.symm
    (conv=>whnf)
    (repeat' ((first|refine Ai ?_ ?_|refine AM hxd rfl ?_|refine Aj rfl hnp ?_|refine nx ?_|refine A5 (λ_=>?_) (λ_=>?_)|exact AA)<;>conv=>whnf))
    exact⟨i+1,_,_,hlt,.refl _ _,⟨rfl,rfl,rfl,rfl,rfl,rfl,trivial⟩,⟨Bj hfin,trivial⟩,by omega⟩
   ·rw[if_neg hr]at hnp hst hxl hml
    have hfin:((l.take i).flatMap (CY G)).map dI++[]=((l.take (i+1)).flatMap (CY G)).map dI:=by
     rw[C4]at hst⊢;exact congrArg (List.map dI) hst.symm
    (conv=>whnf)
    (repeat' ((first|refine Ai ?_ ?_|refine AM hxd rfl ?_|refine Aj rfl hnp ?_|refine nx ?_|refine A5 (λ_=>?_) (λ_=>?_)|exact AA)<;>conv=>whnf))
    exact⟨i+1,_,_,hlt,.refl _ _,⟨rfl,rfl,rfl,rfl,rfl,rfl,trivial⟩,⟨Bj hfin,trivial⟩,by omega⟩
  ·have hii:l.take i=l:=Ao (by omega)
   rw[hii]
   have hnl2:=H6 hG l
   have ho1:=OE (l.flatMap (CY G)) (by omega)
   have ho2:=OE l (by omega)
   have hs1:=Hu (l.flatMap (CY G))
   have hs2:=Hu l
   ((conv=>whnf);repeat' ((first|refine odw ?_|refine nx ?_|refine A5 (λ_=>?_) (λ_=>?_))<;>conv=>whnf))
   refine Du 300 rfl ?_
   refine Aj rfl ho1 ?_
   (conv=>whnf)
   (repeat' ((first|refine Ai ?_ ?_|refine Aj rfl ho2 ?_|refine nx ?_|refine A5 (λ_=>?_) (λ_=>?_)|exact AA)<;>conv=>whnf))
   refine Ee 29 rfl rfl (VE (Dx (l.flatMap (CY G))) (Dx l) (by omega) (BT l).1 (by omega)) ?_;rintro ds rfl
   ((conv=>whnf);repeat' ((first|refine odw ?_|refine nx ?_|refine A5 (λ_=>?_) (λ_=>?_))<;>conv=>whnf))
   exact rfl
end Go.Proofs.YtjejpdfldmempaaGreatDoor
namespace Go.Proofs.YtjejpdfldmempaaGreatDoor
open Go.Sx Go.RowKit Go.Reg Go.Gr
set_option maxRecDepth 100000
theorem tZ {l:List Int} {i:Nat} {x:Int}(h:l[i]? =some x):l.take (i+1)=l.take i++[x]:=by rw[A2,h];rfl
def mW(v:Int):Da:=Bx [v]
end Go.Proofs.YtjejpdfldmempaaGreatDoor
end
section
namespace Go.Proofs.YtjejpdfldmempaaGreatDoor
open Go.Gr
theorem KF {p:Int->Bool} {l:List Int} {i:Nat}(h:l.findIdx? p=some i):∃(h2:i<l.length),p l[i]=true/\∀j (hj:j<i),p (l[j]'(by omega))=false:=by
 rw[AJ]at h
 obtain⟨h1,h2,h3⟩:=h
 exact⟨h1,h2,λj hj=>by have:=h3 j hj;simpa using this⟩
theorem Y5 {l:List Int}(h:l.Nodup) {i j:Nat}(hi:i<l.length)(hj:j<l.length)(e:l[i]=l[j]):i=j:=by
 rcases VY i j with h1|h1|h1
 ·exact absurd e (AI.1 h i j hi hj h1)
 ·exact h1
 ·exact absurd e.symm (AI.1 h j i hj hi h1)
theorem SN {l:List Int}(hn:l.Nodup) {i:Nat}(hi:i<l.length) {x:Int}:x∈l.eraseIdx i↔x∈l/\x≠l[i]:=by
 have e:=List.eraseIdx_eq_take_drop_succ l i
 rw[e,Ag,AU,Ii]
 constructor
 ·rintro(⟨j,hj,rfl⟩|⟨j,hj,rfl⟩)
  ·exact⟨Bi _,λhe=>by have:=Y5 hn (by omega) (by omega) he;omega⟩
  ·exact⟨Bi _,λhe=>by have:=Y5 hn (by omega) (by omega) he;omega⟩
 ·rintro⟨hx,hne⟩
  obtain⟨j,hj,rfl⟩:=Cu.1 hx
  rcases VY j i with h|h|h
  ·exact .inl ⟨j,by omega,rfl⟩
  ·subst h;exact absurd rfl hne
  ·exact .inr ⟨j- (i+1),by omega,by congr 1;omega⟩
theorem Nl {E:List Edg} {l:List Int} {v:Int}:PG E l v=true↔l=[]\/l.any (Gd E v)=true:=by
 unfold PG VG
 rw[Di,decide_eq_true_eq,decide_eq_true_eq,Mq]
end Go.Proofs.YtjejpdfldmempaaGreatDoor
namespace Go.Proofs.YtjejpdfldmempaaGreatDoor
open Go.Gr
theorem Nt {G:Gr}(h:G.Ok) {v u:Int}:u∈CY G v↔(0<=v/\v<G.labels.length)/\0<=u/\u<G.labels.length/\turn ⟨u,v⟩∈G.edges:=by
 unfold CY
 split
 ·rename_i hv
  obtain⟨m,rfl⟩:=A1 hv.1
  rw[Be,gJ h]
  exact⟨λhh=>⟨hv,hh⟩,λhh=>hh.2⟩
 ·rename_i hv
  exact⟨λhh=>(by cases hh),λhh=>absurd hh.1 hv⟩
end Go.Proofs.YtjejpdfldmempaaGreatDoor
end
section
namespace Go.Proofs.YtjejpdfldmempaaGreatDoor
open Go.Sx Go.RowKit Go.Reg Go.Gr
set_option maxRecDepth 100000
theorem R1 {G:Gr}(hG:G.Ok) {a:List Int}(h:a.length<=100000):(F0 G a).length<=4294967296:=by
 unfold F0
 split
 ·rw[Ho];have:=hG.size;omega
 ·have h1:=DF (λx=>!decide (x∈Dx a)) (Dx (a.flatMap (CY G)))
  have h2:=Hu (a.flatMap (CY G))
  have h3:=H6 hG a
  omega
end Go.Proofs.YtjejpdfldmempaaGreatDoor
end
section
namespace Go.Reg
open Go Go.RowKit Go.Sort Go.Proofs
abbrev Vw(n:Int):List Value:=[Value.int .i64 n]
theorem Sl.zero1 {P:Program} {E:Nat} {w:World} {l:List Int} {g c:Nat}(h:Sl E 1 Vw w (.slice (some ⟨g,0,none⟩) l.length c) l) {m:Nat}(hm:m<=l.length):
  ∃w',(storeCells ⟨g,m,none⟩ (List.replicate (l.length-m) (Value.int .i64 0))).run P w=.ok () w'/\Sl E 1 Vw w' (.slice (some ⟨g,0,none⟩) l.length c) (l.take m++List.replicate (l.length-m) 0)/\Tch [g] w w':=by
 rcases h.2 with⟨h1,_⟩|⟨g',cap',cur,h1,h0,hg,hc,hmx,hs,ht⟩
 ·cases h1
 ·cases h1
  rw[EA]at hs
  have hsz:l.length<=cur.size:=by omega
  have hr:=run_storeCells_at P g m E (List.replicate (l.length-m) (Value.int .i64 0)) 0 cur w hg (by rw[Bm];omega) (by intro v hv;rw[XY hv];rfl)
  rw[D3,Bm]at hr
  have hl2:(l.take m++List.replicate (l.length-m) (0:Int)).length=l.length:=by rw[Ae,Aw,Bm];omega
  have e0:m+(l.length-m)=l.length:=by omega
  rw[e0]at hr
  refine⟨_,hr,?_,⟨rfl,rfl,rfl,by simp[World.setRow],λj hj hn=>by
    have:g≠j:=λe=>hn (by simp[e])
    simp[World.setRow,Ca,this]⟩⟩
  unfold Sl
  rw[HQ,hl2]
  refine⟨by rw[Ac,hl2];omega,.inr ⟨g,c,(cur.toList.take m++List.replicate (l.length-m) (Value.int .i64 0)++cur.toList.drop l.length).toArray,rfl,As _,setRow_heap w g cur _ E (0,0) hg,hc,hmx,?_,?_⟩⟩
  ·simp;omega
  ·rw[HQ,EA]at ht
   rw[EA]
   have h1:(cur.toList.take m++List.replicate (l.length-m) (Value.int .i64 0)).length=l.length:=by simp;omega
   rw[Br (by omega),Ao (by omega),AF,List.map_replicate,Fy,<-ht,FL,IQ hm]
end Go.Reg
namespace Go.Sx
open Go Go.RowKit Go.Reg Go.Gr Go.Proofs Go.Proofs.YtjejpdfldmempaaGreatDoor
def LD(E:Nat)(l:List Int)(m g c:Nat):Absn where
 R w v F:=v=.slice (if c=m then some ⟨g,0,none⟩else some ⟨g,m,none⟩) (l.length-m) (c-m)/\F=[g]/\m<=l.length/\Sl E 1 Vw w (.slice (some ⟨g,0,none⟩) l.length c) l
 keep:=by
  rintro S w w' v F ⟨rfl,rfl,hm,h⟩ t hd
  exact⟨rfl,rfl,hm,h.keep t (λb hb=>by simp[Value.ownBlock]at hb;subst hb;exact hd g (by simp))⟩
 lt:=by
  rintro w v F ⟨rfl,rfl,hm,h⟩ x hx
  simp at hx;subst hx
  exact h.lt rfl
 one:=by rintro w v F ⟨rfl,rfl,hm,h⟩;rfl
section
variable {C:Cx} {T:Fm} {n kd:Nat} {fr:Fr} {σ:Sg} {E i:Nat} {l:List Int} {o:Oper} {K:Fr->Sg->Prop} {B S:List Nat} {w0 w w':World} {η:Nat->Value} {φ:Nat->List Nat} {a:Act}
theorem Models.turnRaw(hM:Models C B S w0 n fr σ η φ a w) {X:List Nat}(t:Tch X w w')(hX:∀b∈X,b∈φ i)(hi:i∈Bp σ) {v:Value} {F:List Nat}(hF:∀b∈F,b∈φ i\/w.heap.size<=b) {x:Da}(hx:x.one=true)(hr:∀O w,RepC O w x [η i]) {ow:Own}
  (ho:ow.holds (Ds η i v) (Bp σ) (B++Ak (Ds φ i F) (B2 (Bw i x) i ow σ)) w' v F):Models C B S w0 n (Ek i x fr) (B2 (Bw i x) i ow σ) (Ds η i v) (Ds φ i F) a w':=by
 have hl:=Later.turn (σ:=σ) B t hX hi hF (Bw i x) ow
 have hm:=hM.mem.turn t hX hi hF hl (λq hq hne hh=>hh.kill hx hl (λj hj hne=>⟨hj,C0 _ _ _ hne⟩) (hr _ _) t (λb hb hm=>hM.mem.disj q.1 (AP hq) i hi hne b hb (hX b hm))) ho
 exact⟨hm,hM.fr.kill hx hl (λj hj hne=>⟨by rw[Bg];exact hj,C0 _ _ _ hne⟩) (hr _ _),hM.defers,hM.size⟩
theorem lU(m:Nat) {t:TypeId} {x lo:Operand} {e ee:TyI}(hC:C.Ok T)(i:Nat)(ho:o.op=.slice t x (some lo) none none)(he:En t T=some e)(hk2:e.kd=2)(hee:En e.elem T=some ee)(h1:ee.size=1)(hx:ev C.Γ fr x=.own i)(hg:BA i σ=some (.slice E 1 (l.map dI))) {mi:Int}(hlo:ev C.Γ fr lo=.d (.int .i64 mi))(hmi:mi=m)(hm:m<=l.length)(hl:l≠[])(hkd:kd≠5/\kd≠2)(hd:CZ o.dst n=true)
  (hK:∀g c,EP (Ek i (.raw (.slice (some ⟨g,0,none⟩) l.length c)) fr) λfr=>BP (B2 (Bw i (.raw (.slice (some ⟨g,0,none⟩) l.length c))) i (LD E l m g c).own σ) λσ=>K (Cm o.dst (.own i) fr) σ):AY C n kd o K fr σ:=by
 subst hmi
 refine C6 hkd.1 hkd.2 λB S w0 η φ a w hM=>⟨λ_=>by simp[Bf,ho],.inl ?_⟩
 obtain⟨css,hs,e2,hrr,hkk⟩:=Bq hM.mem hg
 obtain rfl:=SY hrr
 have hs1:=OI.1 hs
 rcases hs1.shape with⟨_,rfl⟩|⟨g,cap,e3,hc⟩
 ·exact absurd rfl hl
 have ex:=Hh (AV hM x) hx
 have elo:=FP (EL (AV hM lo) hlo)
 have hr:=EC (w:=w) (hC.ty he) hk2 (hC.ty hee) (ad:=some ⟨g,0,none⟩) (len:=l.length) (cap:=cap) hc (lo:=some (.int .i64 m)) (hi:=none) (l:=m) (m:=l.length) ⟨_,rfl⟩ rfl hm (Av _)
 have hi:=AP (Bd hg)
 have hF:∀b∈[g],b∈φ i\/w.heap.size<=b:=λb hb=>.inl (by rw[e2,e3];simpa[Value.ownBlock]using hb)
 have hM':=hM.turnRaw (Tch.refl [] w) (by simp) hi (v:=.slice (if cap=m then some ⟨g,0,none⟩else some ⟨g,m,none⟩) (l.length-m) (cap-m)) (F:=[g]) hF (x:=.raw (.slice (some ⟨g,0,none⟩) l.length cap)) rfl (λO w=>by simp only[RepC];rw[e3]) (ow:=(LD E l m g cap).own) (show(LD E l m g cap).R _ _ _ from⟨rfl,rfl,hm,by rw[<-e3];exact hs1⟩)
 have hk:=hK g cap
 rw[Dp,Bl]at hk
 refine⟨_,w,?_,_,_,_,_,hM'.put hd (d:=.own i) ⟨[.slice (if cap=m then some ⟨g,0,none⟩else some ⟨g,m,none⟩) (l.length-m) (cap-m)],by simp only[A4];exact⟨by rw[Bg];exact hi,by rw[CI]⟩,rfl⟩,hk⟩
 simp only[execOp,ho,CM,kC]
 rw[ex,elo,e3]
 refine CP ?_
 rw[hr]
 congr 2
 split
 ·rfl
 ·simp[Cz,h1]
theorem ON(hM:Models C B S w0 n fr σ η φ a w) {r:Absn}(hg:BA i σ=some r.own):r.R w (η i) (φ i):=hM.mem.own _ (Bd hg)
theorem fV {m g c:Nat} {cl:Call} {t:TypeId} {x:Operand} {e:TyI}(hC:C.Ok T)(i:Nat)(ho:o.op=.call cl)(hcl:cl.callee=.builtin .clear)(hxs:cl.args.toList=[x])(hts:cl.argTypes.toList=[t])(he:En t T=some e)(hk2:e.kd=2)(hz:∀w,(zeroValue e.elem).run C.P w=.ok (.int .i64 0) w)(hx:ev C.Γ fr x=.own i)(hg:BA i σ=some (LD E l m g c).own)(hkd:kd≠5/\kd≠2)(hd:CZ o.dst n=true)
  (hK:BP (B2 id i (LD E (l.take m++List.replicate (l.length-m) 0) m g c).own σ) λσ=>K (Cm o.dst (.d (.tuple [])) fr) σ):AY C n kd o K fr σ:=by
 rw[Bl]at hK
 refine C6 hkd.1 hkd.2 λB S w0 η φ a w hM=>⟨λ_=>by simp[Bf,ho],.inl ?_⟩
 have ex:=Hh (AV hM x) hx
 obtain⟨ev1,ev2,hm,hs⟩:=ON hM hg
 have hi:=AP (Bd hg)
 have e1:cl.args=#[x]:=by apply Dl;simpa using hxs
 have e2:cl.argTypes=#[t]:=by apply Dl;simpa using hts
 obtain⟨dd,g1,_,g3,_,_,_,_,g8⟩:=(hC.ty he).desc
 rw[hk2]at g8
 have hdd:∃el,dd=.slice el:=by cases dd<;>simp at g8<;>exact⟨_,rfl⟩
 obtain⟨el,rfl⟩:=hdd
 have hel:=g3 _ rfl
 subst hel
 have hl2:(l.take m++List.replicate (l.length-m) (0:Int)).length=l.length:=by rw[Ae,Aw,Bm];omega
 have step:∀w1,Tch [g] w w1->Sl E 1 Vw w1 (.slice (some ⟨g,0,none⟩) l.length c) (l.take m++List.replicate (l.length-m) 0)->GN C B S w0 n K (a.put o.dst (.tuple #[])) w1:=λw1 ht hs'=>by
  have hX:∀b∈[g],b∈φ i:=λb hb=>by rw[ev2];exact hb
  have hF:∀b∈φ i,b∈φ i\/w.heap.size<=b:=λb hb=>.inl hb
  have hlt:=Later.turn (σ:=σ) B ht hX hi hF id (LD E (l.take m++List.replicate (l.length-m) 0) m g c).own
  have hmm:=hM.mem.turnSame (o:=(LD E (l.take m++List.replicate (l.length-m) 0) m g c).own) ht hX hi hF (show(LD E (l.take m++List.replicate (l.length-m) 0) m g c).R _ _ _ from⟨by rw[hl2];exact ev1,ev2,by rw[hl2];exact hm,by rw[hl2];exact hs'⟩)
  rw[LA]at hmm hlt
  have M':Models C B S w0 n fr _ η φ a w1:=⟨hmm,hM.fr.later hlt (λj hj=>⟨by rw[Bg];exact hj,rfl⟩),hM.defers,hM.size⟩
  exact⟨_,_,_,_,M'.put hd (d:=.d (.tuple [])) ⟨[.tuple #[]],by simp[A4,RepC,Al],rfl⟩,hK⟩
 have exec:∀w1,(Builtin.clear_ #[t] o.type #[η i]).run C.P w=.ok (.tuple #[]) w1->(execOp a.eval o).run C.P w=.ok (.value (.tuple #[])) w1:=λw1 h=>by
  simp only[execOp,ho,resolve,hcl,A0,AQ,Ay,invoke,builtin,e1,e2,FM,Ap,B4,ex]
  rw[h];rfl
 by_cases hml:m=l.length
 ·refine⟨_,w,exec w ?_,step w (Tch.refl _ _) ?_⟩
  ·rw[ev1,hml,Ih]
   generalize (if c=l.length then(some ⟨g,0,none⟩:Option Addr)else some ⟨g,l.length,none⟩)=ad
   cases ad<;>simp[Builtin.clear_,run_underlying g1]
  ·rw[hml,Ih,Dr];simpa using hs
 ·obtain⟨w1,r1,r2,r3⟩:=hs.zero1 (P:=C.P) hm
  refine⟨_,w1,exec w1 ?_,step w1 r3 r2⟩
  have hcm:c≠m:=by
   rcases hs.shape with⟨h,_⟩|⟨_,_,h,h2⟩
   ·cases h
   ·cases h;omega
  obtain⟨k,hk⟩:∃k,l.length-m=k+1:=⟨l.length-m-1,by omega⟩
  have hzc:(Builtin.zeroCells (Value.int .i64 0).cells (k+1)).toList=List.replicate (k+1) (Value.int .i64 0):=by
   apply List.ext_getElem
   ·simp[Builtin.zeroCells,Value.cells]
   ·intro j h1 h2
    simp[Builtin.zeroCells,Value.cells,Nat.mod_one]
  rw[ev1,if_neg hcm,hk]
  rw[hk]at r1
  simp[Builtin.clear_,run_underlying g1,hz,hzc,r1]
theorem lV {m g c:Nat} {t:TypeId} {x hi:Operand} {e ee:TyI}(hC:C.Ok T)(i:Nat)(ho:o.op=.slice t x none (some hi) none)(he:En t T=some e)(hk2:e.kd=2)(hee:En e.elem T=some ee) {nn:Nat}(hx:ev C.Γ fr x=.d (.raw (.slice (some ⟨g,0,none⟩) nn c)))(hnn:nn=l.length)(hg:BA i σ=some (LD E l m g c).own) {mi:Int}(hhi:ev C.Γ fr hi=.d (.int .i64 mi))(hmi:mi=m)(_hc0:0<l.length)(hkd:kd≠5/\kd≠2)(hd:CZ o.dst n=true)
  (hK:EP (Ek i .undef fr) λfr=>BP (B2 (Bw i .undef) i (.slice E 1 ((l.take m).map dI)) σ) λσ=>K (Cm o.dst (.own i) fr) σ):AY C n kd o K fr σ:=by
 subst hmi
 subst hnn
 rw[Dp,Bl]at hK
 refine C6 hkd.1 hkd.2 λB S w0 η φ a w hM=>⟨λ_=>by simp[Bf,ho],.inl ?_⟩
 obtain⟨ev1,ev2,hm,hs⟩:=ON hM hg
 have hii:=AP (Bd hg)
 have ex:a.eval x=.slice (some ⟨g,0,none⟩) l.length c:=by
  obtain⟨cs,h1,h2⟩:=EL (AV hM x) hx
  simp only[RepC]at h1
  subst h1;exact h2
 have ehi:=FP (EL (AV hM hi) hhi)
 have hlc:l.length<=c:=by
  rcases hs.shape with⟨h,_⟩|⟨_,_,h,h2⟩
  ·cases h
  ·cases h;exact h2
 have hr:=EC (w:=w) (hC.ty he) hk2 (hC.ty hee) (ad:=some ⟨g,0,none⟩) (len:=l.length) (cap:=c) hlc (lo:=none) (hi:=some (.int .i64 m)) (l:=0) (m:=m) rfl ⟨_,rfl⟩ (As _) hm
 have hs':Sl E 1 Vw w (.slice (some ⟨g,0,none⟩) m c) (l.take m):=by
  have hlm:(l.take m).length=m:=by rw[Aw];omega
  rcases hs.2 with⟨h1,_⟩|⟨g',cap',cur,h1,h0,hgg,hc,hmx,hsz,ht⟩
  ·cases h1
  ·cases h1
   unfold Sl
   rw[HQ,hlm]
   refine⟨by rw[Ac,hlm];omega,.inr ⟨g,c,cur,rfl,As _,hgg,by omega,hmx,hsz,?_⟩⟩
   rw[HQ]at ht
   rw[Fy,<-ht,FL,EA,EA,IQ hm]
 have hF:∀b∈(Value.slice (some ⟨g,0,none⟩) m c).ownBlock.toList,b∈φ i\/w.heap.size<=b:=λb hb=>.inl (by rw[ev2];simpa[Value.ownBlock]using hb)
 have hM':=hM.turnRaw (Tch.refl [] w) (by simp) hii (v:=.slice (some ⟨g,0,none⟩) m c) hF (x:=.undef) rfl (λO w=>RepC.undef_ex _ _ _) (ow:=.slice E 1 ((l.take m).map dI)) ⟨_,OI.2 hs',rfl,M6 _,To _⟩
 refine⟨_,w,?_,_,_,_,_,hM'.put hd (d:=.own i) ⟨[.slice (some ⟨g,0,none⟩) m c],by simp only[A4];exact⟨by rw[Bg];exact hii,by rw[CI]⟩,rfl⟩,hK⟩
 simp only[execOp,ho,CM,kC]
 rw[ex,ehi]
 refine CP ?_
 rw[hr]
 congr 2
 split
 ·simp
 ·simp[Cz]
end
end Go.Sx
namespace Go.Proofs.YtjejpdfldmempaaGreatDoor
open Go.Gr
theorem KZ {G:Gr} {l:List Int}(h:BK G l=true) {i:Nat} {v:Int}(hx:l[i]? =some v):CQ G l i v=true:=by
 cases hh:CQ G l i v with
 |true=>rfl
 |false=>rw[Ez hx hh]at h;cases h
theorem Gz {G:Gr} {l:List Int}(h:Dk G l=true) {i:Nat} {v:Int}(hx:l[i]? =some v):Ec G (l.take i) v=true:=by
 cases hh:Ec G (l.take i) v with
 |true=>rfl
 |false=>rw[RY hx hh]at h;cases h
theorem I3 {G:Gr} {l:List Int} {i:Nat} {v:Int}:CQ G l i v=true↔E0 G v=true/\v∉l.take i/\(i=0\/(l.take i).any (Gd G.edges v)=true):=by
 simp only[CQ,Ah,BC,decide_eq_false_iff_not,Di,decide_eq_true_eq]
theorem Mk {G:Gr} {l:List Int}(h:BK G l=true):l.Nodup:=by
 refine AI.2 λi j hi hj hij e=>?_
 have:=(I3.1 (KZ h (Ab hj))).2.1
 exact this (AU.2 ⟨i,by omega,e⟩)
theorem OM {E:List Edg} {l:List Int} {v:Int}:l.any (Gd E v)=true↔∃u∈l,turn ⟨u,v⟩∈E:=by
 rw[BM]
 constructor
 ·rintro⟨u,hu,h⟩;exact⟨u,hu,by simpa[Gd]using h⟩
 ·rintro⟨u,hu,h⟩;exact⟨u,hu,by simpa[Gd]using h⟩
theorem NU {l:List Int}(h:l.Nodup):(Dx l).length=l.length:=by
 have h1:(Dx l).Nodup:=(BT l).1.imp λh=>by omega
 exact((List.perm_ext_iff_of_nodup h1 h).2 (BT l).2).length_eq
theorem Lf {G:Gr} {l:List Int} {v y:Int}(h:Ec G l v=true)(h0:l[0]? =some y):∃i,l.findIdx? (Gd G.edges v)=some i/\v∉l/\¬v<y/\∀u∈l.drop (i+1),¬v<u:=by
 unfold Ec at h
 rw[h0]at h
 simp only at h
 cases hf:l.findIdx? (Gd G.edges v)with
 |none=>rw[hf]at h;cases h
 |
  some i=>
  rw[hf]at h
  simp only[Ah,BC,decide_eq_false_iff_not,List.any_eq_false,decide_eq_true_eq]at h
  exact⟨i,rfl,h.1,h.2.1,h.2.2⟩
theorem Mz {G:Gr} {l:List Int} {v:Int}(h:Ec G l v=true)(hl:l≠[]):v∉l/\∃u∈l,turn ⟨u,v⟩∈G.edges:=by
 obtain⟨y,hy⟩:∃y,l[0]? =some y:=⟨_,Ab (List.length_pos_iff.2 hl)⟩
 obtain⟨i,h1,h2,_⟩:=Lf h hy
 obtain⟨h3,h4,_⟩:=KF h1
 exact⟨h2,_,Bi h3,by simpa[Gd]using h4⟩
theorem X8 {G:Gr} {l:List Int} {v:Int}(h:Ec G l v=true):PG G.edges l v=true:=by
 by_cases hl:l=[]
 ·exact Nl.2 (.inl hl)
 ·exact Nl.2 (.inr (OM.2 (Mz h hl).2))
theorem Qw {G:Gr}(hG:G.Ok) {u v:Int}(h:turn ⟨u,v⟩∈G.edges):E0 G u=true/\E0 G v=true:=by
 have hb:=hG.edge _ h
 unfold E0
 simp only[decide_eq_true_eq]
 unfold turn at hb
 simp only at hb
 omega
theorem Vo {G:Gr}(hG:G.Ok) {l:List Int} {v:Int}(h:Ec G l v=true):E0 G v=true:=by
 by_cases hl:l=[]
 ·subst hl;exact h
 ·obtain⟨u,_,hu⟩:=(Mz h hl).2
  exact(Qw hG hu).2
theorem Gu {G:Gr}(hG:G.Ok) {l:List Int}(h:Dk G l=true):BK G l=true:=by
 refine Jq λi v hx=>I3.2 ?_
 have hf:=Gz h hx
 refine⟨Vo hG hf,?_⟩
 by_cases hi:i=0
 ·subst hi;exact⟨by simp,.inl rfl⟩
 ·have hil:=(Ad.1 hx).1
  have hne:l.take i≠[]:=λe=>by
   have:=congrArg List.length e
   simp only[Aw,Cf]at this;omega
  have:=Mz hf hne
  exact⟨this.1,.inr (OM.2 this.2)⟩
theorem XM {G:Gr} {l:List Int}(h:Dk G l=true)(i:Nat):Dk G (l.take i)=true:=by
 refine IC λj v hx=>?_
 have hj:j<i:=by have:=(Ad.1 hx).1;rw[Aw]at this;omega
 rw[Cy,if_pos hj]at hx
 rw[FL,IQ (by omega)]
 exact Gz h hx
theorem GH(G:Gr)(l:List Int)(v:Int):Dk G (l++[v])=(Dk G l&&Ec G l v):=by
 have hlast:(l++[v])[l.length]? =some v:=by simp
 have htl:(l++[v]).take l.length=l:=by simp
 cases hc:Dk G (l++[v])with
 |
  true=>
  have h1:=XM hc l.length
  have h2:=Gz hc hlast
  rw[htl]at h1 h2
  rw[h1,h2];rfl
 |
  false=>
  cases h1:Dk G l with
  |false=>rfl
  |
   true=>
   cases h2:Ec G l v with
   |false=>rfl
   |
    true=>
    rw[<-hc]
    refine(IC λj u hx=>?_).symm▸rfl
    by_cases hj:j<l.length
    ·rw[BO hj]at hx
     rw[Br (by omega)]
     exact Gz h1 hx
    ·have:=(Ad.1 hx).1
     rw[Ae,CB]at this
     have hj:j=l.length:=by omega
     subst hj
     rw[hlast]at hx;cases hx
     rw[htl];exact h2
theorem PR {G:Gr} {l:List Int}(hG:G.Ok)(hc:Dk G l=true):∀(rest pre left:List Int),l=pre++rest->left.Pairwise (· < ·)->(∀x,x∈left↔x∈rest)->UL G.edges rest.length pre left=some l
 |[],pre,left,e,_,_=>by simp[UL,e]
 |
  x::rest,pre,left,e,hr,hm=>by
  have hnd:=Mk (Gu hG hc)
  have hxl:l[pre.length]? =some x:=by rw[e];simp
  have htk:l.take pre.length=pre:=by rw[e];simp
  have hfx:=Gz hc hxl
  rw[htk]at hfx
  have hlnod:left.Nodup:=hr.imp λh=>by omega
  obtain⟨i,hi,hxi⟩:=Cu.1 ((hm x).2 (by simp))
  have hno:∀j (hj:j<i),PG G.edges pre (left[j]'(by omega))=false:=by
   intro j hj
   have hlt:=AI.1 hr j i (by omega) hi hj
   rw[hxi]at hlt
   have hmem:=(hm _).1 (Bi (l:=left) (n:=j) (by omega))
   generalize left[j]'(by omega)=u at hlt hmem
   rcases Ar.1 hmem with h|h
   ·omega
   obtain⟨q,hq,hqu⟩:=Cu.1 h
   have hul:l[pre.length+(q+1)]? =some u:=by
    rw[e,Cq (by omega)]
    simp only[Nat.add_sub_cancel_left,List.getElem?_cons_succ]
    rw[Ab hq,hqu]
   have hll:=(Ad.1 hul).1
   have hfu:=Gz hc hul
   have hxt:(l.take (pre.length+(q+1)))[pre.length]? =some x:=by rw[Cy,if_pos (by omega)];exact hxl
   cases hp:PG G.edges pre u with
   |false=>rfl
   |
    true=>
    exfalso
    rcases Nl.1 hp with h0|h0
    ·have hxt0:(l.take (pre.length+(q+1)))[0]? =some x:=by
      have e0:pre.length=0:=by rw[h0];rfl
      rw[e0]at hxt⊢;exact hxt
     obtain⟨_,_,_,h5,_⟩:=Lf hfu hxt0
     exact h5 hlt
    ·obtain⟨z,hz,hzu⟩:=OM.1 h0
     obtain⟨k,hk,hkz⟩:=Cu.1 hz
     obtain⟨y,hy⟩:∃y,(l.take (pre.length+(q+1)))[0]? =some y:=⟨_,Ab (by rw[Aw];omega)⟩
     obtain⟨i0,g1,_,_,g4⟩:=Lf hfu hy
     obtain⟨g5,_,g7⟩:=KF g1
     have hki:i0<=k:=by
      rcases Bu k i0 with h|h
      ·have:=g7 k h
       have hkk:(l.take (pre.length+(q+1)))[k]? =some z:=by
        rw[Cy,if_pos (by omega),e,BO hk,Ab hk,hkz]
       rw[Ab (by rw[Aw];omega),Au]at hkk
       rw[hkk]at this
       simp[Gd,hzu]at this
      ·exact h
     refine g4 x (Ii.2 ⟨pre.length- (i0+1),by rw[Aw];omega,?_⟩) hlt
     have hsome:=Ad.1 hxt
     have hidx:i0+1+(pre.length- (i0+1))=pre.length:=by omega
     simp only[hidx]
     exact hsome.2
  have hf:left.findIdx? (PG G.edges pre)=some i:=by
   rw[AJ]
   exact⟨hi,by rw[hxi];exact X8 hfx,λj hj=>by rw[hno j hj];simp⟩
  simp only[Ax,UL,hf]
  rw[Ab hi,Option.getD_some,hxi]
  refine PR hG hc rest (pre++[x]) (left.eraseIdx i) (by rw[e];simp) (hr.sublist (List.eraseIdx_sublist left i)) λz=>?_
  rw[SN hlnod hi,hxi,hm]
  constructor
  ·rintro⟨h1,h2⟩
   exact(Ar.1 h1).resolve_left h2
  ·intro h1
   refine⟨AB _ h1,λe2=>?_⟩
   subst e2
   rw[e]at hnd
   have:=(D5.1 hnd).2.1
   exact(Ce.1 this).1 h1
theorem TM {a b:List Int}(h:∀x,x∈a↔x∈b):Dx a=Dx b:=LO (BT a).1 (BT b).1 λx=>by rw[(BT a).2,(BT b).2,h]
theorem UK {G:Gr} {a b:List Int}(h:∀x,x∈a↔x∈b):PQ G a=PQ G b:=by unfold PQ;rw[TM h]
theorem RB {G:Gr}(hG:G.Ok) {l:List Int}(hc:Dk G l=true):PQ G l=some l:=by
 have hlk:=Gu hG hc
 unfold PQ
 rw[if_neg (by
  simp only[BM,not_exists,not_and,BC,Bool.not_eq_false]
  intro x hx
  obtain⟨i,hi,rfl⟩:=Cu.1 (((BT l).2 x).1 hx)
  exact(I3.1 (KZ hlk (Ab hi))).1)]
 rw[NU (Mk hlk)]
 exact PR hG hc l [] (Dx l) rfl (BT l).1 (BT l).2
theorem U5 {G:Gr} {l:List Int}(hl:l≠[]) {x:Int}:x∈F0 G l↔(∃v∈l,x∈CY G v)/\x∉l:=by
 unfold F0
 rw[if_neg hl,A3,(BT _).2,A9]
 simp only[BC,decide_eq_false_iff_not,(BT l).2]
theorem JG(k:Nat):(Gk k).Pairwise (· < ·):=by
 unfold Gk
 rw[BL]
 exact List.pairwise_lt_range.imp (by intro a b h;omega)
theorem R0(G:Gr)(l:List Int):(F0 G l).Pairwise (· < ·):=by
 unfold F0
 split
 ·exact JG _
 ·exact(BT _).1.sublist D7
def HO(G:Gr)(l:List Int):List Int:=if Dk G l=true then(F0 G l).filter (Ec G l)else[]
theorem Mu {G:Gr}(hG:G.Ok) {l:List Int} {v:Int}:v∈HO G l↔Dk G l=true/\Ec G l v=true:=by
 unfold HO
 split
 ·rename_i hc
  rw[A3]
  refine⟨λh=>⟨hc,h.2⟩,λh=>⟨?_,h.2⟩⟩
  have hv:=Vo hG h.2
  unfold E0 at hv
  simp only[decide_eq_true_eq]at hv
  by_cases hl:l=[]
  ·unfold F0
   rw[if_pos hl,H8]
   exact hv
  ·obtain⟨h1,u,hu,h2⟩:=Mz h.2 hl
   refine(U5 hl).2 ⟨⟨u,hu,(Nt hG).2 ⟨?_,hv.1,hv.2,by rw[G1];exact h2⟩⟩,h1⟩
   have:=(Qw hG h2).1
   unfold E0 at this
   simpa using this
 ·rename_i hc
  simp[hc]
end Go.Proofs.YtjejpdfldmempaaGreatDoor
namespace Go.Proofs.YtjejpdfldmempaaGreatDoor
open Go.Sx Go.RowKit Go.Reg Go.Gr
set_option maxRecDepth 100000
theorem Zl {l:List Int} {i:Nat}(h:i<l.length)(y:Int):(l.set i y).take (i+1)=l.take i++[y]:=by
 rw[A2,List.take_set_of_le (Av i),List.getElem?_set_self h];rfl
def fM:List (Nat×Plan):=[]
def jU:List FuncId:=[231]
theorem nD:BQ Tryz.prog jU fM (Tryz.f178.body.getD .skip)=true:=by kernel_rfl
theorem lI(vs:Array Value)(w:World):(callFunc 178 vs).run C1.P w=.ok (.enter 178 vs) w:=by kernel_rfl
theorem V4(l:List Int)(g:FuncId)(cs:List Da)(p:Int->Bool)(hl:l.length<=4294967296)(hp:∀x∈l,Pure C1 g (.int .i64 x::cs) (λy=>y=.bool (p x))):
  Oy C1 178 3 1 (l.map dI) [.func (.func g) [] cs] (λds=>ds=(l.filter λx=>!p x).map dI):=by
 have hll:(l.map dI).length=l.length:=Ac _
 have hif:=GX l g cs p hp
 refine V2 EN (pl:=fM) (G:=jU) Tryz.func178 rfl Tryz.ntmps178 lI nD (by simp) ?_
 unfold Qf at hif
 cases hf:l.findIdx? p with
 |
  none=>
  rw[hf]at hif
  simp only[Ka]at hif
  have hfl:(l.filter λx=>!p x)=l:=by
   rw[F5]
   intro a ha
   rw[AK]at hf
   simp[hf a ha]
  rw[hfl]
  (conv=>whnf)
  (repeat' ((first|refine Ai ?_ ?_|refine Bc tab rfl hif rfl ?_|refine nx ?_|refine A5 (λ_=>?_) (λ_=>?_)|exact AA)<;>conv=>whnf))
  exact⟨rfl,rfl,rfl⟩
 |
  some i=>
  rw[hf]at hif
  simp only[Ka]at hif
  have hf2:=hf
  rw[AJ]at hf2
  obtain⟨hil,hpi,hfirst⟩:=hf2
  have hti:l.take i=(l.take (i+1)).filter λx=>!p x:=by
   rw[A2,Ab hil,BY,Cj]
   have h2:[l[i]].filter (λx=>!p x)=[]:=by simp[hpi]
   rw[h2,C4]
   refine(F5.2 λa ha=>?_).symm
   obtain⟨j,hj,rfl⟩:=AU.1 ha
   have:=hfirst j (by omega)
   simpa using this
  (conv=>whnf)
  (repeat' ((first|refine Ai ?_ ?_|refine Bc tab rfl hif rfl ?_|refine nx ?_|refine A5 (λ_=>?_) (λ_=>?_)|exact AA)<;>conv=>whnf))
  refine AN (ι:=Nat×Nat×List Int) (λx=>(x.2.2.length=l.length/\x.1<x.2.1/\x.2.1<=l.length)/\x.2.2.take x.1=((l.take x.2.1).filter λx=>!p x)/\x.2.2.drop x.2.1=l.drop x.2.1)
   (λx=>[(6,.d (.int .i64 (x.2.1:Nat))),(5,.d (.int .i64 (x.1:Nat))),(1,.d (.func (.func g) [] cs)),(0,.own 900)]) (λx=>[(900,.slice 3 1 (x.2.2.map dI))]) (λx=>l.length-x.2.1) (i,i+1,l) (λ_=>rfl)
   ⟨⟨rfl,by simp,by simp only;omega⟩,hti,rfl⟩ (.refl _ _) ⟨rfl,rfl,rfl,rfl,trivial⟩ ⟨rfl,trivial⟩ ?_
  rintro⟨i,j,L⟩ ⟨⟨hLl,hij,hjl⟩,hT,hD⟩
  dsimp only at hLl hij hjl hT hD
  have hLm:(L.map dI).length=L.length:=Ac _
  dsimp only
  refine BV jU [] ?_
  by_cases hj:j<l.length
  ·have hx:=Ab hj
   have hpy:=hp _ (Bi hj)
   generalize l[j]=y at hx hpy
   have hLj:L[j]? =some y:=by
    have:=congrArg (λz=>z[0]?) hD
    simp only[JD,D3]at this
    rw[this];exact hx
   have hxd:(L.map dI)[j]? =some (.int .i64 y):=by rw[Af,hLj];rfl
   have hD2:L.drop (j+1)=l.drop (j+1):=by
    have:=congrArg (List.drop 1) hD
    rwa [List.drop_drop,List.drop_drop]at this
   cases hpv:p y with
   |
    true=>
    rw[hpv]at hpy
    (conv=>whnf)
    (repeat' ((first|refine Ai ?_ ?_|refine F2 (i:=j) rfl (by omega) ?_|refine F1 hxd ?_|refine Aj (Em _ _) hpy ?_|refine nx ?_|refine A5 (λ_=>?_) (λ_=>?_)|exact AA)<;>conv=>whnf))
    refine⟨(i,j+1,L),_,_,⟨⟨hLl,by dsimp only;omega,hj⟩,?_,hD2⟩,.refl _ _,⟨rfl,rfl,rfl,rfl,trivial⟩,⟨rfl,trivial⟩,by dsimp only;omega⟩
    dsimp only
    rw[hT,A2,hx,BY,Cj]
    simp[hpv]
   |
    false=>
    rw[hpv]at hpy
    have hLi:=Ab (l:=L) (i:=i) (by omega)
    generalize L[i]'(by omega)=z at hLi
    have hzd:(L.map dI)[i]? =some (.int .i64 z):=by rw[Af,hLi];rfl
    have hset:(L.map dI).set i (.int .i64 y)=(L.set i y).map dI:=by rw[DM];rfl
    (conv=>whnf)
    (repeat' ((first|refine Ai ?_ ?_|refine F2 (i:=j) rfl (by omega) ?_|refine F1 hxd ?_|refine Aj (Em _ _) hpy ?_|refine F2 (i:=i) rfl (by omega) ?_|refine F1 hzd ?_|refine nx ?_|refine A5 (λ_=>?_) (λ_=>?_)|exact AA)<;>conv=>whnf))
    refine⟨(i+1,j+1,L.set i y),_,_,⟨⟨by rw[kD];exact hLl,by dsimp only;omega,hj⟩,?_,?_⟩,.refl _ _,⟨rfl,rfl,rfl,rfl,trivial⟩,⟨Bj hset,trivial⟩,by dsimp only;omega⟩
    ·dsimp only
     rw[Zl (by omega),hT,A2,hx,BY,Cj]
     simp[hpv]
    ·dsimp only
     rw[List.drop_set_of_lt (by omega)];exact hD2
  ·have hje:j=l.length:=by omega
   subst hje
   rw[Dr]at hT
   have hL0:L≠[]:=λe=>by rw[e]at hLl;simp at hLl;omega
   have hhead:((L.take i++List.replicate (L.length-i) 0).take i).map dI=(l.filter λx=>!p x).map dI:=by
    rw[Br (by rw[Aw];omega),FL,Nat.min_self,hT]
   have hL2:(L.take i++List.replicate (L.length-i) (0:Int)).length=L.length:=by rw[Ae,Aw,Bm];omega
   ((conv=>whnf);repeat' ((first|refine odw ?_|refine nx ?_|refine A5 (λ_=>?_) (λ_=>?_))<;>conv=>whnf))
   refine lU i EN 900 rfl rfl rfl rfl rfl rfl rfl rfl rfl (by omega) hL0 ⟨by decide,by decide⟩ rfl λg c=>?_
   ((conv=>whnf);repeat' ((first|refine odw ?_|refine nx ?_|refine A5 (λ_=>?_) (λ_=>?_))<;>conv=>whnf))
   refine fV EN 900 rfl rfl rfl rfl rfl rfl (λw=>by kernel_rfl) rfl rfl (by decide) rfl ?_
   ((conv=>whnf);repeat' ((first|refine odw ?_|refine nx ?_|refine A5 (λ_=>?_) (λ_=>?_))<;>conv=>whnf))
   refine lV EN 900 rfl rfl rfl rfl rfl hL2.symm rfl rfl rfl (by omega) (by decide) rfl ?_
   rw[hhead]
   ((conv=>whnf);repeat' ((first|refine odw ?_|refine nx ?_|refine A5 (λ_=>?_) (λ_=>?_))<;>conv=>whnf))
   exact⟨rfl,rfl,rfl⟩
def sN:List FuncId:=[123]
theorem X5(G:Gr)(hG:G.Ok)(l:List Int)(v:Int):Pure C1 179 [.int .i64 v,.ref (dG G),.ref (Bx l)] (λy=>y=.bool (!Ec G l v)):=by
 have h1:=RO G hG l v
 refine AT Tryz.func179 Tryz.ntmps179 sN [] ?_
 (conv=>whnf)
 (repeat' ((first|refine Ai ?_ ?_|refine Aj rfl h1 ?_|refine nx ?_|refine A5 (λ_=>?_) (λ_=>?_)|exact AA)<;>conv=>whnf))
 exact rfl
def sM:List FuncId:=[81]
theorem aP(G:Gr)(hG:G.Ok)(l:List Int)(hb:l.length<=100000):Pure C1 118 [dG G,Bx l] (λy=>y=Bx (HO G l)\/y=.nils/\HO G l=[]):=by
 have hcn:=XN G hG l
 have hnl:=R1 hG hb
 have hdl:=V4 (F0 G l) 179 [.ref (dG G),.ref (Bx l)] (λv=>!Ec G l v) hnl (λv _=>X5 G hG l v)
 refine AT Tryz.func118 Tryz.ntmps118 sM [] ?_
 unfold HO
 cases hc:Dk G l with
 |
  false=>
  rw[hc]at hcn
  rw[if_neg (by decide)]
  (conv=>whnf)
  (repeat' ((first|refine Ai ?_ ?_|refine Aj rfl hcn ?_|refine nx ?_|refine A5 (λ_=>?_) (λ_=>?_)|exact AA)<;>conv=>whnf))
  exact .inr ⟨rfl,rfl⟩
 |
  true=>
  rw[hc]at hcn
  rw[if_pos rfl]
  have he:((F0 G l).filter λx=>!!Ec G l x)=(F0 G l).filter (Ec G l):=by simp only[Bool.not_not]
  rw[he]at hdl
  (conv=>whnf)
  (repeat' ((first|refine Ai ?_ ?_|refine Aj rfl hcn ?_|refine nx ?_|refine A5 (λ_=>?_) (λ_=>?_)|exact AA)<;>conv=>whnf))
  refine Ee 300 rfl rfl (ZS G hG l hb) ?_;rintro ds rfl
  (conv=>whnf)
  refine RZ tab rfl rfl hdl (λds h=>by subst h;exact I6 _) ?_;rintro ds rfl
  ((conv=>whnf);repeat' ((first|refine odw ?_|refine nx ?_|refine A5 (λ_=>?_) (λ_=>?_))<;>conv=>whnf))
  exact .inl rfl
end Go.Proofs.YtjejpdfldmempaaGreatDoor
end
section
namespace Go.Gr
open Go.Proofs.YtjejpdfldmempaaGreatDoor
structure Opp where
 kind:Int
 n:Int
def FB(k:Int):Bool:=!(decide (k=1)||decide (k=6)||decide (k=8))
def DR(o:Opp):Int:=if o.kind<1\/8<o.kind then 1 else if o.n<0\/255<o.n\/0<o.n/\FB o.kind=false then 3 else 0
def ET(E:List Edg)(a b:Int):Bool:=decide (turn ⟨a,b⟩∈E)
def SS(p:Pt)(a:Nat):Int:=(p.labels[a]?).getD 0
def Ze(p:Pt):Bool:=p.edges.any λe=>(List.range p.labels.length).any λv=>ET p.edges e.a v&&ET p.edges e.b v
def bA(p:Pt)(n:Int):Bool:=(List.range p.labels.length).all λv=>decide ((O3 p.edges v:Int)<=n)
def Co(o:Opp)(p:Pt):Bool:=
 if o.kind=1 then decide (p.edges.length=p.labels.length*(p.labels.length-1)/2)
 else if o.kind=2 then !p.labels.any λl=>decide (o.n<l)
 else if o.kind=3 then bA p o.n
 else if o.kind=4 then decide ((p.labels.length:Int)<=o.n)
 else if o.kind=5 then decide ((p.edges.length:Int)<=o.n)
 else if o.kind=6 then decide ((Dx p.labels).length=p.labels.length)
 else if o.kind=7 then !p.labels.any λl=>decide (l≠o.n)
 else !Ze p
def qT(p:Pt)(a:Nat):Nat:=(List.range p.labels.length).countP λb=>decide (a≠b)&&ET p.edges a b
def S7(o:Opp)(p:Pt)(a b:Nat):Bool:=decide (a=b)||(!(decide (o.kind=1)&&!ET p.edges a b)&&!(decide (o.kind=6)&&decide (SS p a=SS p b))&&(List.range p.labels.length).all λc=>!(decide (o.kind=8)&&ET p.edges a b&&ET p.edges a c&&ET p.edges b c))
def S8(o:Opp)(p:Pt)(a:Nat):Bool:=!(decide (o.kind=2)&&decide (o.n<SS p a))&&!(decide (o.kind=7)&&decide (SS p a≠o.n))&&((List.range p.labels.length).all (S7 o p a))&&!(decide (o.kind=3)&&decide (o.n<(qT p a:Int)))
def P2(o:Opp)(p:Pt):Bool:=!(decide (o.kind=4)&&decide (o.n<(p.labels.length:Int)))&&!(decide (o.kind=5)&&decide (o.n<(p.edges.length:Int)))&&(List.range p.labels.length).all (S8 o p)
def jY:Nat->List Edg
 |0=>[]
 |n+1=>jY n++(List.range n).map λa=>⟨(a:Int),(n:Int)⟩
theorem JT:∀{n:Nat} {e:Edg},e∈jY n↔0<=e.a/\e.a<e.b/\e.b<(n:Int)
 |0,e=>by simp[jY];omega
 |
  n+1,e=>by
  unfold jY
  rw[Ag,JT,Aq]
  constructor
  ·rintro(h|⟨a,ha,rfl⟩)
   ·omega
   ·have:=AO.1 ha;simp only;omega
  ·rintro⟨h1,h2,h3⟩
   by_cases h:e.b<(n:Int)
   ·exact .inl ⟨h1,h2,h⟩
   ·obtain⟨a,b⟩:=e
    simp only at h1 h2 h3 h
    refine .inr ⟨a.toNat,AO.2 (by omega),?_⟩
    rw[F6 h1,show b=(n:Int)by omega]
theorem Rq:∀n,(jY n).Nodup
 |0=>List.nodup_nil
 |
  n+1=>by
  unfold jY
  rw[D5]
  refine⟨Rq n,?_,λx hx y hy e=>?_⟩
  ·unfold List.Nodup
   rw[BL]
   exact List.nodup_range.imp λhne e=>hne (by have:=(Edg.mk.inj e).1;omega)
  ·subst e
   have h1:=JT.1 hx
   obtain⟨a,_,rfl⟩:=Aq.1 hy
   simp only at h1;omega
theorem SA:∀n,(jY n).length=n*(n-1)/2
 |0=>rfl
 |
  n+1=>by
  unfold jY
  rw[Ae,SA n,Ac,CX,Nat.add_sub_cancel]
  have h:(n+1)*n=n*(n-1)+n*2:=by
   cases n with
   |zero=>rfl
   |succ n=>rw[Nat.add_sub_cancel,<-Nat.mul_add,jE]
  rw[h,Nat.add_mul_div_right _ _ (by decide)]
section
variable {n:Nat} {p:Pt}
theorem XL(hp:PtOk n p):p.edges.length=n*(n-1)/2↔∀a b:Nat,a<n->b<n->a≠b->ET p.edges a b=true:=by
 rw[<-SA]
 have hsub:∀e∈p.edges,e∈jY n:=λe he=>JT.2 (hp.edge e he)
 constructor
 ·intro h a b ha hb hne
  have hperm:=GU hp.strict.nodup hsub (by omega)
  unfold ET
  refine decide_eq_true (hperm.mem_iff.2 (JT.2 ?_))
  unfold turn;simp only;omega
 ·intro h
  have h1:=Nk hp.strict.nodup hsub
  have h2:=Nk (Rq n) (m:=p.edges) λe he=>by
   obtain⟨g1,g2,g3⟩:=JT.1 he
   have:=h e.a.toNat e.b.toNat (by omega) (by omega) (by omega)
   unfold ET at this
   have:=of_decide_eq_true this
   rw[F6 g1,F6 (show 0<=e.b by omega)]at this
   unfold turn at this
   rw[show min e.a e.b=e.a by omega,show max e.a e.b=e.b by omega]at this
   exact this
  omega
def SG(v:Int)(e:Edg):Int:=if e.a=v then e.b else e.a
theorem iI(hp:PtOk n p) {a:Nat}(ha:a<n):qT p a=O3 p.edges a:=by
 unfold qT O3
 rw[List.countP_eq_length_filter,List.countP_eq_length_filter,hp.len]
 have h:(((List.range n).filter λb=>decide (a≠b)&&ET p.edges a b).map λb:Nat=>(b:Int)).Perm ((p.edges.filter λe=>decide (e.a=(a:Int)\/e.b=(a:Int))).map (SG a)):=by
  refine(List.perm_ext_iff_of_nodup ?_ ?_).2 λx=>?_
  ·unfold List.Nodup
   rw[BL]
   exact(List.nodup_range.sublist D7).imp λhne e=>hne (by omega)
  ·unfold List.Nodup
   rw[BL]
   refine XZ ?_ (hp.strict.nodup.sublist D7)
   intro x y hx hy hne e
   obtain⟨hx,qx⟩:=A3.1 hx
   obtain⟨hy,qy⟩:=A3.1 hy
   have qx:=of_decide_eq_true qx
   have qy:=of_decide_eq_true qy
   have ex:=hp.edge x hx
   have ey:=hp.edge y hy
   refine hne ?_
   obtain⟨xa,xb⟩:=x
   obtain⟨ya,yb⟩:=y
   simp only[Edg.mk.injEq,SG]at*
   split at e<;>split at e<;>omega
  ·rw[Aq,Aq]
   constructor
   ·rintro⟨b,hb,rfl⟩
    obtain⟨hb,q⟩:=A3.1 hb
    rw[Ah,decide_eq_true_eq]at q
    have:=AO.1 hb
    refine⟨turn ⟨a,b⟩,A3.2 ⟨of_decide_eq_true q.2,?_⟩,?_⟩
    ·refine decide_eq_true ?_
     unfold turn;simp only;omega
    ·unfold SG turn;simp only;split<;>omega
   ·rintro⟨e,he,rfl⟩
    obtain⟨he,q⟩:=A3.1 he
    have q:=of_decide_eq_true q
    have g:=hp.edge e he
    refine⟨(SG a e).toNat,A3.2 ⟨AO.2 ?_,?_⟩,?_⟩
    ·unfold SG;split<;>omega
    ·rw[Ah,decide_eq_true_eq]
     refine⟨by unfold SG;split<;>omega,decide_eq_true ?_⟩
     have:turn ⟨(a:Int),((SG a e).toNat:Int)⟩=e:=by
      obtain⟨xa,xb⟩:=e
      simp only at g q
      simp only[turn,SG,Edg.mk.injEq]
      split<;>omega
     rw[this];exact he
    ·unfold SG;split<;>omega
 have:=h.length_eq
 rwa [Ac,Ac]at this
theorem Nw(hp:PtOk n p) {a:Nat}(ha:a<n):p.labels[a]? =some (SS p a):=by
 unfold SS
 rw[Ab (by rw[hp.len];exact ha)];rfl
theorem UP(hp:PtOk n p)(q:Int->Bool):p.labels.any q=true↔∃a,a<n/\q (SS p a)=true:=by
 rw[BM]
 constructor
 ·rintro⟨x,hx,h⟩
  obtain⟨a,ha,rfl⟩:=Cu.1 hx
  have han:a<n:=by rw[<-hp.len];exact ha
  refine⟨a,han,?_⟩
  have:=Nw hp han
  rw[Ab ha,Au]at this
  rw[<-this];exact h
 ·rintro⟨a,ha,h⟩
  exact⟨_,AD (Nw hp ha),h⟩
theorem Wj(hp:PtOk n p):(Dx p.labels).length=p.labels.length↔∀a b:Nat,a<n->b<n->a≠b->SS p a≠SS p b:=by
 constructor
 ·intro h a b ha hb hne e
  have hperm:=GU (l:=Dx p.labels) (m:=p.labels) (((BT p.labels).1).imp λh=>by omega) (λx hx=>((BT p.labels).2 x).1 hx) (by omega)
  have hn:p.labels.Nodup:=hperm.nodup_iff.1 (((BT p.labels).1).imp λh=>by omega)
  have h1:=Nw hp ha
  have h2:=Nw hp hb
  have ha':a<p.labels.length:=by rw[hp.len];exact ha
  have hb':b<p.labels.length:=by rw[hp.len];exact hb
  rw[Ab ha',Au]at h1
  rw[Ab hb',Au]at h2
  have hq:=AI.1 hn
  rcases Bu a b with g|g
  ·exact hq a b ha' hb' g (by rw[h1,h2,e])
  ·exact hq b a hb' ha' (by omega) (by rw[h1,h2,e])
 ·intro h
  refine NU ?_
  unfold List.Nodup
  rw[AI]
  intro i j hi hj hij e
  have hi':i<n:=by rw[<-hp.len];exact hi
  have hj':j<n:=by rw[<-hp.len];exact hj
  have h1:=Nw hp hi'
  have h2:=Nw hp hj'
  rw[Ab hi,Au]at h1
  rw[Ab hj,Au]at h2
  exact h i j hi' hj' (by omega) (by rw[<-h1,<-h2,e])
theorem kR(hp:PtOk n p):Ze p=true↔∃a b c:Nat,a<n/\b<n/\c<n/\a≠b/\ET p.edges a b=true/\ET p.edges a c=true/\ET p.edges b c=true:=by
 unfold Ze
 rw[BM]
 constructor
 ·rintro⟨e,he,h⟩
  obtain⟨c,hc,h⟩:=BM.1 h
  rw[Ah]at h
  have g:=hp.edge e he
  have hcn:=AO.1 hc
  rw[hp.len]at hcn
  refine⟨e.a.toNat,e.b.toNat,c,by omega,by omega,hcn,by omega,?_,?_,?_⟩
  ·rw[F6 g.1,F6 (show 0<=e.b by omega)]
   unfold ET
   rw[show turn ⟨e.a,e.b⟩=e by obtain⟨xa,xb⟩:=e;simp only[turn,Edg.mk.injEq]at*;omega]
   exact decide_eq_true he
  ·rw[F6 g.1];exact h.1
  ·rw[F6 (show 0<=e.b by omega)];exact h.2
 ·rintro⟨a,b,c,ha,hb,hc,hne,h1,h2,h3⟩
  refine⟨turn ⟨a,b⟩,of_decide_eq_true h1,BM.2 ⟨c,AO.2 (by rw[hp.len];exact hc),?_⟩⟩
  rw[Ah]
  unfold turn
  simp only
  rcases Bu a b with h|h
  ·rw[show min (a:Int) b=a by omega,show max (a:Int) b=b by omega];exact⟨h2,h3⟩
  ·rw[show min (a:Int) b=b by omega,show max (a:Int) b=a by omega];exact⟨h3,h2⟩
theorem aN(hp:PtOk n p) {o:Opp}(h1:1<=o.kind)(h8:o.kind<=8):Co o p=P2 o p:=by
 obtain⟨k,m⟩:=o
 simp only at h1 h8
 have hk:k=1\/k=2\/k=3\/k=4\/k=5\/k=6\/k=7\/k=8:=by omega
 rcases hk with rfl|rfl|rfl|rfl|rfl|rfl|rfl|rfl
 ·rw[Cg]
  have:=XL hp
  simp[Co,P2,S8,S7,hp.len]
  rw[this]
  exact⟨λh a ha b hb=>Classical.byCases .inl λhne=>.inr (h a b ha hb hne),λh a b ha hb hne=>(h a ha b hb).resolve_left hne⟩
 ·rw[Cg]
  have:=UP hp λl=>decide (m<l)
  rw[show Co ⟨2,m⟩ p=!p.labels.any λl=>decide (m<l)from rfl,BC,L2,ne_eq,this]
  simp[P2,S8,S7,hp.len]
 ·rw[Cg]
  simp[Co,P2,S8,S7,hp.len,bA]
  exact⟨λh a ha=>by rw[iI hp ha];exact h a ha,λh a ha=>by rw[<-iI hp ha];exact h a ha⟩
 ·rw[Cg]
  simp[Co,P2,S8,S7,hp.len]
 ·rw[Cg]
  simp[Co,P2,S8,S7,hp.len]
 ·rw[Cg]
  have:=Wj hp
  rw[show Co ⟨6,m⟩ p=decide ((Dx p.labels).length=p.labels.length)from rfl,decide_eq_true_eq,this]
  simp[P2,S8,S7,hp.len]
  exact⟨λh a ha b hb=>Classical.byCases .inl λhne=>.inr (h a b ha hb hne),λh a b ha hb hne=>(h a ha b hb).resolve_left hne⟩
 ·rw[Cg]
  have:=UP hp λl=>decide (l≠m)
  rw[show Co ⟨7,m⟩ p=!p.labels.any λl=>decide (l≠m)from rfl,BC,L2,ne_eq,this]
  simp[P2,S8,S7,hp.len]
 ·rw[Cg]
  have:=kR hp
  rw[show Co ⟨8,m⟩ p=!Ze p from rfl,BC,L2,ne_eq,this]
  simp[P2,S8,S7,hp.len]
  constructor
  ·intro h a ha b hb
   refine Classical.byCases .inl λhne=>.inr λc hc=>?_
   have:=h a ha b hb c hc hne
   revert this
   cases ET p.edges a b<;>cases ET p.edges a c<;>cases ET p.edges b c<;>simp
  ·intro h a ha b hb c hc hne g1 g2
   have:=(h a ha b hb).resolve_left hne c hc
   rw[g1,g2]at this
   simpa using this
end
end Go.Gr
end
section
namespace Go.Gr
theorem bB {E:List Edg} {v:Int} {i:Nat} {x:Edg}(h:E[i]? =some x):O3 (E.take (i+1)) v=O3 (E.take i) v+if x.a=v\/x.b=v then 1 else 0:=by
 unfold O3
 rw[A2,h,BY,List.countP_append]
 congr 1
 by_cases hc:x.a=v\/x.b=v<;>simp[hc]
theorem mT(E:List Edg)(v:Int)(i:Nat):O3 (E.take i) v<=i:=by
 unfold O3
 exact Cv List.countP_le_length (by rw[Aw];omega)
end Go.Gr
namespace Go.Proofs.YtjejpdfldmempaaGreatDoor
open Go.Sx Go.RowKit Go.Reg Go.Gr
set_option maxRecDepth 100000
theorem SD(p:Pt)(v:Int)(hme:p.edges.length<=4294967296):Pure C1 283 [L3 p,.int .i64 v] (λy=>y=.int .i64 (O3 p.edges v:Nat)):=by
 have hde:(p.edges.map dE).length=p.edges.length:=Ac _
 refine AT Tryz.func283 Tryz.ntmps283 [] [] ?_
 ((conv=>whnf);repeat' ((first|refine odw ?_|refine nx ?_|refine A5 (λ_=>?_) (λ_=>?_))<;>conv=>whnf))
 refine AN (ι:=Nat) (λi=>i<=p.edges.length) (λi=>[(11,.d (.int .i64 i)),(10,.d (.int .i64 (p.edges.map dE).length)),(9,.d (Er p.edges)),(5,.d (.int .i64 (O3 (p.edges.take i) v:Nat))),(1,.d (.int .i64 v))]) (λ_=>[]) (λi=>p.edges.length-i) 0 (λ_=>rfl) (As _) (.refl _ _) ⟨rfl,rfl,rfl,rfl,rfl,trivial⟩ trivial ?_
 intro i hi
 refine BV [] [] ?_
 by_cases hil:i<p.edges.length
 ·have hx:=Ab hil
  generalize p.edges[i]=x at hx
  have hxd:(p.edges.map dE)[i]? =some (.agg [.int .i64 x.a,.int .i64 x.b]):=by rw[Af,hx];rfl
  have hst:=bB (v:=v) hx
  have hle:=mT p.edges v i
  by_cases h1:x.a=v
  ·rw[if_pos (.inl h1)]at hst
   (conv=>whnf)
   (repeat' ((first|refine Ai ?_ ?_|refine AM hxd rfl ?_|refine nx ?_|refine A5 (λ_=>?_) (λ_=>?_)|exact AA)<;>conv=>whnf))
   exact⟨i+1,_,_,hil,.refl _ _,⟨rfl,rfl,rfl,Qd (by omega),rfl,trivial⟩,trivial,by omega⟩
  ·by_cases h2:x.b=v
   ·rw[if_pos (.inr h2)]at hst
    (conv=>whnf)
    (repeat' ((first|refine Ai ?_ ?_|refine AM hxd rfl ?_|refine nx ?_|refine A5 (λ_=>?_) (λ_=>?_)|exact AA)<;>conv=>whnf))
    exact⟨i+1,_,_,hil,.refl _ _,⟨rfl,rfl,rfl,Qd (by omega),rfl,trivial⟩,trivial,by omega⟩
   ·rw[if_neg (by omega)]at hst
    (conv=>whnf)
    (repeat' ((first|refine Ai ?_ ?_|refine AM hxd rfl ?_|refine nx ?_|refine A5 (λ_=>?_) (λ_=>?_)|exact AA)<;>conv=>whnf))
    exact⟨i+1,_,_,hil,.refl _ _,⟨rfl,rfl,rfl,Qd (by omega),rfl,trivial⟩,trivial,by omega⟩
 ·have e:p.edges.take i=p.edges:=Ao (by omega)
  rw[e]
  ((conv=>whnf);repeat' ((first|refine odw ?_|refine nx ?_|refine A5 (λ_=>?_) (λ_=>?_))<;>conv=>whnf))
  exact rfl
end Go.Proofs.YtjejpdfldmempaaGreatDoor
end
section
namespace Go.Gr
theorem Tc {α:Type} {l:List α} {p:α->Bool} {i:Nat} {x:α}(h:l[i]? =some x)(hx:p x=true)(hn:∀y∈l.take i,p y=false):l.findIdx? p=some i:=by
 have hil:i<l.length:=by
  rcases Bu i l.length with g|g
  ·exact g
  ·rw[BB g]at h;cases h
 rw[AJ]
 rw[Ab hil,Au]at h
 refine⟨hil,by rw[h];exact hx,λj hj=>?_⟩
 have:=hn (l[j]'(by omega)) (AU.2 ⟨j,by omega,rfl⟩)
 simp[this]
theorem N1 {α:Type} {l:List α} {p:α->Bool}(h:∀y∈l,p y=false):l.findIdx? p=none:=by
 rw[AK];exact h
end Go.Gr
namespace Go.Proofs.YtjejpdfldmempaaGreatDoor
open Go.Sx Go.RowKit Go.Reg Go.Gr
set_option maxRecDepth 100000
def dO(o:Opp):Da:=.agg [.int .i64 o.kind,.int .i64 o.n]
def N6(l:List Opp):Da:=.list 2 (l.map dO)
def gT:ByteArray:=⟨#[107,105,110,100]⟩
def qE:ByteArray:=⟨#[110,117,109,98,101,114]⟩
def Od(k:Int):List UInt8:=if k=1 then[99,108,105,113,117,101]else if k=2 then[108,97,98,101,108,115]else if k=3 then[100,101,103,114,101,101]else if k=4 then[115,105,122,101]else if k=5 then[101,100,103,101,115]else if k=6 then[117,110,108,105,107,101]else if k=7 then[111,110,108,121]else if k=8 then[102,114,101,101]else[]
def SK:List Da:=(List.range 8).map λk:Nat=>.str ⟨(Od ((k:Int)+1)).toArray⟩
theorem ZU {i:Nat}(h:i<8):SK[i]? =some (.str ⟨(Od ((i:Int)+1)).toArray⟩):=by
 unfold SK
 rw[Af,Ep h];rfl
theorem Ul:Pure C1 254 [] (λy=>y=.list 1 SK):=by
 refine AT Tryz.func254 Tryz.ntmps254 [] [] ?_
 ((conv=>whnf);repeat' ((first|refine odw ?_|refine nx ?_|refine A5 (λ_=>?_) (λ_=>?_))<;>conv=>whnf))
 exact rfl
def rH:List FuncId:=[254]
theorem WI(k:Int):Pure C1 227 [.int .i64 k] (λy=>y=.str ⟨(Od k).toArray⟩):=by
 have hn:=Ul
 have hl:SK.length=8:=rfl
 refine AT Tryz.func227 Tryz.ntmps227 rH [] ?_
 by_cases hk:1<=k/\k<=8
 ·have hx:=ZU (i:=(k-1).toNat) (by omega)
  rw[show(((k-1).toNat:Nat):Int)+1=k by omega]at hx
  (conv=>whnf)
  (repeat' ((first|refine Ai ?_ ?_|refine Aj rfl hn ?_|refine AM hx (by omega) ?_|refine nx ?_|refine A5 (λ_=>?_) (λ_=>?_)|exact AA)<;>conv=>whnf))
  exact rfl
 ·have e:Od k=[]:=by unfold Od;repeat rw[if_neg (by omega)]
  rw[e]
  (conv=>whnf)
  (repeat' ((first|refine Ai ?_ ?_|refine Aj rfl hn ?_|refine nx ?_|refine A5 (λ_=>?_) (λ_=>?_)|exact AA)<;>conv=>whnf))
  all_goals exact rfl
theorem Uk(k:Int):Pure C1 228 [.int .i64 k] (λy=>y=.bool (FB k)):=by
 refine AT Tryz.func228 Tryz.ntmps228 [] [] ?_
 by_cases h1:k=1
 ·subst h1;((conv=>whnf);repeat' ((first|refine odw ?_|refine nx ?_|refine A5 (λ_=>?_) (λ_=>?_))<;>conv=>whnf));exact rfl
 by_cases h6:k=6
 ·subst h6;((conv=>whnf);repeat' ((first|refine odw ?_|refine nx ?_|refine A5 (λ_=>?_) (λ_=>?_))<;>conv=>whnf));exact rfl
 by_cases h8:k=8
 ·subst h8;((conv=>whnf);repeat' ((first|refine odw ?_|refine nx ?_|refine A5 (λ_=>?_) (λ_=>?_))<;>conv=>whnf));exact rfl
 have e:FB k=true:=by unfold FB;simp[h1,h6,h8]
 rw[e]
 ((conv=>whnf);repeat' ((first|refine odw ?_|refine nx ?_|refine A5 (λ_=>?_) (λ_=>?_))<;>conv=>whnf))
 exact rfl
def Iv(o:Opp)(at_:Int):Da:=if DR o=0 then .nili else dF (DR o) at_ (if DR o=1 then gT else qE)
theorem lW {k:Int}(h:1<=k/\k<=8):∃c t,Od k=c::t:=by
 have hk:k=1\/k=2\/k=3\/k=4\/k=5\/k=6\/k=7\/k=8:=by omega
 rcases hk with rfl|rfl|rfl|rfl|rfl|rfl|rfl|rfl<;>exact⟨_,_,rfl⟩
def sW:List FuncId:=[227,228]
theorem LY(o:Opp)(a:Int):Pure C1 173 [dO o,.int .i64 a] (λy=>y=Iv o a):=by
 have hn:=WI o.kind
 have ht:=Uk o.kind
 have hf1:=BU 1 a gT
 have hf3:=BU 3 a qE
 refine AT Tryz.func173 Tryz.ntmps173 sW [] ?_
 by_cases hk:1<=o.kind/\o.kind<=8
 ·obtain⟨c,t,hct⟩:=lW hk
  rw[hct]at hn
  have hsn:¬({data:=(c::t).toArray}:ByteArray)={data:=#[]}:=λh=>by simp at h
  by_cases hr:o.n<0\/255<o.n\/0<o.n/\FB o.kind=false
  ·have e:Iv o a=dF 3 a qE:=by
    unfold Iv DR
    rw[if_neg (show¬(o.kind<1\/8<o.kind)by omega),if_pos hr];rfl
   rw[e]
   cases htk:FB o.kind<;>rw[htk]at ht hr<;>
   ·(conv=>whnf)
    (repeat' ((first|refine Ai ?_ ?_|refine RI hsn ?_|refine Aj rfl hn ?_|refine Aj rfl ht ?_|refine Aj rfl hf3 ?_|refine nx ?_|refine A5 (λ_=>?_) (λ_=>?_)|exact AA)<;>conv=>whnf))
    all_goals first|exact rfl|(exfalso;simp at hr;omega)
  ·have e:Iv o a=.nili:=by
    unfold Iv DR
    rw[if_neg (show¬(o.kind<1\/8<o.kind)by omega),if_neg hr];rfl
   rw[e]
   cases htk:FB o.kind<;>rw[htk]at ht hr<;>
   ·(conv=>whnf)
    (repeat' ((first|refine Ai ?_ ?_|refine RI hsn ?_|refine Aj rfl hn ?_|refine Aj rfl ht ?_|refine Aj rfl hf3 ?_|refine nx ?_|refine A5 (λ_=>?_) (λ_=>?_)|exact AA)<;>conv=>whnf))
    all_goals first|exact rfl|(exfalso;simp at hr;omega)
 ·have e1:Od o.kind=[]:=by unfold Od;repeat rw[if_neg (by omega)]
  have e:Iv o a=dF 1 a gT:=by
   unfold Iv DR
   rw[if_pos (show(o.kind<1\/8<o.kind)by omega)];rfl
  rw[e1]at hn
  rw[e]
  (conv=>whnf)
  (repeat' ((first|refine Ai ?_ ?_|refine Aj rfl hn ?_|refine Aj rfl hf1 ?_|refine nx ?_|refine A5 (λ_=>?_) (λ_=>?_)|exact AA)<;>conv=>whnf))
  all_goals exact rfl
end Go.Proofs.YtjejpdfldmempaaGreatDoor
end
