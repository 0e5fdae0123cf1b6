/- Merged: Vsb Lnp Vlc Vlg Lng Vli Srq Pgl Pdg. -/
import Derived.Test.YtjejpdfldmempaaGreatDoorlzas
import Derived.Test.YtjejpdfldmempaaGreatDoorlzat
import Derived.Test.YtjejpdfldmempaaGreatDoorlzan
import Derived.Test.YtjejpdfldmempaaGreatDoorlzar
section
namespace Go.Gr
theorem PR {l:List Int}(h:l.Pairwise (· < ·)) {i j:Nat} {x y:Int}(hi:l[i]? =some x)(hj:l[j]? =some y)(hij:i<j):x<y:=by
 obtain⟨h1,rfl⟩:=Ae.1 hi
 obtain⟨h2,rfl⟩:=Ae.1 hj
 exact AH.1 h i j h1 h2 hij
theorem bH {l:List Int}(h:l.Pairwise (· < ·)) {m:Nat} {y e:Int}(hm:l[m]? =some y)(he:y<e):∀x∈l.take (m+1),x<e:=by
 intro x hx
 obtain⟨i,hi,rfl⟩:=AQ.1 hx
 by_cases h2:i=m
 ·subst h2
  rw[Aa (by omega)]at hm
  rw[B5 hm];exact he
 ·have:=PR h (Aa (by omega)) hm (show i<m by omega)
  omega
theorem bI {l:List Int}(h:l.Pairwise (· < ·)) {m:Nat} {y e:Int}(hm:l[m]? =some y)(he:¬y<e):∀x∈l.drop m,¬x<e:=by
 intro x hx hc
 obtain⟨i,hi,rfl⟩:=DN.1 hx
 by_cases h2:i=0
 ·subst h2
  rw[Aa (by omega)]at hm
  have:=B5 hm
  simp only[Dd]at hc
  rw[this]at hc;exact he hc
 ·have:=PR h hm (Aa (i:=m+i) (by omega)) (by omega)
  omega
theorem hU {l:List Int}(h:l.Pairwise (· < ·)) {m:Nat} {e:Int}(h1:∀x∈l.take m,x<e)(h2:∀x∈l.drop m,¬x<e):e∈l↔l[m]? =some e:=by
 refine⟨λhe=>?_,λh=>AB h⟩
 obtain⟨i,hi⟩:=List.mem_iff_getElem?.1 he
 have hil:=(Ae.1 hi).1
 have hie:=(Ae.1 hi).2
 by_cases h3:i<m
 ·have:=h1 e (hie▸AQ.2 ⟨i,by omega,rfl⟩);omega
 ·by_cases h4:i=m
  ·subst h4;exact hi
  ·have hm:=Aa (l:=l) (i:=m) (by omega)
   have h5:=PR h hm hi (by omega)
   have:=h2 _ (DN.2 ⟨0,by omega,rfl⟩)
   simp only[Dd]at this
   omega
end Go.Gr
namespace Go.Proofs.YtjejpdfldmempaaGreatDoor
open Go.Sx Go.RowKit Go.Reg Go.Gr
set_option maxRecDepth 100000
theorem cT(a b:Int):Pure C1 269 [.int .i64 a,.int .i64 b] (λy=>y=.bool (decide (a<b))):=by
 refine AK Tryz.func269 Tryz.ntmps269 [] [] ?_
 (conv=>whnf)
 (repeat' ((first|refine Af ?_ ?_|refine Ad rfl (Mb a) ?_|refine Ad rfl (Mb b) ?_|refine nx ?_|refine Aw (λ_=>?_) (λ_=>?_)|exact A0)<;>conv=>whnf))
 exact rfl
theorem aL(a:Int):Pure C1 277 [.int .i64 a] (λy=>y=.bool false):=by
 refine AK Tryz.func277 Tryz.ntmps277 [] [] ?_
 ((conv=>whnf);repeat' ((first|refine odw ?_|refine nx ?_|refine Aw (λ_=>?_) (λ_=>?_))<;>conv=>whnf))
 show Da.plain (.prop _ _)=_
 simp[Da.plain]
theorem lL(l:List Int)(hr:l.Pairwise (· < ·))(hl:l.length<=4294967296)(e:Int):Pure C1 257 [AS l,.int .i64 e] (λy=>∃m:Nat,y=.tuple [.int .i64 m,.bool (decide (e∈l))]):=by
 have hlm:(l.map dI).length=l.length:=Ab _
 refine AK Tryz.func257 Tryz.ntmps257 [] [] ?_
 ((conv=>whnf);repeat' ((first|refine odw ?_|refine nx ?_|refine Aw (λ_=>?_) (λ_=>?_))<;>conv=>whnf))
 refine AC (ι:=Nat×Nat) (λx=>x.1<=x.2/\x.2<=l.length/\(∀z∈l.take x.1,z<e)/\∀z∈l.drop x.2,¬z<e)
  (λx=>[(8,.d (.int .i64 x.2)),(7,.d (.int .i64 x.1)),(6,.d (.int .i64 (l.map dI).length)),(1,.d (.int .i64 e)),(0,.d (AS l))])
  (λ_=>[]) (λx=>x.2-x.1) (0,(l.map dI).length) (λ_=>rfl) ⟨Aj _,by rw[hlm];exact Az _,by simp,by rw[hlm];simp⟩ (.refl _ _) ⟨rfl,rfl,rfl,rfl,rfl,trivial⟩ trivial ?_
 rintro⟨lo,hi⟩ ⟨h1,h2,h3,h4⟩
 dsimp only at h1 h2 h3 h4
 refine Bj [] [] ?_
 by_cases hlt:lo<hi
 ·have hx:=Aa (l:=l) (i:=(lo+hi)/2) (by omega)
  generalize l[(lo+hi)/2]'(by omega)=z at hx
  have hxd:(l.map dI)[(lo+hi)/2]? =some (.int .i64 z):=by rw[Ac,hx];rfl
  have hle:=cT z e
  by_cases hz:z<e
  ·rw[decide_eq_true hz]at hle
   (conv=>whnf)
   (repeat' ((first|refine Af ?_ ?_|refine MH (by omega) ?_|refine nx ?_|refine Aw (λ_=>?_) (λ_=>?_)|exact A0)<;>conv=>whnf))
   refine Qd 1 rfl rfl rfl (by decide) rfl rfl ?_
   (conv=>whnf)
   (repeat' ((first|refine Af ?_ ?_|refine TE ((lo+hi)/2) (Mm lo hi) (by omega) ?_|refine A1 hxd rfl ?_|refine Ad rfl hle ?_|refine nx ?_|refine Aw (λ_=>?_) (λ_=>?_)|exact A0)<;>conv=>whnf))
   exact⟨((lo+hi)/2+1,hi),_,_,⟨by dsimp only;omega,h2,bH hr hx hz,h4⟩,.refl _ _,⟨rfl,rfl,rfl,rfl,rfl,trivial⟩,trivial,by dsimp only;omega⟩
  ·rw[decide_eq_false hz]at hle
   (conv=>whnf)
   (repeat' ((first|refine Af ?_ ?_|refine MH (by omega) ?_|refine nx ?_|refine Aw (λ_=>?_) (λ_=>?_)|exact A0)<;>conv=>whnf))
   refine Qd 1 rfl rfl rfl (by decide) rfl rfl ?_
   (conv=>whnf)
   (repeat' ((first|refine Af ?_ ?_|refine TE ((lo+hi)/2) (Mm lo hi) (by omega) ?_|refine A1 hxd rfl ?_|refine Ad rfl hle ?_|refine nx ?_|refine Aw (λ_=>?_) (λ_=>?_)|exact A0)<;>conv=>whnf))
   exact⟨(lo,(lo+hi)/2),_,_,⟨by dsimp only;omega,by dsimp only;omega,h3,bI hr hx hz⟩,.refl _ _,⟨rfl,rfl,rfl,rfl,rfl,trivial⟩,trivial,by dsimp only;omega⟩
 ·have hm:=hU hr h3 (by rw[show lo=hi by omega];exact h4)
  by_cases hln:lo<l.length
  ·have hx:=Aa hln
   generalize l[lo]=z at hx
   have hxd:(l.map dI)[lo]? =some (.int .i64 z):=by rw[Ac,hx];rfl
   have hnz:=aL z
   by_cases hz:z=e
   ·rw[decide_eq_true (hm.2 (by rw[hx,hz]))]
    (conv=>whnf)
    (repeat' ((first|refine Af ?_ ?_|refine A1 hxd rfl ?_|refine Ad rfl hnz ?_|refine nx ?_|refine Aw (λ_=>?_) (λ_=>?_)|exact A0)<;>conv=>whnf))
    exact⟨lo,rfl⟩
   ·rw[decide_eq_false (λh=>hz (by have:=hm.1 h;rw[hx]at this;exact B5 this))]
    (conv=>whnf)
    (repeat' ((first|refine Af ?_ ?_|refine A1 hxd rfl ?_|refine Ad rfl hnz ?_|refine nx ?_|refine Aw (λ_=>?_) (λ_=>?_)|exact A0)<;>conv=>whnf))
    exact⟨lo,rfl⟩
  ·rw[decide_eq_false (λh=>by have:=hm.1 h;rw[Bh (by omega)]at this;cases this)]
   ((conv=>whnf);repeat' ((first|refine odw ?_|refine nx ?_|refine Aw (λ_=>?_) (λ_=>?_))<;>conv=>whnf))
   exact⟨lo,rfl⟩
theorem aN(l:List Int)(hr:l.Pairwise (· < ·))(hl:l.length<=4294967296)(e:Int):Pure C1 240 [AS l,.int .i64 e] (λy=>y=.bool (decide (e∈l))):=by
 refine AK Tryz.func240 Tryz.ntmps240 [] [] ?_
 ((conv=>whnf);repeat' ((first|refine odw ?_|refine nx ?_|refine Aw (λ_=>?_) (λ_=>?_))<;>conv=>whnf))
 refine AI rfl (lL l hr hl e) ?_;rintro y ⟨m,rfl⟩
 ((conv=>whnf);repeat' ((first|refine odw ?_|refine nx ?_|refine Aw (λ_=>?_) (λ_=>?_))<;>conv=>whnf))
 exact rfl
def vI:List FuncId:=[231]
theorem Hd(l:List Int)(g:FuncId)(cs:List Da)(p:Int->Bool)(hp:∀x∈l,Pure C1 g (.int .i64 x::cs) (λy=>y=.bool (p x))):Pure C1 187 [AS l,.func (.func g) [] cs] (λy=>y=.bool (l.any p)):=by
 refine AK Tryz.func187 Tryz.ntmps187 vI [] ?_
 (conv=>whnf)
 (repeat' ((first|refine Af ?_ ?_|refine Ad rfl (Hx l g cs p hp) ?_|refine nx ?_|refine Aw (λ_=>?_) (λ_=>?_)|exact A0)<;>conv=>whnf))
 show Da.plain _=_
 have:=Mk l p
 cases h:l.any p<;>simp[Da.plain,this,h]
theorem cX(l:List Int)(g:FuncId)(cs:List Da)(p:Int->Bool)(hl:l.length<=4294967296)(hp:∀x∈l,Pure C1 g (.int .i64 x::cs) (λy=>y=.bool (p x))):DV C1 238 [AS l,.func (.func g) [] cs] 3 1 (λds=>ds=(l.filter p).map dI):=by
 have hll:(l.map dI).length=l.length:=Ab _
 refine Vt Tryz.func238 Tryz.ntmps238 [] [] ?_
 ((conv=>whnf);repeat' ((first|refine odw ?_|refine nx ?_|refine Aw (λ_=>?_) (λ_=>?_))<;>conv=>whnf))
 refine AC (ι:=Nat) (λi=>i<=l.length) (λi=>[(10,.d (.int .i64 i)),(9,.d (.int .i64 (l.map dI).length)),(8,.d (AS l)),(5,.own 300),(1,.d (.func (.func g) [] cs))]) (λi=>[(300,.slice 3 1 (((l.take i).filter p).map dI))])
  (λi=>l.length-i) 0 (λ_=>rfl) (Aj _) (.own 5 300 3 1 rfl rfl (.refl _ _)) ⟨rfl,rfl,rfl,rfl,rfl,trivial⟩ ⟨rfl,trivial⟩ ?_
 intro i hi
 refine Bj [] [] ?_
 by_cases hlt:i<l.length
 ·have hx:=Aa hlt
  have hpx:=hp _ (AL hlt)
  generalize l[i]=x at hx hpx
  have hxd:(l.map dI)[i]? =some (.int .i64 x):=by rw[Ac,hx];rfl
  have hfl:((l.take i).filter p).length<=i:=by
   have:=Co p (l.take i)
   rw[As]at this;omega
  cases hy:p x with
  |
   true=>
   rw[hy]at hpx
   have hfin:((l.take i).filter p).map dI++[.int .i64 x]=((l.take (i+1)).filter p).map dI:=by
    rw[Av,hx,B9,BJ,Ay]
    simp[hy,dI]
   (conv=>whnf)
   (repeat' ((first|refine Af ?_ ?_|refine A1 hxd rfl ?_|refine Ad (Ez _ _) hpx ?_|refine nx ?_|refine Aw (λ_=>?_) (λ_=>?_)|exact A0)<;>conv=>whnf))
   exact⟨i+1,_,_,hlt,.refl _ _,⟨rfl,rfl,rfl,rfl,rfl,trivial⟩,⟨AO hfin,trivial⟩,by omega⟩
  |
   false=>
   rw[hy]at hpx
   have hfin:((l.take i).filter p).map dI=((l.take (i+1)).filter p).map dI:=by
    rw[Av,hx,B9,BJ]
    simp[hy]
   (conv=>whnf)
   (repeat' ((first|refine Af ?_ ?_|refine A1 hxd rfl ?_|refine Ad (Ez _ _) hpx ?_|refine nx ?_|refine Aw (λ_=>?_) (λ_=>?_)|exact A0)<;>conv=>whnf))
   exact⟨i+1,_,_,hlt,.refl _ _,⟨rfl,rfl,rfl,rfl,rfl,trivial⟩,⟨AO hfin,trivial⟩,by omega⟩
 ·have hii:l.take i=l:=Ak (by omega)
  rw[hii]
  ((conv=>whnf);repeat' ((first|refine odw ?_|refine nx ?_|refine Aw (λ_=>?_) (λ_=>?_))<;>conv=>whnf))
  exact⟨rfl,rfl,rfl⟩
def qE:List FuncId:=[240]
theorem eP(b:List Int)(hr:b.Pairwise (· < ·))(hl:b.length<=4294967296)(x:Int):Pure C1 239 [.int .i64 x,.ref (AS b)] (λy=>y=.bool (!decide (x∈b))):=by
 refine AK Tryz.func239 Tryz.ntmps239 qE [] ?_
 (conv=>whnf)
 (repeat' ((first|refine Af ?_ ?_|refine Ad rfl (aN b hr hl x) ?_|refine nx ?_|refine Aw (λ_=>?_) (λ_=>?_)|exact A0)<;>conv=>whnf))
 exact rfl
def oE:List (Nat×Plan):=[]
def tY:List FuncId:=[]
end Go.Proofs.YtjejpdfldmempaaGreatDoor
end
section
namespace Go.Gr
theorem YX(E:List Edg)(i j:Nat):tch E i j=tch E j i:=by
 unfold tch
 cases E[i]? with
 |none=>cases E[j]? <;>rfl
 |
  some x=>
  cases E[j]? with
  |none=>rfl
  |
   some y=>
   rw[BT]
   simp only[Ai,CA,decide_eq_true_eq]
   constructor
   ·rintro⟨h,h2⟩;exact⟨λe=>h e.symm,by omega⟩
   ·rintro⟨h,h2⟩;exact⟨λe=>h e.symm,by omega⟩
def G3(G:Gr):Gr:=⟨List.replicate G.edges.length 0,Fp G.edges G.edges.length⟩
theorem oQ {G:Gr}(h:G.Ok)(hm:G.edges.length<=4096)(hp:(BS G.edges G.labels.length).length<=16384):(G3 G).Ok:=by
 have:=M4 (Mf h hm hp)
 rwa [Oz h]at this
theorem Vw {out:List Int} {x y:Int}:y∈E1 out x↔y∈out\/y=x:=by
 unfold E1
 split
 ·rename_i h
  constructor
  ·exact .inl
  ·rintro(h2|rfl)
   ·exact h2
   ·exact h
 ·simp
theorem Rh {out:List Int}(h:out.Nodup)(x:Int):(E1 out x).Nodup:=by
 unfold E1
 split
 ·exact h
 ·rename_i hx
  rw[Dn]
  exact⟨h,by simp,λa ha b hb e=>by simp at hb;subst hb;subst e;exact hx ha⟩
theorem F3(l:List Edg):(Bq l).Nodup/\∀x,x∈Bq l↔∃e∈l,x=e.a\/x=e.b:=by
 suffices h:∀l:List Edg,(Bq l.reverse).Nodup/\∀x,x∈Bq l.reverse↔∃e∈l.reverse,x=e.a\/x=e.b by have:=h l.reverse;rwa [List.reverse_reverse]at this
 intro l
 induction l with
 |nil=>simp[Bq]
 |
  cons e l ih=>
  rw[List.reverse_cons,Gz]
  refine⟨Rh (Rh ih.1 _) _,λx=>?_⟩
  rw[Vw,Vw,ih.2]
  constructor
  ·rintro((⟨z,hz,h⟩|h)|h)
   ·exact⟨z,by simp at hz⊢;exact .inl hz,h⟩
   ·exact⟨e,by simp,.inl h⟩
   ·exact⟨e,by simp,.inr h⟩
  ·rintro⟨z,hz,h⟩
   rcases Ag.1 hz with hz|hz
   ·exact .inl (.inl ⟨z,hz,h⟩)
   ·simp at hz;subst hz
    rcases h with h|h
    ·exact .inl (.inr h)
    ·exact .inr h
def Fc(k:Nat):List Int:=(List.range k).map λv:Nat=>(v:Int)
theorem MG(k:Nat):Fc (k+1)=Fc k++[(k:Int)]:=by simp[Fc,BN]
theorem E6(k:Nat):(Fc k).length=k:=by simp[Fc]
theorem Gm {k:Nat} {x:Int}:x∈Fc k↔0<=x/\x<k:=by
 simp only[Fc,Ar,AJ]
 constructor
 ·rintro⟨v,h,rfl⟩;omega
 ·rintro⟨h1,h2⟩
  obtain⟨m,rfl⟩:=Ax h1
  exact⟨m,by omega,rfl⟩
end Go.Gr
end
section
namespace Go.Proofs.YtjejpdfldmempaaGreatDoor
open Go.Sx Go.RowKit Go.Reg Go.Gr
set_option maxRecDepth 100000
def Gk(E:List Edg)(l:List Int)(v:Int):Bool:=decide (l=[])||decide (0<=Wx E l v)
def FA(E:List Edg):Nat->List Int->List Int->Option (List Int)
 |0,l,_=>some l
 |
  n+1,l,left=>match left.findIdx? (Gk E l)with
  |some i=>FA E n (l++[left[i]?.getD 0]) (left.eraseIdx i)
  |none=>none
def So:Option (List Int)->Da
 |some l=>.tuple [AS l,.bool true]
 |none=>.tuple [.nils,.bool false]
def Dg(G:Gr)(s:List Int):Option (List Int):=if(Cw s).any (λv=>!Dw G v)=true then none else FA G.edges (Cw s).length [] (Cw s)
end Go.Proofs.YtjejpdfldmempaaGreatDoor
namespace Go.Proofs.YtjejpdfldmempaaGreatDoor
open Go.Sx Go.RowKit Go.Reg Go.Gr
set_option maxRecDepth 100000
def DM(G:Gr)(l:List Int)(v:Int):Bool:=match l[0]? with
 |none=>Dw G v
 |
  some y=>match l.findIdx? (Fh G.edges v)with
  |none=>false
  |some i=>!decide (v∈l)&&(!decide (v<y)&&!(l.drop (i+1)).any (λu=>decide (v<u)))
theorem lB(l:List Int)(i:Nat):AS (l.drop i)=.list 1 ((l.map dI).drop i):=by unfold AS;rw[GH]
theorem Yy(v u:Int):Pure C1 188 [.int .i64 u,.ref (.int .i64 v)] (λy=>y=.bool (decide (v<u))):=by
 refine AK Tryz.func188 Tryz.ntmps188 [] [] ?_
 ((conv=>whnf);repeat' ((first|refine odw ?_|refine nx ?_|refine Aw (λ_=>?_) (λ_=>?_))<;>conv=>whnf))
 exact rfl
def sI:List (Nat×Plan):=[(4,.leaf [0,0,0,0,1,2,0,0,1,0,0,1,0,0] [0,1,2,3,4,5,6,7,9,10,8,11,12,13] [0,1,3,7,7,31,63,127,255,255,767,1791,4095,8191])]
def vG:List FuncId:=[184,185,186,187]
theorem S3(G:Gr)(hG:G.Ok)(l:List Int)(v:Int):Pure C1 123 [dG G,AS l,.int .i64 v] (λy=>y=.bool (DM G l v)):=by
 refine Pure.assume (λO w us hr=>by obtain⟨v,vs,rfl,h1,h2⟩:=Ci hr;obtain⟨v2,vs2,rfl,h3,_⟩:=Ci h2;exact Im h3) λhm=>?_
 have hll:(l.map dI).length=l.length:=Ab _
 refine AK Tryz.func123 Tryz.ntmps123 vG sI ?_
 cases hx:l[0]? with
 |
  none=>
  have hl:l=[]:=by cases l with|nil=>rfl|cons x l=>simp at hx
  subst hl
  (conv=>whnf)
  (repeat' ((first|refine Af ?_ ?_|refine Ad rfl (R7 G v) ?_|refine nx ?_|refine Aw (λ_=>?_) (λ_=>?_)|exact A0)<;>conv=>whnf))
  exact rfl
 |
  some y=>
  have hpos:=(Ae.1 hx).1
  have hxd:(l.map dI)[0]? =some (.int .i64 y):=by rw[Ac,hx];rfl
  have hbs:=Ww G hG l v
  have hct:=Gh l v
  have he:DM G l v=match l.findIdx? (Fh G.edges v)with
   |none=>false
   |some i=>!decide (v∈l)&&(!decide (v<y)&&!(l.drop (i+1)).any (λu=>decide (v<u))):=by unfold DM;rw[hx]
  rw[he]
  unfold Wx Q7 at hbs
  cases hf:l.findIdx? (Fh G.edges v)with
  |
   none=>
   rw[hf]at hbs
   simp only[KA]at hbs
   (conv=>whnf)
   (repeat' ((first|refine Af ?_ ?_|refine Ad rfl hbs ?_|refine nx ?_|refine Aw (λ_=>?_) (λ_=>?_)|exact A0)<;>conv=>whnf))
   exact rfl
  |
   some i=>
   rw[hf]at hbs
   simp only[KA]at hbs
   have hil:i<l.length:=by
    rw[AN]at hf
    exact hf.1
   by_cases hc:v∈l
   ·rw[decide_eq_true hc]at hct⊢
    (conv=>whnf)
    (repeat' ((first|refine Af ?_ ?_|refine Ad rfl hbs ?_|refine Ad rfl hct ?_|refine nx ?_|refine Aw (λ_=>?_) (λ_=>?_)|exact A0)<;>conv=>whnf))
    exact rfl
   ·rw[decide_eq_false hc]at hct⊢
    by_cases hv:v<y
    ·rw[decide_eq_true hv]
     (conv=>whnf)
     (repeat' ((first|refine Af ?_ ?_|refine Ad rfl hbs ?_|refine Ad rfl hct ?_|refine A1 hxd rfl ?_|refine nx ?_|refine Aw (λ_=>?_) (λ_=>?_)|exact A0)<;>conv=>whnf))
     exact rfl
    ·rw[decide_eq_false hv]
     have hcf:=Hd (l.drop (i+1)) 188 [.ref (.int .i64 v)] (λu=>decide (v<u)) (λu _=>Yy v u)
     rw[lB]at hcf
     (conv=>whnf)
     (repeat' ((first|refine Af ?_ ?_|refine Ad rfl hbs ?_|refine Ad rfl hct ?_|refine A1 hxd rfl ?_|refine HP (i+1) rfl (by omega) ?_|refine AR tab rfl hcf rfl ?_|refine nx ?_|refine Aw (λ_=>?_) (λ_=>?_)|exact A0)<;>conv=>whnf))
     exact rfl
def Cz(G:Gr)(l:List Int):Bool:=(List.range l.length).all λi=>match l[i]? with
 |some v=>DM G (l.take i) v
 |none=>true
theorem SH {G:Gr} {l:List Int} {i:Nat} {v:Int}(h:l[i]? =some v)(h2:DM G (l.take i) v=false):Cz G l=false:=by
 unfold Cz
 rw[WN]
 exact⟨i,by simp[(Ae.1 h).1],by simp[h,h2]⟩
theorem Hg {G:Gr} {l:List Int}(h:∀(i:Nat) (v:Int),l[i]? =some v->DM G (l.take i) v=true):Cz G l=true:=by
 unfold Cz
 rw[BY]
 intro i _
 cases hx:l[i]? with
 |none=>rfl
 |some v=>exact h i v hx
def qY:List FuncId:=[123]
theorem YC(G:Gr)(hG:G.Ok)(l:List Int):Pure C1 81 [dG G,AS l] (λy=>y=.bool (Cz G l)):=by
 refine Pure.assume (λO w us hr=>by obtain⟨v,vs,rfl,h1,h2⟩:=Ci hr;obtain⟨v2,vs2,rfl,h3,_⟩:=Ci h2;exact Im h3) λhm=>?_
 have hl:(l.map dI).length=l.length:=Ab _
 refine AK Tryz.func81 Tryz.ntmps81 qY [] ?_
 ((conv=>whnf);repeat' ((first|refine odw ?_|refine nx ?_|refine Aw (λ_=>?_) (λ_=>?_))<;>conv=>whnf))
 refine AC (ι:=Nat) (λi=>i<=l.length/\∀(j:Nat) (v:Int),j<i->l[j]? =some v->DM G (l.take j) v=true) (λi=>[(9,.d (.int .i64 i)),(8,.d (.int .i64 (l.map dI).length)),(7,.d (AS l)),(1,.d (AS l)),(0,.d (dG G))]) (λ_=>[]) (λi=>l.length-i) 0 (λ_=>rfl) ⟨Aj _,by intro j v h;omega⟩ (.refl _ _) ⟨rfl,rfl,rfl,rfl,rfl,trivial⟩ trivial ?_
 rintro i ⟨hi,hne⟩
 refine Bj qY [] ?_
 by_cases hlt:i<l.length
 ·have hx:=Aa hlt
  generalize l[i]=y at hx
  have hxd:(l.map dI)[i]? =some (.int .i64 y):=by rw[Ac,hx];rfl
  have h1:=S3 G hG (l.take i) y
  rw[JV]at h1
  have hi2:i<=(l.map dI).length:=by omega
  cases hv:DM G (l.take i) y with
  |
   false=>
   rw[hv]at h1
   rw[SH hx hv]
   (conv=>whnf)
   (repeat' ((first|refine Af ?_ ?_|refine A1 hxd rfl ?_|refine EE rfl hi2 ?_|refine Ad rfl h1 ?_|refine nx ?_|refine Aw (λ_=>?_) (λ_=>?_)|exact A0)<;>conv=>whnf))
   exact rfl
  |
   true=>
   rw[hv]at h1
   (conv=>whnf)
   (repeat' ((first|refine Af ?_ ?_|refine A1 hxd rfl ?_|refine EE rfl hi2 ?_|refine Ad rfl h1 ?_|refine nx ?_|refine Aw (λ_=>?_) (λ_=>?_)|exact A0)<;>conv=>whnf))
   refine⟨i+1,_,_,⟨hlt,?_⟩,.refl _ _,⟨rfl,rfl,rfl,rfl,rfl,trivial⟩,trivial,by omega⟩
   intro j v hj hjv
   by_cases hji:j=i
   ·subst hji;rw[hx]at hjv;cases hjv;exact hv
   ·exact hne j v (by omega) hjv
 ·rw[Hg (λj v h=>hne j v (by have:=(Ae.1 h).1;omega) h)]
  ((conv=>whnf);repeat' ((first|refine odw ?_|refine nx ?_|refine Aw (λ_=>?_) (λ_=>?_))<;>conv=>whnf))
  exact rfl
end Go.Proofs.YtjejpdfldmempaaGreatDoor
namespace Go.Proofs.YtjejpdfldmempaaGreatDoor
open Go.Sx Go.RowKit Go.Reg Go.Gr
set_option maxRecDepth 100000
theorem Wv(a b:List Int)(ha:a.length<=4294967296)(hr:b.Pairwise (· < ·))(hl:b.length<=4294967296):DV C1 199 [AS a,AS b] 3 1 (λds=>ds=(a.filter λx=>!decide (x∈b)).map dI):=by
 refine Vt Tryz.func199 Tryz.ntmps199 tY oE ?_
 (conv=>whnf)
 refine Ra tab 29 rfl rfl (cX a _ [.ref (AS b)] _ ha (λx _=>eP b hr hl x)) (λds h=>by subst h;exact IV _) ?_;rintro ds rfl
 ((conv=>whnf);repeat' ((first|refine odw ?_|refine nx ?_|refine Aw (λ_=>?_) (λ_=>?_))<;>conv=>whnf))
 exact⟨rfl,rfl,rfl⟩
def Do(G:Gr)(v:Int):List Int:=if 0<=v/\v<G.labels.length then Du G.edges v.toNat else[]
theorem Ni {G:Gr}(hG:G.Ok)(v:Int):(Do G v).length<=32768:=by
 unfold Do
 split
 ·have:=QS G.edges v.toNat
  have:=hG.esize
  unfold FN at*;omega
 ·simp
def FK(G:Gr)(l:List Int):List Int:=if l=[]then Fc G.labels.length else(Cw (l.flatMap (Do G))).filter λx=>!decide (x∈Cw l)
theorem Ic {G:Gr}(hG:G.Ok)(l:List Int):(l.flatMap (Do G)).length<=l.length*32768:=by
 induction l with
 |nil=>simp
 |
  cons x l ih=>
  have:=Ni hG x
  simp only[Bp,Ah,A4];omega
theorem Qj {G:Gr} {l:List Int} {i:Nat} {x:Int}(h:l[i]? =some x):(l.take (i+1)).flatMap (Do G)=(l.take i).flatMap (Do G)++Do G x:=by
 rw[Av,h,B9,Dm];simp
def SN:List FuncId:=[198]
theorem cF(G:Gr)(hG:G.Ok)(l:List Int)(hb:l.length<=100000):DV C1 137 [dG G,AS l] 3 1 (λds=>ds=(FK G l).map dI):=by
 have hll:(l.map dI).length=l.length:=Ab _
 have hsz:=hG.size
 refine Vt Tryz.func137 Tryz.ntmps137 SN [] ?_
 unfold FK
 by_cases hl:l=[]
 ·rw[if_pos hl]
  subst hl
  (conv=>whnf)
  (repeat' ((first|refine Af ?_ ?_|refine Ad rfl (Ij G) ?_|refine nx ?_|refine Aw (λ_=>?_) (λ_=>?_)|exact A0)<;>conv=>whnf))
  refine AC (ι:=Nat) (λv=>v<=G.labels.length) (λv=>[(14,.d (.int .i64 v)),(13,.d (.int .i64 G.labels.length)),(5,.own 300)]) (λv=>[(300,.slice 3 1 ((Fc v).map dI))]) (λv=>G.labels.length-v) 0 (λ_=>rfl) (Aj _)
   (.own 5 300 3 1 rfl rfl (.refl _ _)) ⟨rfl,rfl,rfl,trivial⟩ ⟨rfl,trivial⟩ ?_
  intro v hv
  refine Bj SN [] ?_
  by_cases hlt:v<G.labels.length
  ·have hul:=E6 v
   have hfin:(Fc v).map dI++[.int .i64 (v:Int)]=(Fc (v+1)).map dI:=by rw[MG,Ay];rfl
   ((conv=>whnf);repeat' ((first|refine odw ?_|refine nx ?_|refine Aw (λ_=>?_) (λ_=>?_))<;>conv=>whnf))
   exact⟨v+1,_,_,hlt,.refl _ _,⟨rfl,rfl,rfl,trivial⟩,⟨AO hfin,trivial⟩,by omega⟩
  ·have:v=G.labels.length:=by omega
   subst this
   ((conv=>whnf);repeat' ((first|refine odw ?_|refine nx ?_|refine Aw (λ_=>?_) (λ_=>?_))<;>conv=>whnf))
   exact⟨rfl,rfl,rfl⟩
 ·rw[if_neg hl]
  have hl0:¬((l.map dI).length:Int)=0:=by rw[hll];have:=List.length_pos_iff.2 hl;omega
  ((conv=>whnf);repeat' ((first|refine odw ?_|refine nx ?_|refine Aw (λ_=>?_) (λ_=>?_))<;>conv=>whnf))
  refine AC (ι:=Nat) (λi=>i<=l.length) (λi=>[(25,.d (.int .i64 i)),(24,.d (.int .i64 (l.map dI).length)),(23,.d (AS l)),(5,.own 300),(1,.d (AS l)),(0,.d (dG G))]) (λi=>[(300,.slice 3 1 (((l.take i).flatMap (Do G)).map dI))]) (λi=>l.length-i) 0 (λ_=>rfl) (Aj _)
   (.own 5 300 3 1 rfl rfl (.refl _ _)) ⟨rfl,rfl,rfl,rfl,rfl,rfl,trivial⟩ ⟨rfl,trivial⟩ ?_
  intro i hi
  refine Bj SN [] ?_
  have hnl:=Ic hG (l.take i)
  rw[As]at hnl
  by_cases hlt:i<l.length
  ·have hx:=Aa hlt
   generalize l[i]=x at hx
   have hxd:(l.map dI)[i]? =some (.int .i64 x):=by rw[Ac,hx];rfl
   have hst:=Qj (G:=G) hx
   have hxl:=Ni hG x
   have hnp:=Nh G hG x
   have hml:((l.take i).flatMap (Do G)).length+(Do G x).length<=4294967296:=by omega
   unfold JA at hnp
   unfold Do at hst hxl hml
   by_cases hr:0<=x/\x<G.labels.length
   ·rw[if_pos hr]at hnp hst hxl hml
    have hfin:((l.take i).flatMap (Do G)).map dI++(Du G.edges x.toNat).map dI=((l.take (i+1)).flatMap (Do G)).map dI:=by
     rw[<-Ay];exact congrArg (List.map dI) hst.symm
    (conv=>whnf)
    (repeat' ((first|refine Af ?_ ?_|refine A1 hxd rfl ?_|refine Ad rfl hnp ?_|refine nx ?_|refine Aw (λ_=>?_) (λ_=>?_)|exact A0)<;>conv=>whnf))
    exact⟨i+1,_,_,hlt,.refl _ _,⟨rfl,rfl,rfl,rfl,rfl,rfl,trivial⟩,⟨AO hfin,trivial⟩,by omega⟩
   ·rw[if_neg hr]at hnp hst hxl hml
    have hfin:((l.take i).flatMap (Do G)).map dI++[]=((l.take (i+1)).flatMap (Do G)).map dI:=by
     rw[Cc]at hst⊢;exact congrArg (List.map dI) hst.symm
    (conv=>whnf)
    (repeat' ((first|refine Af ?_ ?_|refine A1 hxd rfl ?_|refine Ad rfl hnp ?_|refine nx ?_|refine Aw (λ_=>?_) (λ_=>?_)|exact A0)<;>conv=>whnf))
    exact⟨i+1,_,_,hlt,.refl _ _,⟨rfl,rfl,rfl,rfl,rfl,rfl,trivial⟩,⟨AO hfin,trivial⟩,by omega⟩
  ·have hii:l.take i=l:=Ak (by omega)
   rw[hii]
   have hnl2:=Ic hG l
   have ho1:=Pf (l.flatMap (Do G)) (by omega)
   have ho2:=Pf l (by omega)
   have hs1:=G9 (l.flatMap (Do G))
   have hs2:=G9 l
   ((conv=>whnf);repeat' ((first|refine odw ?_|refine nx ?_|refine Aw (λ_=>?_) (λ_=>?_))<;>conv=>whnf))
   refine D3 300 rfl ?_
   refine Ad rfl ho1 ?_
   (conv=>whnf)
   (repeat' ((first|refine Af ?_ ?_|refine Ad rfl ho2 ?_|refine nx ?_|refine Aw (λ_=>?_) (λ_=>?_)|exact A0)<;>conv=>whnf))
   refine EX 29 rfl rfl (Wv (Cw (l.flatMap (Do G))) (Cw l) (by omega) (Ba l).1 (by omega)) ?_;rintro ds rfl
   ((conv=>whnf);repeat' ((first|refine odw ?_|refine nx ?_|refine Aw (λ_=>?_) (λ_=>?_))<;>conv=>whnf))
   exact⟨rfl,rfl,rfl⟩
theorem cE(G:Gr)(hG:G.Ok)(l:List Int)(hb:l.length<=100000):Pure C1 137 [dG G,AS l] (λy=>y=AS (FK G l)):=by
 have hll:(l.map dI).length=l.length:=Ab _
 have hsz:=hG.size
 refine AK Tryz.func137 Tryz.ntmps137 SN [] ?_
 unfold FK
 by_cases hl:l=[]
 ·rw[if_pos hl]
  subst hl
  (conv=>whnf)
  (repeat' ((first|refine Af ?_ ?_|refine Ad rfl (Ij G) ?_|refine nx ?_|refine Aw (λ_=>?_) (λ_=>?_)|exact A0)<;>conv=>whnf))
  refine AC (ι:=Nat) (λv=>v<=G.labels.length) (λv=>[(14,.d (.int .i64 v)),(13,.d (.int .i64 G.labels.length)),(5,.own 300)]) (λv=>[(300,.slice 3 1 ((Fc v).map dI))]) (λv=>G.labels.length-v) 0 (λ_=>rfl) (Aj _)
   (.own 5 300 3 1 rfl rfl (.refl _ _)) ⟨rfl,rfl,rfl,trivial⟩ ⟨rfl,trivial⟩ ?_
  intro v hv
  refine Bj SN [] ?_
  by_cases hlt:v<G.labels.length
  ·have hul:=E6 v
   have hfin:(Fc v).map dI++[.int .i64 (v:Int)]=(Fc (v+1)).map dI:=by rw[MG,Ay];rfl
   ((conv=>whnf);repeat' ((first|refine odw ?_|refine nx ?_|refine Aw (λ_=>?_) (λ_=>?_))<;>conv=>whnf))
   exact⟨v+1,_,_,hlt,.refl _ _,⟨rfl,rfl,rfl,trivial⟩,⟨AO hfin,trivial⟩,by omega⟩
  ·have:v=G.labels.length:=by omega
   subst this
   ((conv=>whnf);repeat' ((first|refine odw ?_|refine nx ?_|refine Aw (λ_=>?_) (λ_=>?_))<;>conv=>whnf))
   exact rfl
 ·rw[if_neg hl]
  have hl0:¬((l.map dI).length:Int)=0:=by rw[hll];have:=List.length_pos_iff.2 hl;omega
  ((conv=>whnf);repeat' ((first|refine odw ?_|refine nx ?_|refine Aw (λ_=>?_) (λ_=>?_))<;>conv=>whnf))
  refine AC (ι:=Nat) (λi=>i<=l.length) (λi=>[(25,.d (.int .i64 i)),(24,.d (.int .i64 (l.map dI).length)),(23,.d (AS l)),(5,.own 300),(1,.d (AS l)),(0,.d (dG G))]) (λi=>[(300,.slice 3 1 (((l.take i).flatMap (Do G)).map dI))]) (λi=>l.length-i) 0 (λ_=>rfl) (Aj _)
   (.own 5 300 3 1 rfl rfl (.refl _ _)) ⟨rfl,rfl,rfl,rfl,rfl,rfl,trivial⟩ ⟨rfl,trivial⟩ ?_
  intro i hi
  refine Bj SN [] ?_
  have hnl:=Ic hG (l.take i)
  rw[As]at hnl
  by_cases hlt:i<l.length
  ·have hx:=Aa hlt
   generalize l[i]=x at hx
   have hxd:(l.map dI)[i]? =some (.int .i64 x):=by rw[Ac,hx];rfl
   have hst:=Qj (G:=G) hx
   have hxl:=Ni hG x
   have hnp:=Nh G hG x
   have hml:((l.take i).flatMap (Do G)).length+(Do G x).length<=4294967296:=by omega
   unfold JA at hnp
   unfold Do at hst hxl hml
   by_cases hr:0<=x/\x<G.labels.length
   ·rw[if_pos hr]at hnp hst hxl hml
    have hfin:((l.take i).flatMap (Do G)).map dI++(Du G.edges x.toNat).map dI=((l.take (i+1)).flatMap (Do G)).map dI:=by
     rw[<-Ay];exact congrArg (List.map dI) hst.symm
    (conv=>whnf)
    (repeat' ((first|refine Af ?_ ?_|refine A1 hxd rfl ?_|refine Ad rfl hnp ?_|refine nx ?_|refine Aw (λ_=>?_) (λ_=>?_)|exact A0)<;>conv=>whnf))
    exact⟨i+1,_,_,hlt,.refl _ _,⟨rfl,rfl,rfl,rfl,rfl,rfl,trivial⟩,⟨AO hfin,trivial⟩,by omega⟩
   ·rw[if_neg hr]at hnp hst hxl hml
    have hfin:((l.take i).flatMap (Do G)).map dI++[]=((l.take (i+1)).flatMap (Do G)).map dI:=by
     rw[Cc]at hst⊢;exact congrArg (List.map dI) hst.symm
    (conv=>whnf)
    (repeat' ((first|refine Af ?_ ?_|refine A1 hxd rfl ?_|refine Ad rfl hnp ?_|refine nx ?_|refine Aw (λ_=>?_) (λ_=>?_)|exact A0)<;>conv=>whnf))
    exact⟨i+1,_,_,hlt,.refl _ _,⟨rfl,rfl,rfl,rfl,rfl,rfl,trivial⟩,⟨AO hfin,trivial⟩,by omega⟩
  ·have hii:l.take i=l:=Ak (by omega)
   rw[hii]
   have hnl2:=Ic hG l
   have ho1:=Pf (l.flatMap (Do G)) (by omega)
   have ho2:=Pf l (by omega)
   have hs1:=G9 (l.flatMap (Do G))
   have hs2:=G9 l
   ((conv=>whnf);repeat' ((first|refine odw ?_|refine nx ?_|refine Aw (λ_=>?_) (λ_=>?_))<;>conv=>whnf))
   refine D3 300 rfl ?_
   refine Ad rfl ho1 ?_
   (conv=>whnf)
   (repeat' ((first|refine Af ?_ ?_|refine Ad rfl ho2 ?_|refine nx ?_|refine Aw (λ_=>?_) (λ_=>?_)|exact A0)<;>conv=>whnf))
   refine EX 29 rfl rfl (Wv (Cw (l.flatMap (Do G))) (Cw l) (by omega) (Ba l).1 (by omega)) ?_;rintro ds rfl
   ((conv=>whnf);repeat' ((first|refine odw ?_|refine nx ?_|refine Aw (λ_=>?_) (λ_=>?_))<;>conv=>whnf))
   exact rfl
end Go.Proofs.YtjejpdfldmempaaGreatDoor
namespace Go.Proofs.YtjejpdfldmempaaGreatDoor
open Go.Sx Go.RowKit Go.Reg Go.Gr
set_option maxRecDepth 100000
theorem wD {l:List Int} {i:Nat} {x:Int}(h:l[i]? =some x):l.take (i+1)=l.take i++[x]:=by rw[Av,h];rfl
def pJ(v:Int):Da:=AS [v]
end Go.Proofs.YtjejpdfldmempaaGreatDoor
end
section
namespace Go.Proofs.YtjejpdfldmempaaGreatDoor
open Go.Gr
theorem Eo {p:Int->Bool} {l:List Int} {i:Nat}(h:l.findIdx? p=some i):∃(h2:i<l.length),p l[i]=true/\∀j (hj:j<i),p (l[j]'(by omega))=false:=by
 rw[AN]at h
 obtain⟨h1,h2,h3⟩:=h
 exact⟨h1,h2,λj hj=>by have:=h3 j hj;simpa using this⟩
theorem Zs {l:List Int}(h:l.Nodup) {i j:Nat}(hi:i<l.length)(hj:j<l.length)(e:l[i]=l[j]):i=j:=by
 rcases WK i j with h1|h1|h1
 ·exact absurd e (AH.1 h i j hi hj h1)
 ·exact h1
 ·exact absurd e.symm (AH.1 h j i hj hi h1)
theorem QI {l:List Int} {i:Nat}(hi:i<l.length):(l[i]::l.eraseIdx i).Perm l:=by
 rw[List.eraseIdx_eq_take_drop_succ]
 have h:l=l.take i++(l[i]::l.drop (i+1)):=by rw[List.getElem_cons_drop,BZ]
 exact(List.perm_middle.symm).trans (List.Perm.of_eq h.symm)
theorem IN {l:List Int}(hn:l.Nodup) {i:Nat}(hi:i<l.length) {x:Int}:x∈l.eraseIdx i↔x∈l/\x≠l[i]:=by
 have e:=List.eraseIdx_eq_take_drop_succ l i
 rw[e,Ag,AQ,DN]
 constructor
 ·rintro(⟨j,hj,rfl⟩|⟨j,hj,rfl⟩)
  ·exact⟨AL _,λhe=>by have:=Zs hn (by omega) (by omega) he;omega⟩
  ·exact⟨AL _,λhe=>by have:=Zs hn (by omega) (by omega) he;omega⟩
 ·rintro⟨hx,hne⟩
  obtain⟨j,hj,rfl⟩:=BX.1 hx
  rcases WK j i with h|h|h
  ·exact .inl ⟨j,by omega,rfl⟩
  ·subst h;exact absurd rfl hne
  ·exact .inr ⟨j- (i+1),by omega,by congr 1;omega⟩
theorem Qs {E:List Edg}:∀(n:Nat) (l left r:List Int),left.length=n->left.Nodup->FA E n l left=some r->r.Perm (l++left)
 |
  0,l,left,r,hn,_,h=>by
  simp only[FA,Aq]at h
  subst h
  have:left=[]:=AF hn
  subst this;simp
 |
  n+1,l,left,r,hn,hd,h=>by
  simp only[FA]at h
  cases hf:left.findIdx? (Gk E l)with
  |none=>rw[hf]at h;cases h
  |
   some i=>
   rw[hf]at h
   obtain⟨hi,_,_⟩:=Eo hf
   have hx:=Aa hi
   simp only[hx,I2]at h
   have:=Qs n (l++[left[i]]) (left.eraseIdx i) r (by rw[List.length_eraseIdx,if_pos hi];omega) (hd.sublist (MD left i)) h
   refine this.trans ?_
   rw[Bk]
   exact List.Perm.append_left l (QI hi)
theorem FX {E:List Edg} {l:List Int} {v:Int}:Gk E l v=true↔l=[]\/l.any (Fh E v)=true:=by
 unfold Gk Wx
 rw[CA,decide_eq_true_eq,decide_eq_true_eq,Mk]
def ZO(E:List Edg)(l left:List Int):Prop:=∀(j:Nat) (u:Int),l[j]? =some u->∀x∈left,Gk E (l.take j) x=true->u<x
theorem dU {G:Gr} {l left:List Int} {x:Int}(hA:ZO G.edges l left)(hx:x∈left)(hn:x∉l)(hv:Dw G x=true)(hp:Gk G.edges l x=true):DM G l x=true:=by
 unfold DM
 cases h0:l[0]? with
 |none=>exact hv
 |
  some y=>
  have hl:l≠[]:=λe=>by subst e;simp at h0
  have hany:=(FX.1 hp).resolve_left hl
  have hy:=hA 0 y h0 x hx (FX.2 (.inl (by simp)))
  simp only
  cases hf:l.findIdx? (Fh G.edges x)with
  |
   none=>
   rw[AM]at hf
   rw[Bn]at hany
   obtain⟨u,hu,hb⟩:=hany
   have:=hf u hu
   simp[hb]at this
  |
   some i=>
   obtain⟨hi,hb,_⟩:=Eo hf
   simp only[Ai,B7,decide_eq_false_iff_not,Hl,decide_eq_true_eq]
   refine⟨hn,by omega,λu hu=>?_⟩
   obtain⟨k,hk,rfl⟩:=DN.1 hu
   have:=hA (i+1+k) _ (Aa (by omega)) x hx (FX.2 (.inr (Bn.2 ⟨l[i],AQ.2 ⟨i,by omega,rfl⟩,hb⟩)))
   omega
theorem YI {E:List Edg} {l left:List Int}(hA:ZO E l left)(hr:left.Pairwise (· < ·)) {i:Nat}(hf:left.findIdx? (Gk E l)=some i) {x:Int}(hx:left[i]? =some x):ZO E (l++[x]) (left.eraseIdx i):=by
 obtain⟨hi,_,hfirst⟩:=Eo hf
 have hnod:left.Nodup:=hr.imp λh=>by omega
 have hxe:x=left[i]:=by rw[Aa hi]at hx;exact(B5 hx).symm
 intro j u hu z hz hp
 obtain⟨hz1,hz2⟩:=(IN hnod hi).1 hz
 by_cases hj:j<l.length
 ·rw[BC hj]at hu
  rw[Bg (by omega)]at hp
  exact hA j u hu z hz1 hp
 ·have hjl:=(Ae.1 hu).1
  rw[Ah,BF]at hjl
  have hje:j=l.length:=by omega
  subst hje
  rw[List.take_left]at hp
  have hux:u=x:=by simpa using hu.symm
  subst hux
  obtain⟨k,hk,rfl⟩:=BX.1 hz1
  have hki:¬k<i:=λh=>by have:=hfirst k h;rw[hp]at this;cases this
  have hne:k≠i:=λe=>by subst e;exact hz2 rfl
  rw[hxe]
  exact AH.1 hr i k hi hk (by omega)
theorem Oy {G:Gr}:∀(n:Nat) (l left r:List Int),left.length=n->left.Pairwise (· < ·)->(l++left).Nodup->(∀x∈left,Dw G x=true)->ZO G.edges l left->
  (∀(j:Nat) (v:Int),l[j]? =some v->DM G (l.take j) v=true)->FA G.edges n l left=some r->Cz G r=true
 |
  0,l,left,r,_,_,_,_,_,hC,h=>by
  simp only[FA,Aq]at h
  subst h
  exact Hg hC
 |
  n+1,l,left,r,hn,hr,hd,hv,hA,hC,h=>by
  simp only[FA]at h
  cases hf:left.findIdx? (Gk G.edges l)with
  |none=>rw[hf]at h;cases h
  |
   some i=>
   rw[hf]at h
   obtain⟨hi,hp,_⟩:=Eo hf
   have hx:=Aa hi
   simp only[hx,I2]at h
   have hmem:=AL hi
   have hnl:left[i]∉l:=λhm=>(Dn.1 hd).2.2 _ hm _ hmem rfl
   refine Oy n (l++[left[i]]) (left.eraseIdx i) r (by rw[List.length_eraseIdx,if_pos hi];omega) (hr.sublist (MD left i)) ?_ (λx hx=>hv x ((MD left i).subset hx)) (YI hA hr hf hx) ?_ h
   ·rw[Bk]
    exact(List.Perm.nodup_iff (List.Perm.append_left l (QI hi))).2 hd
   ·intro j v hj
    by_cases hjl:j<l.length
    ·rw[BC hjl]at hj
     rw[Bg (by omega)]
     exact hC j v hj
    ·have h1:=(Ae.1 hj).1
     rw[Ah,BF]at h1
     have hje:j=l.length:=by omega
     subst hje
     have hvx:v=left[i]:=by simpa using hj.symm
     subst hvx
     rw[List.take_left]
     exact dU hA hmem hnl (hv _ hmem) hp
theorem Ga {G:Gr} {s r:List Int}(h:Dg G s=some r):r.Perm (Cw s)/\Cz G r=true:=by
 unfold Dg at h
 split at h
 ·cases h
 ·rename_i hv
  have hr:=(Ba s).1
  have hd:(Cw s).Nodup:=hr.imp λh=>by omega
  refine⟨by simpa using Qs _ _ _ _ rfl hd h,Oy _ _ _ _ rfl hr (by simpa using hd) (λx hx=>?_) (λj u hu=>by simp at hu) (λj u hu=>by simp at hu) h⟩
  simp only[Bn,not_exists,not_and,B7,Bool.not_eq_false]at hv
  exact hv x hx
end Go.Proofs.YtjejpdfldmempaaGreatDoor
namespace Go.Proofs.YtjejpdfldmempaaGreatDoor
open Go.Gr
theorem Nl {G:Gr}(h:G.Ok) {v u:Int}:u∈Do G v↔(0<=v/\v<G.labels.length)/\0<=u/\u<G.labels.length/\turn ⟨u,v⟩∈G.edges:=by
 unfold Do
 split
 ·rename_i hv
  obtain⟨m,rfl⟩:=Ax hv.1
  rw[AV,jW h]
  exact⟨λhh=>⟨hv,hh⟩,λhh=>hh.2⟩
 ·rename_i hv
  exact⟨λhh=>(by cases hh),λhh=>absurd hh.1 hv⟩
end Go.Proofs.YtjejpdfldmempaaGreatDoor
end
section
namespace Go.Proofs.YtjejpdfldmempaaGreatDoor
open Go.Sx Go.RowKit Go.Reg Go.Gr
set_option maxRecDepth 100000
def RU:List (Nat×Plan):=[(5,.leaf [0,0,0,1,0,0,0,0,0,1,0,1,0,0,0] [0,1,2,3,4,5,6,7,8,10,9,11,12,13,14] [0,0,3,7,15,31,63,63,255,511,63,1087,3135,8191,16383]),
 (6,.leaf [0,1,0,0,0,1,0,1,6,3] [0,2,3,4,1,5,6,7,8,9] [0,1,0,0,12,28,63,127,0,511])]
theorem U6(labels:List Int)(S:List Edg)(l:List Int)(hb:l.length<=2147483000):Pure C1 89 [dM labels S,AS l] (λy=>y=AS (Bq (Bl S l))):=by
 have hl:(l.map dI).length=l.length:=Ab _
 have hS:(S.map dE).length=S.length:=Ab _
 refine AK Tryz.func89 Tryz.ntmps89 [] RU ?_
 ((conv=>whnf);repeat' ((first|refine odw ?_|refine nx ?_|refine Aw (λ_=>?_) (λ_=>?_))<;>conv=>whnf))
 refine AC (ι:=Nat) (λi=>i<=l.length) (λi=>[(6,.d (.int .i64 i)),(5,.own 300),(2,.own 2),(1,.d (AS l))]) (λi=>[(2,.cells 59 [.d (AS labels),.d (D0 S)]),(300,.slice 3 1 ((Bq (Bl S (l.take i))).map dI))]) (λi=>l.length-i) 0 (λ_=>rfl) (Aj _)
  (.own 5 300 3 1 rfl rfl (.refl _ _)) ⟨rfl,rfl,rfl,rfl,trivial⟩ ⟨rfl,rfl,trivial⟩ ?_
 intro i hi
 refine Bj [] RU ?_
 by_cases hlt:i<l.length
 ·have hx:=Aa hlt
  generalize l[i]=x at hx
  have hxd:(l.map dI)[i]? =some (.int .i64 x):=by rw[Ac,hx];rfl
  have htk:l.take (i+1)=l.take i++[x]:=by rw[Av,hx];rfl
  have hel:=Fl S (l.take i)
  have hvl:=Jm (Bl S (l.take i))
  rw[As]at hel
  by_cases h:0<=x/\x<S.length
  ·obtain⟨m,rfl⟩:=Ax h.1
   have hy:=Aa (show m<S.length by omega)
   have hen:=Nw (l:=l.take i) hy
   rw[<-htk]at hen
   generalize S[m]=z at hy hen
   obtain⟨za,zb⟩:=z
   have hyd:(S.map dE)[m]? =some (.agg [.int .i64 za,.int .i64 zb]):=by rw[Ac,hy];rfl
   have hst:Bq (Bl S (l.take (i+1)))=E1 (E1 (Bq (Bl S (l.take i))) za) zb:=by rw[hen,Gz]
   generalize Bq (Bl S (l.take i))=out at hst hvl⊢
   have hl1:=Kb out za
   (conv=>whnf)
   (repeat' ((first|refine Af ?_ ?_|refine A1 hxd rfl ?_|refine A1 hyd rfl ?_|refine AR tab rfl (GZ out za) rfl ?_|refine nx ?_|refine Aw (λ_=>?_) (λ_=>?_)|exact A0)<;>conv=>whnf))
   have tail:∀o:List Int,E1 out za=o->True:=λ_ _=>trivial
   by_cases i1:za∈out
   ·have e1:E1 out za=out:=by unfold E1;rw[if_pos i1]
    rw[e1]at hst
    rw[decide_eq_true i1]
    (conv=>whnf)
    (repeat' ((first|refine Af ?_ ?_|refine AR tab rfl (GZ out zb) rfl ?_|refine nx ?_|refine Aw (λ_=>?_) (λ_=>?_)|exact A0)<;>conv=>whnf))
    by_cases i2:zb∈out
    ·have hr2:out.map dI=(Bq (Bl S (l.take (i+1)))).map dI:=by rw[hst];unfold E1;rw[if_pos i2]
     rw[decide_eq_true i2]
     ((conv=>whnf);repeat' ((first|refine odw ?_|refine nx ?_|refine Aw (λ_=>?_) (λ_=>?_))<;>conv=>whnf))
     exact⟨i+1,_,_,hlt,.refl _ _,⟨rfl,rfl,rfl,rfl,trivial⟩,⟨rfl,AO hr2,trivial⟩,by omega⟩
    ·have hr2:out.map dI++[.int .i64 zb]=(Bq (Bl S (l.take (i+1)))).map dI:=by rw[hst];unfold E1;rw[if_neg i2,Ay];rfl
     rw[decide_eq_false i2]
     ((conv=>whnf);repeat' ((first|refine odw ?_|refine nx ?_|refine Aw (λ_=>?_) (λ_=>?_))<;>conv=>whnf))
     exact⟨i+1,_,_,hlt,.refl _ _,⟨rfl,rfl,rfl,rfl,trivial⟩,⟨rfl,AO hr2,trivial⟩,by omega⟩
   ·have e1:E1 out za=out++[za]:=by unfold E1;rw[if_neg i1]
    have e1d:out.map dI++[.int .i64 za]=(out++[za]).map dI:=by rw[Ay];rfl
    rw[e1]at hst
    rw[decide_eq_false i1]
    ((conv=>whnf);repeat' ((first|refine odw ?_|refine nx ?_|refine Aw (λ_=>?_) (λ_=>?_))<;>conv=>whnf))
    rw[e1d]
    have hol:(out++[za]).length=out.length+1:=by simp
    generalize out++[za]=o at*
    refine AR tab rfl (GZ o zb) rfl ?_
    by_cases i2:zb∈o
    ·have hr2:o.map dI=(Bq (Bl S (l.take (i+1)))).map dI:=by rw[hst];unfold E1;rw[if_pos i2]
     rw[decide_eq_true i2]
     ((conv=>whnf);repeat' ((first|refine odw ?_|refine nx ?_|refine Aw (λ_=>?_) (λ_=>?_))<;>conv=>whnf))
     exact⟨i+1,_,_,hlt,.refl _ _,⟨rfl,rfl,rfl,rfl,trivial⟩,⟨rfl,AO hr2,trivial⟩,by omega⟩
    ·have hr2:o.map dI++[.int .i64 zb]=(Bq (Bl S (l.take (i+1)))).map dI:=by rw[hst];unfold E1;rw[if_neg i2,Ay];rfl
     rw[decide_eq_false i2]
     ((conv=>whnf);repeat' ((first|refine odw ?_|refine nx ?_|refine Aw (λ_=>?_) (λ_=>?_))<;>conv=>whnf))
     exact⟨i+1,_,_,hlt,.refl _ _,⟨rfl,rfl,rfl,rfl,trivial⟩,⟨rfl,AO hr2,trivial⟩,by omega⟩
  ·have hr2:(Bq (Bl S (l.take i))).map dI=(Bq (Bl S (l.take (i+1)))).map dI:=by rw[htk,QL h]
   by_cases hx0:x<0
   ·(conv=>whnf)
    (repeat' ((first|refine Af ?_ ?_|refine A1 hxd rfl ?_|refine nx ?_|refine Aw (λ_=>?_) (λ_=>?_)|exact A0)<;>conv=>whnf))
    exact⟨i+1,_,_,hlt,.refl _ _,⟨rfl,rfl,rfl,rfl,trivial⟩,⟨rfl,AO hr2,trivial⟩,by omega⟩
   ·(conv=>whnf)
    (repeat' ((first|refine Af ?_ ?_|refine A1 hxd rfl ?_|refine nx ?_|refine Aw (λ_=>?_) (λ_=>?_)|exact A0)<;>conv=>whnf))
    exact⟨i+1,_,_,hlt,.refl _ _,⟨rfl,rfl,rfl,rfl,trivial⟩,⟨rfl,AO hr2,trivial⟩,by omega⟩
 ·have hii:l.take i=l:=Ak (by omega)
  rw[hii]
  ((conv=>whnf);repeat' ((first|refine odw ?_|refine nx ?_|refine Aw (λ_=>?_) (λ_=>?_))<;>conv=>whnf))
  exact rfl
end Go.Proofs.YtjejpdfldmempaaGreatDoor
end
section
namespace Go.Proofs.YtjejpdfldmempaaGreatDoor
open Go.Sx Go.RowKit Go.Reg Go.Gr
set_option maxRecDepth 100000
theorem Se {G:Gr}(hG:G.Ok) {a:List Int}(h:a.length<=100000):(FK G a).length<=4294967296:=by
 unfold FK
 split
 ·rw[E6];have:=hG.size;omega
 ·have h1:=Co (λx=>!decide (x∈Cw a)) (Cw (a.flatMap (Do G)))
  have h2:=G9 (a.flatMap (Do G))
  have h3:=Ic hG a
  omega
end Go.Proofs.YtjejpdfldmempaaGreatDoor
end
section
namespace Go.Reg
open Go Go.RowKit Go.Sort Go.Proofs
abbrev Wd(n:Int):List Value:=[Value.int .i64 n]
theorem Sl.zero1 {P:Program} {E:Nat} {w:World} {l:List Int} {g c:Nat}(h:Sl E 1 Wd w (.slice (some ⟨g,0,none⟩) l.length c) l) {m:Nat}(hm:m<=l.length):
  ∃w',(storeCells ⟨g,m,none⟩ (List.replicate (l.length-m) (Value.int .i64 0))).run P w=.ok () w'/\Sl E 1 Wd w' (.slice (some ⟨g,0,none⟩) l.length c) (l.take m++List.replicate (l.length-m) 0)/\Tch [g] w w':=by
 rcases h.2 with⟨h1,_⟩|⟨g',cap',cur,h1,h0,hg,hc,hmx,hs,ht⟩
 ·cases h1
 ·cases h1
  rw[EO]at hs
  have hsz:l.length<=cur.size:=by omega
  have hr:=run_storeCells_at P g m E (List.replicate (l.length-m) (Value.int .i64 0)) 0 cur w hg (by rw[Bu];omega) (by intro v hv;rw[YO hv];rfl)
  rw[Dd,Bu]at hr
  have hl2:(l.take m++List.replicate (l.length-m) (0:Int)).length=l.length:=by rw[Ah,As,Bu];omega
  have e0:m+(l.length-m)=l.length:=by omega
  rw[e0]at hr
  refine⟨_,hr,?_,⟨rfl,rfl,rfl,by simp[World.setRow],λj hj hn=>by
    have:g≠j:=λe=>hn (by simp[e])
    simp[World.setRow,Cp,this]⟩⟩
  unfold Sl
  rw[Ir,hl2]
  refine⟨by rw[Ab,hl2];omega,.inr ⟨g,c,(cur.toList.take m++List.replicate (l.length-m) (Value.int .i64 0)++cur.toList.drop l.length).toArray,rfl,Aj _,setRow_heap w g cur _ E (0,0) hg,hc,hmx,?_,?_⟩⟩
  ·simp;omega
  ·rw[Ir,EO]at ht
   rw[EO]
   have h1:(cur.toList.take m++List.replicate (l.length-m) (Value.int .i64 0)).length=l.length:=by simp;omega
   rw[Bg (by omega),Ak (by omega),Ay,List.map_replicate,CW,<-ht,Gd,G7 hm]
end Go.Reg
namespace Go.Sx
open Go Go.RowKit Go.Reg Go.Gr Go.Proofs Go.Proofs.YtjejpdfldmempaaGreatDoor
def LE(E:Nat)(l:List Int)(m g c:Nat):Absn where
 R w v F:=v=.slice (if c=m then some ⟨g,0,none⟩else some ⟨g,m,none⟩) (l.length-m) (c-m)/\F=[g]/\m<=l.length/\Sl E 1 Wd w (.slice (some ⟨g,0,none⟩) l.length c) l
 keep:=by
  rintro S w w' v F ⟨rfl,rfl,hm,h⟩ t hd
  exact⟨rfl,rfl,hm,h.keep t (λb hb=>by simp[Value.ownBlock]at hb;subst hb;exact hd g (by simp))⟩
 lt:=by
  rintro w v F ⟨rfl,rfl,hm,h⟩ x hx
  simp at hx;subst hx
  exact h.lt rfl
 one:=by rintro w v F ⟨rfl,rfl,hm,h⟩;rfl
section
variable {C:Cx} {T:FF} {n kd:Nat} {fr:Fr} {σ:Sg} {E i:Nat} {l:List Int} {o:Oper} {K:Fr->Sg->Prop} {B S:List Nat} {w0 w w':World} {η:Nat->Value} {φ:Nat->List Nat} {a:Act}
theorem Models.turnRaw(hM:Models C B S w0 n fr σ η φ a w) {X:List Nat}(t:Tch X w w')(hX:∀b∈X,b∈φ i)(hi:i∈B3 σ) {v:Value} {F:List Nat}(hF:∀b∈F,b∈φ i\/w.heap.size<=b) {x:Da}(hx:x.one=true)(hr:∀O w,RepC O w x [η i]) {ow:Own}
  (ho:ow.holds (DB η i v) (B3 σ) (B++Al (DB φ i F) (BG (BH i x) i ow σ)) w' v F):Models C B S w0 n (EZ i x fr) (BG (BH i x) i ow σ) (DB η i v) (DB φ i F) a w':=by
 have hl:=Later.turn (σ:=σ) B t hX hi hF (BH i x) ow
 have hm:=hM.mem.turn t hX hi hF hl (λq hq hne hh=>hh.kill hx hl (λj hj hne=>⟨hj,CD _ _ _ hne⟩) (hr _ _) t (λb hb hm=>hM.mem.disj q.1 (AY hq) i hi hne b hb (hX b hm))) ho
 exact⟨hm,hM.fr.kill hx hl (λj hj hne=>⟨by rw[By];exact hj,CD _ _ _ hne⟩) (hr _ _),hM.defers,hM.size⟩
theorem oI(m:Nat) {t:TypeId} {x lo:Operand} {e ee:TyI}(hC:C.Ok T)(i:Nat)(ho:o.op=.slice t x (some lo) none none)(he:Fz t T=some e)(hk2:e.kd=2)(hee:Fz e.elem T=some ee)(h1:ee.size=1)(hx:ev C.Γ fr x=.own i)(hg:BP i σ=some (.slice E 1 (l.map dI))) {mi:Int}(hlo:ev C.Γ fr lo=.d (.int .i64 mi))(hmi:mi=m)(hm:m<=l.length)(hl:l≠[])(hkd:kd≠5/\kd≠2)(hd:Dv o.dst n=true)
  (hK:∀g c,Fk (EZ i (.raw (.slice (some ⟨g,0,none⟩) l.length c)) fr) λfr=>Cf (BG (BH i (.raw (.slice (some ⟨g,0,none⟩) l.length c))) i (LE E l m g c).own σ) λσ=>K (C4 o.dst (.own i) fr) σ):Bd C n kd o K fr σ:=by
 subst hmi
 refine CO hkd.1 hkd.2 λB S w0 η φ a w hM=>⟨λ_=>by simp[Bo,ho],.inl ?_⟩
 obtain⟨css,hs,e2,hrr,hkk⟩:=B8 hM.mem hg
 obtain rfl:=T9 hrr
 have hs1:=Pm.1 hs
 rcases hs1.shape with⟨_,rfl⟩|⟨g,cap,e3,hc⟩
 ·exact absurd rfl hl
 have ex:=IH (Be hM x) hx
 have elo:=Gf (Ff (Be hM lo) hlo)
 have hr:=EQ (w:=w) (hC.ty he) hk2 (hC.ty hee) (ad:=some ⟨g,0,none⟩) (len:=l.length) (cap:=cap) hc (lo:=some (.int .i64 m)) (hi:=none) (l:=m) (m:=l.length) ⟨_,rfl⟩ rfl hm (Az _)
 have hi:=AY (Bm hg)
 have hF:∀b∈[g],b∈φ i\/w.heap.size<=b:=λb hb=>.inl (by rw[e2,e3];simpa[Value.ownBlock]using hb)
 have hM':=hM.turnRaw (Tch.refl [] w) (by simp) hi (v:=.slice (if cap=m then some ⟨g,0,none⟩else some ⟨g,m,none⟩) (l.length-m) (cap-m)) (F:=[g]) hF (x:=.raw (.slice (some ⟨g,0,none⟩) l.length cap)) rfl (λO w=>by simp only[RepC];rw[e3]) (ow:=(LE E l m g cap).own) (show(LE E l m g cap).R _ _ _ from⟨rfl,rfl,hm,by rw[<-e3];exact hs1⟩)
 have hk:=hK g cap
 rw[DD,Bz]at hk
 refine⟨_,w,?_,_,_,_,_,hM'.put hd (d:=.own i) ⟨[.slice (if cap=m then some ⟨g,0,none⟩else some ⟨g,m,none⟩) (l.length-m) (cap-m)],by simp only[A7];exact⟨by rw[By];exact hi,by rw[Db]⟩,rfl⟩,hk⟩
 simp only[execOp,ho,CV,mV]
 rw[ex,elo,e3]
 refine Df ?_
 rw[hr]
 congr 2
 split
 ·rfl
 ·simp[CH,h1]
theorem Ps(hM:Models C B S w0 n fr σ η φ a w) {r:Absn}(hg:BP i σ=some r.own):r.R w (η i) (φ i):=hM.mem.own _ (Bm hg)
theorem jK {m g c:Nat} {cl:Call} {t:TypeId} {x:Operand} {e:TyI}(hC:C.Ok T)(i:Nat)(ho:o.op=.call cl)(hcl:cl.callee=.builtin .clear)(hxs:cl.args.toList=[x])(hts:cl.argTypes.toList=[t])(he:Fz t T=some e)(hk2:e.kd=2)(hz:∀w,(zeroValue e.elem).run C.P w=.ok (.int .i64 0) w)(hx:ev C.Γ fr x=.own i)(hg:BP i σ=some (LE E l m g c).own)(hkd:kd≠5/\kd≠2)(hd:Dv o.dst n=true)
  (hK:Cf (BG id i (LE E (l.take m++List.replicate (l.length-m) 0) m g c).own σ) λσ=>K (C4 o.dst (.d (.tuple [])) fr) σ):Bd C n kd o K fr σ:=by
 rw[Bz]at hK
 refine CO hkd.1 hkd.2 λB S w0 η φ a w hM=>⟨λ_=>by simp[Bo,ho],.inl ?_⟩
 have ex:=IH (Be hM x) hx
 obtain⟨ev1,ev2,hm,hs⟩:=Ps hM hg
 have hi:=AY (Bm hg)
 have e1:cl.args=#[x]:=by apply Dx;simpa using hxs
 have e2:cl.argTypes=#[t]:=by apply Dx;simpa using hts
 obtain⟨dd,g1,_,g3,_,_,_,_,g8⟩:=(hC.ty he).desc
 rw[hk2]at g8
 have hdd:∃el,dd=.slice el:=by cases dd<;>simp at g8<;>exact⟨_,rfl⟩
 obtain⟨el,rfl⟩:=hdd
 have hel:=g3 _ rfl
 subst hel
 have hl2:(l.take m++List.replicate (l.length-m) (0:Int)).length=l.length:=by rw[Ah,As,Bu];omega
 have step:∀w1,Tch [g] w w1->Sl E 1 Wd w1 (.slice (some ⟨g,0,none⟩) l.length c) (l.take m++List.replicate (l.length-m) 0)->Hn C B S w0 n K (a.put o.dst (.tuple #[])) w1:=λw1 ht hs'=>by
  have hX:∀b∈[g],b∈φ i:=λb hb=>by rw[ev2];exact hb
  have hF:∀b∈φ i,b∈φ i\/w.heap.size<=b:=λb hb=>.inl hb
  have hlt:=Later.turn (σ:=σ) B ht hX hi hF id (LE E (l.take m++List.replicate (l.length-m) 0) m g c).own
  have hmm:=hM.mem.turnSame (o:=(LE E (l.take m++List.replicate (l.length-m) 0) m g c).own) ht hX hi hF (show(LE E (l.take m++List.replicate (l.length-m) 0) m g c).R _ _ _ from⟨by rw[hl2];exact ev1,ev2,by rw[hl2];exact hm,by rw[hl2];exact hs'⟩)
  rw[LB]at hmm hlt
  have M':Models C B S w0 n fr _ η φ a w1:=⟨hmm,hM.fr.later hlt (λj hj=>⟨by rw[By];exact hj,rfl⟩),hM.defers,hM.size⟩
  exact⟨_,_,_,_,M'.put hd (d:=.d (.tuple [])) ⟨[.tuple #[]],by simp[A7,RepC,Am],rfl⟩,hK⟩
 have exec:∀w1,(Builtin.clear_ #[t] o.type #[η i]).run C.P w=.ok (.tuple #[]) w1->(execOp a.eval o).run C.P w=.ok (.value (.tuple #[])) w1:=λw1 h=>by
  simp only[execOp,ho,resolve,hcl,A6,Bb,A3,invoke,builtin,e1,e2,I4,Au,BI,ex]
  rw[h];rfl
 by_cases hml:m=l.length
 ·refine⟨_,w,exec w ?_,step w (Tch.refl _ _) ?_⟩
  ·rw[ev1,hml,Gu]
   generalize (if c=l.length then(some ⟨g,0,none⟩:Option Addr)else some ⟨g,l.length,none⟩)=ad
   cases ad<;>simp[Builtin.clear_,run_underlying g1]
  ·rw[hml,Gu,De];simpa using hs
 ·obtain⟨w1,r1,r2,r3⟩:=hs.zero1 (P:=C.P) hm
  refine⟨_,w1,exec w1 ?_,step w1 r3 r2⟩
  have hcm:c≠m:=by
   rcases hs.shape with⟨h,_⟩|⟨_,_,h,h2⟩
   ·cases h
   ·cases h;omega
  obtain⟨k,hk⟩:∃k,l.length-m=k+1:=⟨l.length-m-1,by omega⟩
  have hzc:(Builtin.zeroCells (Value.int .i64 0).cells (k+1)).toList=List.replicate (k+1) (Value.int .i64 0):=by
   apply List.ext_getElem
   ·simp[Builtin.zeroCells,Value.cells]
   ·intro j h1 h2
    simp[Builtin.zeroCells,Value.cells,Nat.mod_one]
  rw[ev1,if_neg hcm,hk]
  rw[hk]at r1
  simp[Builtin.clear_,run_underlying g1,hz,hzc,r1]
theorem oK {m g c:Nat} {t:TypeId} {x hi:Operand} {e ee:TyI}(hC:C.Ok T)(i:Nat)(ho:o.op=.slice t x none (some hi) none)(he:Fz t T=some e)(hk2:e.kd=2)(hee:Fz e.elem T=some ee) {nn:Nat}(hx:ev C.Γ fr x=.d (.raw (.slice (some ⟨g,0,none⟩) nn c)))(hnn:nn=l.length)(hg:BP i σ=some (LE E l m g c).own) {mi:Int}(hhi:ev C.Γ fr hi=.d (.int .i64 mi))(hmi:mi=m)(_hc0:0<l.length)(hkd:kd≠5/\kd≠2)(hd:Dv o.dst n=true)
  (hK:Fk (EZ i .undef fr) λfr=>Cf (BG (BH i .undef) i (.slice E 1 ((l.take m).map dI)) σ) λσ=>K (C4 o.dst (.own i) fr) σ):Bd C n kd o K fr σ:=by
 subst hmi
 subst hnn
 rw[DD,Bz]at hK
 refine CO hkd.1 hkd.2 λB S w0 η φ a w hM=>⟨λ_=>by simp[Bo,ho],.inl ?_⟩
 obtain⟨ev1,ev2,hm,hs⟩:=Ps hM hg
 have hii:=AY (Bm hg)
 have ex:a.eval x=.slice (some ⟨g,0,none⟩) l.length c:=by
  obtain⟨cs,h1,h2⟩:=Ff (Be hM x) hx
  simp only[RepC]at h1
  subst h1;exact h2
 have ehi:=Gf (Ff (Be hM hi) hhi)
 have hlc:l.length<=c:=by
  rcases hs.shape with⟨h,_⟩|⟨_,_,h,h2⟩
  ·cases h
  ·cases h;exact h2
 have hr:=EQ (w:=w) (hC.ty he) hk2 (hC.ty hee) (ad:=some ⟨g,0,none⟩) (len:=l.length) (cap:=c) hlc (lo:=none) (hi:=some (.int .i64 m)) (l:=0) (m:=m) rfl ⟨_,rfl⟩ (Aj _) hm
 have hs':Sl E 1 Wd w (.slice (some ⟨g,0,none⟩) m c) (l.take m):=by
  have hlm:(l.take m).length=m:=by rw[As];omega
  rcases hs.2 with⟨h1,_⟩|⟨g',cap',cur,h1,h0,hgg,hc,hmx,hsz,ht⟩
  ·cases h1
  ·cases h1
   unfold Sl
   rw[Ir,hlm]
   refine⟨by rw[Ab,hlm];omega,.inr ⟨g,c,cur,rfl,Aj _,hgg,by omega,hmx,hsz,?_⟩⟩
   rw[Ir]at ht
   rw[CW,<-ht,Gd,EO,EO,G7 hm]
 have hF:∀b∈(Value.slice (some ⟨g,0,none⟩) m c).ownBlock.toList,b∈φ i\/w.heap.size<=b:=λb hb=>.inl (by rw[ev2];simpa[Value.ownBlock]using hb)
 have hM':=hM.turnRaw (Tch.refl [] w) (by simp) hii (v:=.slice (some ⟨g,0,none⟩) m c) hF (x:=.undef) rfl (λO w=>RepC.undef_ex _ _ _) (ow:=.slice E 1 ((l.take m).map dI)) ⟨_,Pm.2 hs',rfl,Mx _,TM _⟩
 refine⟨_,w,?_,_,_,_,_,hM'.put hd (d:=.own i) ⟨[.slice (some ⟨g,0,none⟩) m c],by simp only[A7];exact⟨by rw[By];exact hii,by rw[Db]⟩,rfl⟩,hK⟩
 simp only[execOp,ho,CV,mV]
 rw[ex,ehi]
 refine Df ?_
 rw[hr]
 congr 2
 split
 ·simp
 ·simp[CH]
end
end Go.Sx
namespace Go.Proofs.YtjejpdfldmempaaGreatDoor
open Go.Gr
theorem Lp {G:Gr} {l:List Int}(h:BW G l=true) {i:Nat} {v:Int}(hx:l[i]? =some v):Dc G l i v=true:=by
 cases hh:Dc G l i v with
 |true=>rfl
 |false=>rw[ED hx hh]at h;cases h
theorem GF {G:Gr} {l:List Int}(h:Cz G l=true) {i:Nat} {v:Int}(hx:l[i]? =some v):DM G (l.take i) v=true:=by
 cases hh:DM G (l.take i) v with
 |true=>rfl
 |false=>rw[SH hx hh]at h;cases h
theorem IR {G:Gr} {l:List Int} {i:Nat} {v:Int}:Dc G l i v=true↔Dw G v=true/\v∉l.take i/\(i=0\/(l.take i).any (Fh G.edges v)=true):=by
 simp only[Dc,Ai,B7,decide_eq_false_iff_not,CA,decide_eq_true_eq]
theorem IP {G:Gr} {l:List Int}(h:BW G l=true):l.Nodup:=by
 refine AH.2 λi j hi hj hij e=>?_
 have:=(IR.1 (Lp h (Aa hj))).2.1
 exact this (AQ.2 ⟨i,by omega,e⟩)
theorem Pr {E:List Edg} {l:List Int} {v:Int}:l.any (Fh E v)=true↔∃u∈l,turn ⟨u,v⟩∈E:=by
 rw[Bn]
 constructor
 ·rintro⟨u,hu,h⟩;exact⟨u,hu,by simpa[Fh]using h⟩
 ·rintro⟨u,hu,h⟩;exact⟨u,hu,by simpa[Fh]using h⟩
theorem Ju {l:List Int}(h:l.Nodup):(Cw l).length=l.length:=by
 have h1:(Cw l).Nodup:=(Ba l).1.imp λh=>by omega
 exact((TW h1 h).2 (Ba l).2).length_eq
theorem Lv {G:Gr} {l:List Int} {v y:Int}(h:DM G l v=true)(h0:l[0]? =some y):∃i,l.findIdx? (Fh G.edges v)=some i/\v∉l/\¬v<y/\∀u∈l.drop (i+1),¬v<u:=by
 unfold DM at h
 rw[h0]at h
 simp only at h
 cases hf:l.findIdx? (Fh G.edges v)with
 |none=>rw[hf]at h;cases h
 |
  some i=>
  rw[hf]at h
  simp only[Ai,B7,decide_eq_false_iff_not,Hl,decide_eq_true_eq]at h
  exact⟨i,rfl,h.1,h.2.1,h.2.2⟩
theorem Mt {G:Gr} {l:List Int} {v:Int}(h:DM G l v=true)(hl:l≠[]):v∉l/\∃u∈l,turn ⟨u,v⟩∈G.edges:=by
 obtain⟨y,hy⟩:∃y,l[0]? =some y:=⟨_,Aa (List.length_pos_iff.2 hl)⟩
 obtain⟨i,h1,h2,_⟩:=Lv h hy
 obtain⟨h3,h4,_⟩:=Eo h1
 exact⟨h2,_,AL h3,by simpa[Fh]using h4⟩
theorem Yx {G:Gr} {l:List Int} {v:Int}(h:DM G l v=true):Gk G.edges l v=true:=by
 by_cases hl:l=[]
 ·exact FX.2 (.inl hl)
 ·exact FX.2 (.inr (Pr.2 (Mt h hl).2))
theorem QP {G:Gr}(hG:G.Ok) {u v:Int}(h:turn ⟨u,v⟩∈G.edges):Dw G u=true/\Dw G v=true:=by
 have hb:=hG.edge _ h
 unfold Dw
 simp only[decide_eq_true_eq]
 unfold turn at hb
 simp only at hb
 omega
theorem VW {G:Gr}(hG:G.Ok) {l:List Int} {v:Int}(h:DM G l v=true):Dw G v=true:=by
 by_cases hl:l=[]
 ·subst hl;exact h
 ·obtain⟨u,_,hu⟩:=(Mt h hl).2
  exact(QP hG hu).2
theorem EW {G:Gr}(hG:G.Ok) {l:List Int}(h:Cz G l=true):BW G l=true:=by
 refine JD λi v hx=>IR.2 ?_
 have hf:=GF h hx
 refine⟨VW hG hf,?_⟩
 by_cases hi:i=0
 ·subst hi;exact⟨by simp,.inl rfl⟩
 ·have hil:=(Ae.1 hx).1
  have hne:l.take i≠[]:=λe=>by
   have:=congrArg List.length e
   simp only[As,Cb]at this;omega
  have:=Mt hf hne
  exact⟨this.1,.inr (Pr.2 this.2)⟩
theorem QY {G:Gr} {l:List Int}(h:Cz G l=true)(i:Nat):Cz G (l.take i)=true:=by
 refine Hg λj v hx=>?_
 have hj:j<i:=by have:=(Ae.1 hx).1;rw[As]at this;omega
 rw[Cv,if_pos hj]at hx
 rw[Gd,G7 (by omega)]
 exact GF h hx
theorem Hf(G:Gr)(l:List Int)(v:Int):Cz G (l++[v])=(Cz G l&&DM G l v):=by
 have hlast:(l++[v])[l.length]? =some v:=by simp
 have htl:(l++[v]).take l.length=l:=by simp
 cases hc:Cz G (l++[v])with
 |
  true=>
  have h1:=QY hc l.length
  have h2:=GF hc hlast
  rw[htl]at h1 h2
  rw[h1,h2];rfl
 |
  false=>
  cases h1:Cz G l with
  |false=>rfl
  |
   true=>
   cases h2:DM G l v with
   |false=>rfl
   |
    true=>
    rw[<-hc]
    refine(Hg λj u hx=>?_).symm▸rfl
    by_cases hj:j<l.length
    ·rw[BC hj]at hx
     rw[Bg (by omega)]
     exact GF h1 hx
    ·have:=(Ae.1 hx).1
     rw[Ah,BF]at this
     have hj:j=l.length:=by omega
     subst hj
     rw[hlast]at hx;cases hx
     rw[htl];exact h2
theorem Qr {G:Gr} {l:List Int}(hG:G.Ok)(hc:Cz G l=true):∀(rest pre left:List Int),l=pre++rest->left.Pairwise (· < ·)->(∀x,x∈left↔x∈rest)->FA G.edges rest.length pre left=some l
 |[],pre,left,e,_,_=>by simp[FA,e]
 |
  x::rest,pre,left,e,hr,hm=>by
  have hnd:=IP (EW hG hc)
  have hxl:l[pre.length]? =some x:=by rw[e];simp
  have htk:l.take pre.length=pre:=by rw[e];simp
  have hfx:=GF hc hxl
  rw[htk]at hfx
  have hlnod:left.Nodup:=hr.imp λh=>by omega
  obtain⟨i,hi,hxi⟩:=BX.1 ((hm x).2 (by simp))
  have hno:∀j (hj:j<i),Gk G.edges pre (left[j]'(by omega))=false:=by
   intro j hj
   have hlt:=AH.1 hr j i (by omega) hi hj
   rw[hxi]at hlt
   have hmem:=(hm _).1 (AL (l:=left) (n:=j) (by omega))
   generalize left[j]'(by omega)=u at hlt hmem
   rcases An.1 hmem with h|h
   ·omega
   obtain⟨q,hq,hqu⟩:=BX.1 h
   have hul:l[pre.length+(q+1)]? =some u:=by
    rw[e,Cm (by omega)]
    simp only[Nat.add_sub_cancel_left,List.getElem?_cons_succ]
    rw[Aa hq,hqu]
   have hll:=(Ae.1 hul).1
   have hfu:=GF hc hul
   have hxt:(l.take (pre.length+(q+1)))[pre.length]? =some x:=by rw[Cv,if_pos (by omega)];exact hxl
   cases hp:Gk G.edges pre u with
   |false=>rfl
   |
    true=>
    exfalso
    rcases FX.1 hp with h0|h0
    ·have hxt0:(l.take (pre.length+(q+1)))[0]? =some x:=by
      have e0:pre.length=0:=by rw[h0];rfl
      rw[e0]at hxt⊢;exact hxt
     obtain⟨_,_,_,h5,_⟩:=Lv hfu hxt0
     exact h5 hlt
    ·obtain⟨z,hz,hzu⟩:=Pr.1 h0
     obtain⟨k,hk,hkz⟩:=BX.1 hz
     obtain⟨y,hy⟩:∃y,(l.take (pre.length+(q+1)))[0]? =some y:=⟨_,Aa (by rw[As];omega)⟩
     obtain⟨i0,g1,_,_,g4⟩:=Lv hfu hy
     obtain⟨g5,_,g7⟩:=Eo g1
     have hki:i0<=k:=by
      rcases AP k i0 with h|h
      ·have:=g7 k h
       have hkk:(l.take (pre.length+(q+1)))[k]? =some z:=by
        rw[Cv,if_pos (by omega),e,BC hk,Aa hk,hkz]
       rw[Aa (by rw[As];omega),Aq]at hkk
       rw[hkk]at this
       simp[Fh,hzu]at this
      ·exact h
     refine g4 x (DN.2 ⟨pre.length- (i0+1),by rw[As];omega,?_⟩) hlt
     have hsome:=Ae.1 hxt
     have hidx:i0+1+(pre.length- (i0+1))=pre.length:=by omega
     simp only[hidx]
     exact hsome.2
  have hf:left.findIdx? (Gk G.edges pre)=some i:=by
   rw[AN]
   exact⟨hi,by rw[hxi];exact Yx hfx,λj hj=>by rw[hno j hj];simp⟩
  simp only[A4,FA,hf]
  rw[Aa hi,I2,hxi]
  refine Qr hG hc rest (pre++[x]) (left.eraseIdx i) (by rw[e];simp) (hr.sublist (MD left i)) λz=>?_
  rw[IN hlnod hi,hxi,hm]
  constructor
  ·rintro⟨h1,h2⟩
   exact(An.1 h1).resolve_left h2
  ·intro h1
   refine⟨AE _ h1,λe2=>?_⟩
   subst e2
   rw[e]at hnd
   have:=(Dn.1 hnd).2.1
   exact(Ck.1 this).1 h1
theorem Uz {a b:List Int}(h:∀x,x∈a↔x∈b):Cw a=Cw b:=Ex (Ba a).1 (Ba b).1 λx=>by rw[(Ba a).2,(Ba b).2,h]
theorem V0 {G:Gr} {a b:List Int}(h:∀x,x∈a↔x∈b):Dg G a=Dg G b:=by unfold Dg;rw[Uz h]
theorem Ii {G:Gr}(hG:G.Ok) {l:List Int}(hc:Cz G l=true):Dg G l=some l:=by
 have hlk:=EW hG hc
 unfold Dg
 rw[if_neg (by
  simp only[Bn,not_exists,not_and,B7,Bool.not_eq_false]
  intro x hx
  obtain⟨i,hi,rfl⟩:=BX.1 (((Ba l).2 x).1 hx)
  exact(IR.1 (Lp hlk (Aa hi))).1)]
 rw[Ju (IP hlk)]
 exact Qr hG hc l [] (Cw l) rfl (Ba l).1 (Ba l).2
theorem eK {G:Gr}(hG:G.Ok) {l:List Int}:Cz G l=true↔Dg G l=some l:=⟨Ii hG,λh=>(Ga h).2⟩
theorem Vn {G:Gr} {l:List Int}(hl:l≠[]) {x:Int}:x∈FK G l↔(∃v∈l,x∈Do G v)/\x∉l:=by
 unfold FK
 rw[if_neg hl,A5,(Ba _).2,AG]
 simp only[B7,decide_eq_false_iff_not,(Ba l).2]
theorem Fq(k:Nat):(Fc k).Pairwise (· < ·):=by
 unfold Fc
 rw[B6]
 exact List.pairwise_lt_range.imp (by intro a b h;omega)
theorem Nf(G:Gr)(l:List Int):(FK G l).Pairwise (· < ·):=by
 unfold FK
 split
 ·exact Fq _
 ·exact(Ba _).1.sublist Cd
def Ha(G:Gr)(l:List Int):List Int:=if Cz G l=true then(FK G l).filter (DM G l)else[]
theorem Mo {G:Gr}(hG:G.Ok) {l:List Int} {v:Int}:v∈Ha G l↔Cz G l=true/\DM G l v=true:=by
 unfold Ha
 split
 ·rename_i hc
  rw[A5]
  refine⟨λh=>⟨hc,h.2⟩,λh=>⟨?_,h.2⟩⟩
  have hv:=VW hG h.2
  unfold Dw at hv
  simp only[decide_eq_true_eq]at hv
  by_cases hl:l=[]
  ·unfold FK
   rw[if_pos hl,Gm]
   exact hv
  ·obtain⟨h1,u,hu,h2⟩:=Mt h.2 hl
   refine(Vn hl).2 ⟨⟨u,hu,(Nl hG).2 ⟨?_,hv.1,hv.2,by rw[GJ];exact h2⟩⟩,h1⟩
   have:=(QP hG h2).1
   unfold Dw at this
   simpa using this
 ·rename_i hc
  simp[hc]
end Go.Proofs.YtjejpdfldmempaaGreatDoor
namespace Go.Proofs.YtjejpdfldmempaaGreatDoor
open Go.Sx Go.RowKit Go.Reg Go.Gr
set_option maxRecDepth 100000
theorem aF {l:List Int} {i:Nat}(h:i<l.length)(y:Int):(l.set i y).take (i+1)=l.take i++[y]:=by
 rw[Av,List.take_set_of_le (Az i),List.getElem?_set_self h];rfl
def jB:List (Nat×Plan):=[]
def mQ:List FuncId:=[231]
theorem pM:Cu Tryz.prog mQ jB (Tryz.f178.body.getD .skip)=true:=by kernel_rfl
theorem nV(vs:Array Value)(w:World):(callFunc 178 vs).run C1.P w=.ok (.enter 178 vs) w:=by kernel_rfl
theorem Wk(l:List Int)(g:FuncId)(cs:List Da)(p:Int->Bool)(hl:l.length<=4294967296)(hp:∀x∈l,Pure C1 g (.int .i64 x::cs) (λy=>y=.bool (p x))):
  Rk C1 178 3 1 (l.map dI) [.func (.func g) [] cs] (λds=>ds=(l.filter λx=>!p x).map dI):=by
 have hll:(l.map dI).length=l.length:=Ab _
 have hif:=Hx l g cs p hp
 refine kW Fb (pl:=jB) (G:=mQ) Tryz.func178 rfl Tryz.ntmps178 nV pM (by simp) ?_
 unfold Q7 at hif
 cases hf:l.findIdx? p with
 |
  none=>
  rw[hf]at hif
  simp only[KA]at hif
  have hfl:(l.filter λx=>!p x)=l:=by
   rw[E3]
   intro a ha
   rw[AM]at hf
   simp[hf a ha]
  rw[hfl]
  (conv=>whnf)
  (repeat' ((first|refine Af ?_ ?_|refine AR tab rfl hif rfl ?_|refine nx ?_|refine Aw (λ_=>?_) (λ_=>?_)|exact A0)<;>conv=>whnf))
  exact⟨rfl,rfl,rfl⟩
 |
  some i=>
  rw[hf]at hif
  simp only[KA]at hif
  have hf2:=hf
  rw[AN]at hf2
  obtain⟨hil,hpi,hfirst⟩:=hf2
  have hti:l.take i=(l.take (i+1)).filter λx=>!p x:=by
   rw[Av,Aa hil,B9,BJ]
   have h2:[l[i]].filter (λx=>!p x)=[]:=by simp[hpi]
   rw[h2,Cc]
   refine(E3.2 λa ha=>?_).symm
   obtain⟨j,hj,rfl⟩:=AQ.1 ha
   have:=hfirst j (by omega)
   simpa using this
  (conv=>whnf)
  (repeat' ((first|refine Af ?_ ?_|refine AR tab rfl hif rfl ?_|refine nx ?_|refine Aw (λ_=>?_) (λ_=>?_)|exact A0)<;>conv=>whnf))
  refine AC (ι:=Nat×Nat×List Int) (λx=>(x.2.2.length=l.length/\x.1<x.2.1/\x.2.1<=l.length)/\x.2.2.take x.1=((l.take x.2.1).filter λx=>!p x)/\x.2.2.drop x.2.1=l.drop x.2.1)
   (λx=>[(6,.d (.int .i64 (x.2.1:Nat))),(5,.d (.int .i64 (x.1:Nat))),(1,.d (.func (.func g) [] cs)),(0,.own 900)]) (λx=>[(900,.slice 3 1 (x.2.2.map dI))]) (λx=>l.length-x.2.1) (i,i+1,l) (λ_=>rfl)
   ⟨⟨rfl,by simp,by simp only;omega⟩,hti,rfl⟩ (.refl _ _) ⟨rfl,rfl,rfl,rfl,trivial⟩ ⟨rfl,trivial⟩ ?_
  rintro⟨i,j,L⟩ ⟨⟨hLl,hij,hjl⟩,hT,hD⟩
  dsimp only at hLl hij hjl hT hD
  have hLm:(L.map dI).length=L.length:=Ab _
  dsimp only
  refine Bj mQ [] ?_
  by_cases hj:j<l.length
  ·have hx:=Aa hj
   have hpy:=hp _ (AL hj)
   generalize l[j]=y at hx hpy
   have hLj:L[j]? =some y:=by
    have:=congrArg (λz=>z[0]?) hD
    simp only[Kd,Dd]at this
    rw[this];exact hx
   have hxd:(L.map dI)[j]? =some (.int .i64 y):=by rw[Ac,hLj];rfl
   have hD2:L.drop (j+1)=l.drop (j+1):=by
    have:=congrArg (List.drop 1) hD
    rwa [List.drop_drop,List.drop_drop]at this
   cases hpv:p y with
   |
    true=>
    rw[hpv]at hpy
    (conv=>whnf)
    (repeat' ((first|refine Af ?_ ?_|refine FM (i:=j) rfl (by omega) ?_|refine FL hxd ?_|refine Ad (Ez _ _) hpy ?_|refine nx ?_|refine Aw (λ_=>?_) (λ_=>?_)|exact A0)<;>conv=>whnf))
    refine⟨(i,j+1,L),_,_,⟨⟨hLl,by dsimp only;omega,hj⟩,?_,hD2⟩,.refl _ _,⟨rfl,rfl,rfl,rfl,trivial⟩,⟨rfl,trivial⟩,by dsimp only;omega⟩
    dsimp only
    rw[hT,Av,hx,B9,BJ]
    simp[hpv]
   |
    false=>
    rw[hpv]at hpy
    have hLi:=Aa (l:=L) (i:=i) (by omega)
    generalize L[i]'(by omega)=z at hLi
    have hzd:(L.map dI)[i]? =some (.int .i64 z):=by rw[Ac,hLi];rfl
    have hset:(L.map dI).set i (.int .i64 y)=(L.set i y).map dI:=by rw[DX];rfl
    (conv=>whnf)
    (repeat' ((first|refine Af ?_ ?_|refine FM (i:=j) rfl (by omega) ?_|refine FL hxd ?_|refine Ad (Ez _ _) hpy ?_|refine FM (i:=i) rfl (by omega) ?_|refine FL hzd ?_|refine nx ?_|refine Aw (λ_=>?_) (λ_=>?_)|exact A0)<;>conv=>whnf))
    refine⟨(i+1,j+1,L.set i y),_,_,⟨⟨by rw[mW];exact hLl,by dsimp only;omega,hj⟩,?_,?_⟩,.refl _ _,⟨rfl,rfl,rfl,rfl,trivial⟩,⟨AO hset,trivial⟩,by dsimp only;omega⟩
    ·dsimp only
     rw[aF (by omega),hT,Av,hx,B9,BJ]
     simp[hpv]
    ·dsimp only
     rw[List.drop_set_of_lt (by omega)];exact hD2
  ·have hje:j=l.length:=by omega
   subst hje
   rw[De]at hT
   have hL0:L≠[]:=λe=>by rw[e]at hLl;simp at hLl;omega
   have hhead:((L.take i++List.replicate (L.length-i) 0).take i).map dI=(l.filter λx=>!p x).map dI:=by
    rw[Bg (by rw[As];omega),Gd,Nat.min_self,hT]
   have hL2:(L.take i++List.replicate (L.length-i) (0:Int)).length=L.length:=by rw[Ah,As,Bu];omega
   ((conv=>whnf);repeat' ((first|refine odw ?_|refine nx ?_|refine Aw (λ_=>?_) (λ_=>?_))<;>conv=>whnf))
   refine oI i Fb 900 rfl rfl rfl rfl rfl rfl rfl rfl rfl (by omega) hL0 ⟨by decide,by decide⟩ rfl λg c=>?_
   ((conv=>whnf);repeat' ((first|refine odw ?_|refine nx ?_|refine Aw (λ_=>?_) (λ_=>?_))<;>conv=>whnf))
   refine jK Fb 900 rfl rfl rfl rfl rfl rfl (λw=>by kernel_rfl) rfl rfl (by decide) rfl ?_
   ((conv=>whnf);repeat' ((first|refine odw ?_|refine nx ?_|refine Aw (λ_=>?_) (λ_=>?_))<;>conv=>whnf))
   refine oK Fb 900 rfl rfl rfl rfl rfl hL2.symm rfl rfl rfl (by omega) (by decide) rfl ?_
   rw[hhead]
   ((conv=>whnf);repeat' ((first|refine odw ?_|refine nx ?_|refine Aw (λ_=>?_) (λ_=>?_))<;>conv=>whnf))
   exact⟨rfl,rfl,rfl⟩
def vF:List FuncId:=[123]
theorem Yu(G:Gr)(hG:G.Ok)(l:List Int)(v:Int):Pure C1 179 [.int .i64 v,.ref (dG G),.ref (AS l)] (λy=>y=.bool (!DM G l v)):=by
 have h1:=S3 G hG l v
 refine AK Tryz.func179 Tryz.ntmps179 vF [] ?_
 (conv=>whnf)
 (repeat' ((first|refine Af ?_ ?_|refine Ad rfl h1 ?_|refine nx ?_|refine Aw (λ_=>?_) (λ_=>?_)|exact A0)<;>conv=>whnf))
 exact rfl
def vE:List FuncId:=[81]
theorem dL(G:Gr)(hG:G.Ok)(l:List Int)(hb:l.length<=100000):Pure C1 118 [dG G,AS l] (λy=>y=AS (Ha G l)\/y=.nils/\Ha G l=[]):=by
 have hcn:=YC G hG l
 have hnl:=Se hG hb
 have hdl:=Wk (FK G l) 179 [.ref (dG G),.ref (AS l)] (λv=>!DM G l v) hnl (λv _=>Yu G hG l v)
 refine AK Tryz.func118 Tryz.ntmps118 vE [] ?_
 unfold Ha
 cases hc:Cz G l with
 |
  false=>
  rw[hc]at hcn
  rw[if_neg (by decide)]
  (conv=>whnf)
  (repeat' ((first|refine Af ?_ ?_|refine Ad rfl hcn ?_|refine nx ?_|refine Aw (λ_=>?_) (λ_=>?_)|exact A0)<;>conv=>whnf))
  exact .inr ⟨rfl,rfl⟩
 |
  true=>
  rw[hc]at hcn
  rw[if_pos rfl]
  have he:((FK G l).filter λx=>!!DM G l x)=(FK G l).filter (DM G l):=by simp only[Bool.not_not]
  rw[he]at hdl
  (conv=>whnf)
  (repeat' ((first|refine Af ?_ ?_|refine Ad rfl hcn ?_|refine nx ?_|refine Aw (λ_=>?_) (λ_=>?_)|exact A0)<;>conv=>whnf))
  refine EX 300 rfl rfl (cF G hG l hb) ?_;rintro ds rfl
  (conv=>whnf)
  refine SJ tab rfl rfl hdl (λds h=>by subst h;exact IV _) ?_;rintro ds rfl
  ((conv=>whnf);repeat' ((first|refine odw ?_|refine nx ?_|refine Aw (λ_=>?_) (λ_=>?_))<;>conv=>whnf))
  exact .inl rfl
end Go.Proofs.YtjejpdfldmempaaGreatDoor
end
section
namespace Go.Gr
open Go.Proofs.YtjejpdfldmempaaGreatDoor
structure Opp where
 kind:Int
 n:Int
def FU(k:Int):Bool:=!(decide (k=1)||decide (k=6)||decide (k=8))
def D7(o:Opp):Int:=if o.kind<1\/8<o.kind then 1 else if o.n<0\/255<o.n\/0<o.n/\FU o.kind=false then 3 else 0
def CN(E:List Edg)(a b:Int):Bool:=decide (turn ⟨a,b⟩∈E)
def GX(p:Pt)(a:Nat):Int:=(p.labels[a]?).getD 0
def ZY(p:Pt):Bool:=p.edges.any λe=>(List.range p.labels.length).any λv=>CN p.edges e.a v&&CN p.edges e.b v
def dZ(p:Pt)(n:Int):Bool:=(List.range p.labels.length).all λv=>decide ((OJ p.edges v:Int)<=n)
def C6(o:Opp)(p:Pt):Bool:=
 if o.kind=1 then decide (p.edges.length=p.labels.length*(p.labels.length-1)/2)
 else if o.kind=2 then !p.labels.any λl=>decide (o.n<l)
 else if o.kind=3 then dZ p o.n
 else if o.kind=4 then decide ((p.labels.length:Int)<=o.n)
 else if o.kind=5 then decide ((p.edges.length:Int)<=o.n)
 else if o.kind=6 then decide ((Cw p.labels).length=p.labels.length)
 else if o.kind=7 then !p.labels.any λl=>decide (l≠o.n)
 else !ZY p
def kZ(p:Pt)(a:Nat):Nat:=(List.range p.labels.length).countP λb=>decide (a≠b)&&CN p.edges a b
def HX(o:Opp)(p:Pt)(a b:Nat):Bool:=decide (a=b)||(!(decide (o.kind=1)&&!CN p.edges a b)&&!(decide (o.kind=6)&&decide (GX p a=GX p b))&&(List.range p.labels.length).all λc=>!(decide (o.kind=8)&&CN p.edges a b&&CN p.edges a c&&CN p.edges b c))
def IG(o:Opp)(p:Pt)(a:Nat):Bool:=!(decide (o.kind=2)&&decide (o.n<GX p a))&&!(decide (o.kind=7)&&decide (GX p a≠o.n))&&((List.range p.labels.length).all (HX o p a))&&!(decide (o.kind=3)&&decide (o.n<(kZ p a:Int)))
def HG(o:Opp)(p:Pt):Bool:=!(decide (o.kind=4)&&decide (o.n<(p.labels.length:Int)))&&!(decide (o.kind=5)&&decide (o.n<(p.edges.length:Int)))&&(List.range p.labels.length).all (IG o p)
def mU:Nat->List Edg
 |0=>[]
 |n+1=>mU n++(List.range n).map λa=>⟨(a:Int),(n:Int)⟩
theorem Kv:∀{n:Nat} {e:Edg},e∈mU n↔0<=e.a/\e.a<e.b/\e.b<(n:Int)
 |0,e=>by simp[mU];omega
 |
  n+1,e=>by
  unfold mU
  rw[Ag,Kv,Ar]
  constructor
  ·rintro(h|⟨a,ha,rfl⟩)
   ·omega
   ·have:=AJ.1 ha;simp only;omega
  ·rintro⟨h1,h2,h3⟩
   by_cases h:e.b<(n:Int)
   ·exact .inl ⟨h1,h2,h⟩
   ·obtain⟨a,b⟩:=e
    simp only at h1 h2 h3 h
    refine .inr ⟨a.toNat,AJ.2 (by omega),?_⟩
    rw[FP h1,show b=(n:Int)by omega]
theorem RT:∀n,(mU n).Nodup
 |0=>List.nodup_nil
 |
  n+1=>by
  unfold mU
  rw[Dn]
  refine⟨RT n,?_,λx hx y hy e=>?_⟩
  ·unfold List.Nodup
   rw[B6]
   exact List.nodup_range.imp λhne e=>hne (by have:=(Edg.mk.inj e).1;omega)
  ·subst e
   have h1:=Kv.1 hx
   obtain⟨a,_,rfl⟩:=Ar.1 hy
   simp only at h1;omega
theorem Tq:∀n,(mU n).length=n*(n-1)/2
 |0=>rfl
 |
  n+1=>by
  unfold mU
  rw[Ah,Tq n,Ab,Bv,TU]
  have h:(n+1)*n=n*(n-1)+n*2:=by
   cases n with
   |zero=>rfl
   |succ n=>rw[TU,<-Nat.mul_add,lY]
  rw[h,Nat.add_mul_div_right _ _ (by decide)]
section
variable {n:Nat} {p:Pt}
theorem YB(hp:PtOk n p):p.edges.length=n*(n-1)/2↔∀a b:Nat,a<n->b<n->a≠b->CN p.edges a b=true:=by
 rw[<-Tq]
 have hsub:∀e∈p.edges,e∈mU n:=λe he=>Kv.2 (hp.edge e he)
 constructor
 ·intro h a b ha hb hne
  have hperm:=Ht hp.strict.nodup hsub (by omega)
  unfold CN
  refine decide_eq_true (hperm.mem_iff.2 (Kv.2 ?_))
  unfold turn;simp only;omega
 ·intro h
  have h1:=Nd hp.strict.nodup hsub
  have h2:=Nd (RT n) (m:=p.edges) λe he=>by
   obtain⟨g1,g2,g3⟩:=Kv.1 he
   have:=h e.a.toNat e.b.toNat (by omega) (by omega) (by omega)
   unfold CN at this
   have:=of_decide_eq_true this
   rw[FP g1,FP (show 0<=e.b by omega)]at this
   unfold turn at this
   rw[show min e.a e.b=e.a by omega,show max e.a e.b=e.b by omega]at this
   exact this
  omega
def Ty(v:Int)(e:Edg):Int:=if e.a=v then e.b else e.a
theorem kY(hp:PtOk n p) {a:Nat}(ha:a<n):kZ p a=OJ p.edges a:=by
 unfold kZ OJ
 rw[List.countP_eq_length_filter,List.countP_eq_length_filter,hp.len]
 have h:(((List.range n).filter λb=>decide (a≠b)&&CN p.edges a b).map λb:Nat=>(b:Int)).Perm ((p.edges.filter λe=>decide (e.a=(a:Int)\/e.b=(a:Int))).map (Ty a)):=by
  refine(TW ?_ ?_).2 λx=>?_
  ·unfold List.Nodup
   rw[B6]
   exact(List.nodup_range.sublist Cd).imp λhne e=>hne (by omega)
  ·unfold List.Nodup
   rw[B6]
   refine FD ?_ (hp.strict.nodup.sublist Cd)
   intro x y hx hy hne e
   obtain⟨hx,qx⟩:=A5.1 hx
   obtain⟨hy,qy⟩:=A5.1 hy
   have qx:=of_decide_eq_true qx
   have qy:=of_decide_eq_true qy
   have ex:=hp.edge x hx
   have ey:=hp.edge y hy
   refine hne ?_
   obtain⟨xa,xb⟩:=x
   obtain⟨ya,yb⟩:=y
   simp only[Edg.mk.injEq,Ty]at*
   split at e<;>split at e<;>omega
  ·rw[Ar,Ar]
   constructor
   ·rintro⟨b,hb,rfl⟩
    obtain⟨hb,q⟩:=A5.1 hb
    rw[Ai,decide_eq_true_eq]at q
    have:=AJ.1 hb
    refine⟨turn ⟨a,b⟩,A5.2 ⟨of_decide_eq_true q.2,?_⟩,?_⟩
    ·refine decide_eq_true ?_
     unfold turn;simp only;omega
    ·unfold Ty turn;simp only;split<;>omega
   ·rintro⟨e,he,rfl⟩
    obtain⟨he,q⟩:=A5.1 he
    have q:=of_decide_eq_true q
    have g:=hp.edge e he
    refine⟨(Ty a e).toNat,A5.2 ⟨AJ.2 ?_,?_⟩,?_⟩
    ·unfold Ty;split<;>omega
    ·rw[Ai,decide_eq_true_eq]
     refine⟨by unfold Ty;split<;>omega,decide_eq_true ?_⟩
     have:turn ⟨(a:Int),((Ty a e).toNat:Int)⟩=e:=by
      obtain⟨xa,xb⟩:=e
      simp only at g q
      simp only[turn,Ty,Edg.mk.injEq]
      split<;>omega
     rw[this];exact he
    ·unfold Ty;split<;>omega
 have:=h.length_eq
 rwa [Ab,Ab]at this
theorem Np(hp:PtOk n p) {a:Nat}(ha:a<n):p.labels[a]? =some (GX p a):=by
 unfold GX
 rw[Aa (by rw[hp.len];exact ha)];rfl
theorem V4(hp:PtOk n p)(q:Int->Bool):p.labels.any q=true↔∃a,a<n/\q (GX p a)=true:=by
 rw[Bn]
 constructor
 ·rintro⟨x,hx,h⟩
  obtain⟨a,ha,rfl⟩:=BX.1 hx
  have han:a<n:=by rw[<-hp.len];exact ha
  refine⟨a,han,?_⟩
  have:=Np hp han
  rw[Aa ha,Aq]at this
  rw[<-this];exact h
 ·rintro⟨a,ha,h⟩
  exact⟨_,AB (Np hp ha),h⟩
theorem WY(hp:PtOk n p):(Cw p.labels).length=p.labels.length↔∀a b:Nat,a<n->b<n->a≠b->GX p a≠GX p b:=by
 constructor
 ·intro h a b ha hb hne e
  have hperm:=Ht (l:=Cw p.labels) (m:=p.labels) (((Ba p.labels).1).imp λh=>by omega) (λx hx=>((Ba p.labels).2 x).1 hx) (by omega)
  have hn:p.labels.Nodup:=hperm.nodup_iff.1 (((Ba p.labels).1).imp λh=>by omega)
  have h1:=Np hp ha
  have h2:=Np hp hb
  have ha':a<p.labels.length:=by rw[hp.len];exact ha
  have hb':b<p.labels.length:=by rw[hp.len];exact hb
  rw[Aa ha',Aq]at h1
  rw[Aa hb',Aq]at h2
  have hq:=AH.1 hn
  rcases AP a b with g|g
  ·exact hq a b ha' hb' g (by rw[h1,h2,e])
  ·exact hq b a hb' ha' (by omega) (by rw[h1,h2,e])
 ·intro h
  refine Ju ?_
  unfold List.Nodup
  rw[AH]
  intro i j hi hj hij e
  have hi':i<n:=by rw[<-hp.len];exact hi
  have hj':j<n:=by rw[<-hp.len];exact hj
  have h1:=Np hp hi'
  have h2:=Np hp hj'
  rw[Aa hi,Aq]at h1
  rw[Aa hj,Aq]at h2
  exact h i j hi' hj' (by omega) (by rw[<-h1,<-h2,e])
theorem nI(hp:PtOk n p):ZY p=true↔∃a b c:Nat,a<n/\b<n/\c<n/\a≠b/\CN p.edges a b=true/\CN p.edges a c=true/\CN p.edges b c=true:=by
 unfold ZY
 rw[Bn]
 constructor
 ·rintro⟨e,he,h⟩
  obtain⟨c,hc,h⟩:=Bn.1 h
  rw[Ai]at h
  have g:=hp.edge e he
  have hcn:=AJ.1 hc
  rw[hp.len]at hcn
  refine⟨e.a.toNat,e.b.toNat,c,by omega,by omega,hcn,by omega,?_,?_,?_⟩
  ·rw[FP g.1,FP (show 0<=e.b by omega)]
   unfold CN
   rw[show turn ⟨e.a,e.b⟩=e by obtain⟨xa,xb⟩:=e;simp only[turn,Edg.mk.injEq]at*;omega]
   exact decide_eq_true he
  ·rw[FP g.1];exact h.1
  ·rw[FP (show 0<=e.b by omega)];exact h.2
 ·rintro⟨a,b,c,ha,hb,hc,hne,h1,h2,h3⟩
  refine⟨turn ⟨a,b⟩,of_decide_eq_true h1,Bn.2 ⟨c,AJ.2 (by rw[hp.len];exact hc),?_⟩⟩
  rw[Ai]
  unfold turn
  simp only
  rcases AP a b with h|h
  ·rw[show min (a:Int) b=a by omega,show max (a:Int) b=b by omega];exact⟨h2,h3⟩
  ·rw[show min (a:Int) b=b by omega,show max (a:Int) b=a by omega];exact⟨h3,h2⟩
theorem dD(hp:PtOk n p) {o:Opp}(h1:1<=o.kind)(h8:o.kind<=8):C6 o p=HG o p:=by
 obtain⟨k,m⟩:=o
 simp only at h1 h8
 have hk:k=1\/k=2\/k=3\/k=4\/k=5\/k=6\/k=7\/k=8:=by omega
 rcases hk with rfl|rfl|rfl|rfl|rfl|rfl|rfl|rfl
 ·rw[BT]
  have:=YB hp
  simp[C6,HG,IG,HX,hp.len]
  rw[this]
  exact⟨λh a ha b hb=>Classical.byCases .inl λhne=>.inr (h a b ha hb hne),λh a b ha hb hne=>(h a ha b hb).resolve_left hne⟩
 ·rw[BT]
  have:=V4 hp λl=>decide (m<l)
  rw[show C6 ⟨2,m⟩ p=!p.labels.any λl=>decide (m<l)from rfl,B7,Es,ne_eq,this]
  simp[HG,IG,HX,hp.len]
 ·rw[BT]
  simp[C6,HG,IG,HX,hp.len,dZ]
  exact⟨λh a ha=>by rw[kY hp ha];exact h a ha,λh a ha=>by rw[<-kY hp ha];exact h a ha⟩
 ·rw[BT]
  simp[C6,HG,IG,HX,hp.len]
 ·rw[BT]
  simp[C6,HG,IG,HX,hp.len]
 ·rw[BT]
  have:=WY hp
  rw[show C6 ⟨6,m⟩ p=decide ((Cw p.labels).length=p.labels.length)from rfl,decide_eq_true_eq,this]
  simp[HG,IG,HX,hp.len]
  exact⟨λh a ha b hb=>Classical.byCases .inl λhne=>.inr (h a b ha hb hne),λh a b ha hb hne=>(h a ha b hb).resolve_left hne⟩
 ·rw[BT]
  have:=V4 hp λl=>decide (l≠m)
  rw[show C6 ⟨7,m⟩ p=!p.labels.any λl=>decide (l≠m)from rfl,B7,Es,ne_eq,this]
  simp[HG,IG,HX,hp.len]
 ·rw[BT]
  have:=nI hp
  rw[show C6 ⟨8,m⟩ p=!ZY p from rfl,B7,Es,ne_eq,this]
  simp[HG,IG,HX,hp.len]
  constructor
  ·intro h a ha b hb
   refine Classical.byCases .inl λhne=>.inr λc hc=>?_
   have:=h a ha b hb c hc hne
   revert this
   cases CN p.edges a b<;>cases CN p.edges a c<;>cases CN p.edges b c<;>simp
  ·intro h a ha b hb c hc hne g1 g2
   have:=(h a ha b hb).resolve_left hne c hc
   rw[g1,g2]at this
   simpa using this
end
end Go.Gr
end
section
namespace Go.Gr
theorem eA {E:List Edg} {v:Int} {i:Nat} {x:Edg}(h:E[i]? =some x):OJ (E.take (i+1)) v=OJ (E.take i) v+if x.a=v\/x.b=v then 1 else 0:=by
 unfold OJ
 rw[Av,h,B9,List.countP_append]
 congr 1
 by_cases hc:x.a=v\/x.b=v<;>simp[hc]
theorem pG(E:List Edg)(v:Int)(i:Nat):OJ (E.take i) v<=i:=by
 unfold OJ
 exact BE List.countP_le_length (by rw[As];omega)
end Go.Gr
namespace Go.Proofs.YtjejpdfldmempaaGreatDoor
open Go.Sx Go.RowKit Go.Reg Go.Gr
set_option maxRecDepth 100000
theorem Tv(p:Pt)(v:Int)(hme:p.edges.length<=4294967296):Pure C1 283 [GE p,.int .i64 v] (λy=>y=.int .i64 (OJ p.edges v:Nat)):=by
 have hde:(p.edges.map dE).length=p.edges.length:=Ab _
 refine AK Tryz.func283 Tryz.ntmps283 [] [] ?_
 ((conv=>whnf);repeat' ((first|refine odw ?_|refine nx ?_|refine Aw (λ_=>?_) (λ_=>?_))<;>conv=>whnf))
 refine AC (ι:=Nat) (λi=>i<=p.edges.length) (λi=>[(11,.d (.int .i64 i)),(10,.d (.int .i64 (p.edges.map dE).length)),(9,.d (D0 p.edges)),(5,.d (.int .i64 (OJ (p.edges.take i) v:Nat))),(1,.d (.int .i64 v))]) (λ_=>[]) (λi=>p.edges.length-i) 0 (λ_=>rfl) (Aj _) (.refl _ _) ⟨rfl,rfl,rfl,rfl,rfl,trivial⟩ trivial ?_
 intro i hi
 refine Bj [] [] ?_
 by_cases hil:i<p.edges.length
 ·have hx:=Aa hil
  generalize p.edges[i]=x at hx
  have hxd:(p.edges.map dE)[i]? =some (.agg [.int .i64 x.a,.int .i64 x.b]):=by rw[Ac,hx];rfl
  have hst:=eA (v:=v) hx
  have hle:=pG p.edges v i
  by_cases h1:x.a=v
  ·rw[if_pos (.inl h1)]at hst
   (conv=>whnf)
   (repeat' ((first|refine Af ?_ ?_|refine A1 hxd rfl ?_|refine nx ?_|refine Aw (λ_=>?_) (λ_=>?_)|exact A0)<;>conv=>whnf))
   exact⟨i+1,_,_,hil,.refl _ _,⟨rfl,rfl,rfl,IS (by omega),rfl,trivial⟩,trivial,by omega⟩
  ·by_cases h2:x.b=v
   ·rw[if_pos (.inr h2)]at hst
    (conv=>whnf)
    (repeat' ((first|refine Af ?_ ?_|refine A1 hxd rfl ?_|refine nx ?_|refine Aw (λ_=>?_) (λ_=>?_)|exact A0)<;>conv=>whnf))
    exact⟨i+1,_,_,hil,.refl _ _,⟨rfl,rfl,rfl,IS (by omega),rfl,trivial⟩,trivial,by omega⟩
   ·rw[if_neg (by omega)]at hst
    (conv=>whnf)
    (repeat' ((first|refine Af ?_ ?_|refine A1 hxd rfl ?_|refine nx ?_|refine Aw (λ_=>?_) (λ_=>?_)|exact A0)<;>conv=>whnf))
    exact⟨i+1,_,_,hil,.refl _ _,⟨rfl,rfl,rfl,IS (by omega),rfl,trivial⟩,trivial,by omega⟩
 ·have e:p.edges.take i=p.edges:=Ak (by omega)
  rw[e]
  ((conv=>whnf);repeat' ((first|refine odw ?_|refine nx ?_|refine Aw (λ_=>?_) (λ_=>?_))<;>conv=>whnf))
  exact rfl
end Go.Proofs.YtjejpdfldmempaaGreatDoor
end
