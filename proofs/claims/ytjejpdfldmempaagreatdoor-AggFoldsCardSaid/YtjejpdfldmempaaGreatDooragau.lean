/- Merged: Gre Pso Bit Prm Prn Pin Ptu Ptv. -/
import Derived.Test.YtjejpdfldmempaaGreatDooragat
import Derived.Test.YtjejpdfldmempaaGreatDooragar
import Derived.Test.YtjejpdfldmempaaGreatDooragas
import Derived.Test.YtjejpdfldmempaaGreatDooragan
import Derived.Test.YtjejpdfldmempaaGreatDooragaq
section
namespace Go.Proofs.YtjejpdfldmempaaGreatDoor
open Go.Sx Go.RowKit Go.Reg Go.Gr
def Gm(e:Edg):List Value:=[.int .i64 e.a,.int .i64 e.b]
def XP(e:Edg):Value:=.agg #[.int .i64 e.a,.int .i64 e.b]
theorem M7(e:Edg):(Gm e).length=2:=rfl
theorem Q3(e:Edg):∀u∈Gm e,u.oneCell'=true:=by intro u hu;simp[Gm]at hu;rcases hu with rfl|rfl<;>rfl
def Yh(a b:Int):Int:=if a=0 then b else a
set_option maxRecDepth 100000 in
theorem Mr(a:Int)(w:World):Calls Tryz.prog 143 #[.int .i64 a] w λe w'=>e=.returned (.bool false)/\w=w':=by
 have h:(a !=a)=false:=by simp
 go_enter Tryz.func143,Tryz.ntmps143
 go_wp2_with fail
 go_ret
 exact⟨rfl,rfl⟩
set_option maxRecDepth 100000 in
theorem E9(a b:Int)(w:World):Calls Tryz.prog 101 #[.int .i64 a,.int .i64 b] w λe w'=>e=.returned (.int .i64 (BV a b))/\w=w':=by
 by_cases h1:a<b
 ·have e1:BV a b=-1:=by simp[BV,h1]
  rw[e1]
  clear e1
  go_enter Tryz.func101,Tryz.ntmps101
  go_wp2_with (go_at_call 143;refine(Mr _ _).mono ?_;rintro e w' ⟨rfl,rfl⟩)
  go_ret
  exact⟨rfl,rfl⟩
 ·by_cases h2:b<a
  ·have e1:BV a b=1:=by simp[BV,h1,h2]
   rw[e1]
   clear e1
   go_enter Tryz.func101,Tryz.ntmps101
   go_wp2_with (go_at_call 143;refine(Mr _ _).mono ?_;rintro e w' ⟨rfl,rfl⟩)
   go_ret
   exact⟨rfl,rfl⟩
  ·have e1:BV a b=0:=by simp[BV,h1,h2]
   rw[e1]
   clear e1
   go_enter Tryz.func101,Tryz.ntmps101
   go_wp2_with (go_at_call 143;refine(Mr _ _).mono ?_;rintro e w' ⟨rfl,rfl⟩)
   go_ret
   exact⟨rfl,rfl⟩
set_option maxRecDepth 100000 in
theorem YE(s:Nat)(a b:Int)(w:World)(c0:w.cell? ⟨s,0,none⟩=some (.int .i64 a))(c1:w.cell? ⟨s,1,none⟩=some (.int .i64 b)):
  Calls Tryz.prog 100 #[.slice (some ⟨s,0,none⟩) 2 2] w λe w'=>e=.returned (.int .i64 (Yh a b))/\w=w':=by
 by_cases ha:a=0
 ·subst ha
  have e1:Yh 0 b=b:=by simp[Yh]
  rw[e1]
  clear e1
  have b0:((0:Int) !=0)=false:=by simp
  by_cases hb:b=0
  ·subst hb
   go_enter Tryz.func100,Tryz.ntmps100
   go_wp2_with fail
   refine wp_loop_rounds 3 ?_
   rw[rounds_succ]
   go_wp2_with fail
   rw[rounds_succ]
   go_wp2_with fail
   rw[rounds_succ]
   go_wp2_with fail
   go_ret
   exact⟨rfl,rfl⟩
  ·have hb':(b !=0)=true:=by simpa using hb
   clear hb
   go_enter Tryz.func100,Tryz.ntmps100
   go_wp2_with fail
   refine wp_loop_rounds 2 ?_
   rw[rounds_succ]
   go_wp2_with fail
   rw[rounds_succ]
   go_wp2_with fail
   go_ret
   exact⟨rfl,rfl⟩
 ·have e1:Yh a b=a:=by simp[Yh,ha]
  rw[e1]
  have ha':(a !=0)=true:=by simpa using ha
  clear e1 ha
  go_enter Tryz.func100,Tryz.ntmps100
  go_wp2_with fail
  refine wp_loop_rounds 1 ?_
  rw[rounds_succ]
  go_wp2_with fail
  go_ret
  exact⟨rfl,rfl⟩
theorem QA(w:World)(cs:Array Value)(T:TypeId) {s i:Nat} {v:Value}(hs:s=w.heap.size)(h:cs[i]? =some v):(w.alloc (.cells cs T)).drew.cell? ⟨s,i,none⟩=some v:=by
 subst hs
 simp[h]
instance:Inhabited Edg:=⟨⟨0,0⟩⟩
open Go.Sort in
theorem VI:SWO (ltOf BR)where
 irrefl x:=by simp[ltOf,FE]
 trans x y z h1 h2:=by simp only[ltOf,decide_eq_true_eq,FE]at*;omega
 ntrans x y z h1 h2:=by simp only[ltOf,decide_eq_false_iff_not,FE]at*;omega
theorem M8 {O:List Nat} {w:World}:∀{l:List Edg} {css:List (List Value)},Ai O w (l.map dE) css->css=l.map Gm
 |[],css,h=>by simpa only[Bp,Ai]using h
 |
  e::l,css,h=>by
  simp only[Am,Ai,dE,RepC,RepCs]at h
  obtain⟨c1,c2,rfl,⟨_,_,rfl,rfl,_,_,rfl,rfl,rfl⟩,h⟩:=h
  rw[M8 h];rfl
theorem NW(O:List Nat)(w:World):∀l:List Edg,Ai O w (l.map dE) (l.map Gm)
 |[]=>by simp[Ai]
 |
  e::l=>by
  simp only[Am,Ai]
  exact⟨_,_,rfl,by simp[dE,RepC,RepCs,Gm],NW O w l⟩
theorem Q5 {E:Nat} {w:World} {v:Value} {l:List Edg}:Sl E 2 id w v (l.map Gm)↔Sl E 2 Gm w v l:=by
 unfold Sl
 rw[Ac,List.flatMap_map]
 exact Iff.rfl
end Go.Proofs.YtjejpdfldmempaaGreatDoor
end
section
namespace Go.Proofs.YtjejpdfldmempaaGreatDoor
open Go.Sx Go.RowKit Go.Reg Go.Gr
open Go.Sort Go.Proofs in
set_option maxRecDepth 100000 in
set_option maxHeartbeats 1000000 in
theorem IE(x y:Edg)(W:World):Calls Tryz.prog 50 #[XP x,XP y] W λe w'=>e=.returned (.int .i64 (BR x y))/\∃q os',w'=grow (W.drewN q) os':=by
 unfold XP
 go_enter Tryz.func50,Tryz.ntmps50
 go_wp2_with fail
 refine Hb [101] [0,1,0,1,2,0,1,0,1,2,6,3,0] [0,2,5,7,1,3,6,8,4,9,10,11,12] [0,1,0,4,15,0,32,0,128,511,1023,2047,4095] (by kernel_rfl) (by kernel_rfl) ?_
 go_wp2_with (first|(refine BD rfl rfl rfl rfl (λ_ _=>?_))|(refine Cu rfl rfl rfl (λ_ _=>?_)))
 refine Dq rfl rfl rfl (λK1 hK1=>?_)
 go_wp2_with (go_at_call 101;refine(E9 _ _ _).mono ?_;rintro e w' ⟨rfl,rfl⟩)
 refine hK1 _ _ (GZ.refl _) ?_
 go_wp2_with (first|(refine BD rfl rfl rfl rfl (λ_ _=>?_))|(refine Cu rfl rfl rfl (λ_ _=>?_)))
 refine Dq rfl rfl rfl (λK2 hK2=>?_)
 go_wp2_with (go_at_call 101;refine(E9 _ _ _).mono ?_;rintro e w' ⟨rfl,rfl⟩)
 refine hK2 _ _ (GZ.refl _) ?_
 go_wp2_with (first|(refine BD rfl rfl rfl rfl (λ_ _=>?_))|(refine Cu rfl rfl rfl (λ_ _=>?_)))
 refine F4 rfl rfl rfl (λK3 hK3=>?_)
 go_wp2_with fail
 refine(YE _ _ _ _ (QA _ _ _ (by simp) rfl) (QA _ _ _ (by simp) rfl)).mono ?_
 rintro e w' ⟨rfl,rfl⟩
 refine hK3 _ _ ?_
 go_wp2_with (first|(refine BD rfl rfl rfl rfl (λ_ _=>?_))|(refine Cu rfl rfl rfl (λ_ _=>?_))|refine ET ?_)
 go_ret
 have e:Yh (BV x.a y.a) (BV x.b y.b)=BR x y:=by
  unfold Yh BR
  by_cases h:BV x.a y.a=0<;>simp[h]
 exact⟨by rw[<-e];rfl,1,_,by rw[alloc_eq_grow,alloc_eq_grow,alloc_eq_grow,grow_grow,grow_grow];rfl⟩
open Go.Sort in
theorem Tv(v:Value)(l:List Edg)(w:World)(h:Sl 103 2 Gm w v l)(hl:l.length<=4294967296):
  Calls Tryz.prog 58 #[v,.func (.func 50) #[] #[]] w λe w'=>e=.returned (.tuple #[])/\∃out,Sl 103 2 Gm w' v out/\out.Perm l/\
   out.Pairwise (λa b=>¬BR b a<0)/\Tch v.ownBlock.toList w w':=by
 rcases h.shape with⟨rfl,rfl⟩|⟨g,cap,rfl,hc⟩
 ·refine(AnyF.slices_SortFunc_none Tryz.sortE none 0 _ w).mono ?_
  rintro e w' ⟨rfl,rfl⟩
  exact⟨rfl,[],h,List.Perm.refl _,List.Pairwise.nil,Tch.refl _ _⟩
 ·refine(AnyQ.slices_SortFunc Tryz.sortE 2 Tryz.isAgg103 Tryz.sizeOf103 Gm (λ_=>rfl) Q3 BR VI 50 #[] g 0 cap l.toArray w
   (enters_of Tryz.func50 (by kernel_rfl) rfl) (λm os dk hs x y=>IE x y _) (h.holdsK M7 (by decide)) (h.lt rfl) (by simp;omega)).mono ?_
  rintro e w' ⟨rfl,d,n,os,hp,hs,rfl⟩
  obtain⟨hp1,hp2,hp3⟩:=hp
  have hd:d.size=l.length:=by simpa using hp1
  obtain⟨hS,hT⟩:=h.sorted M7 (by decide) d hd n os
  refine⟨rfl,d.toList,hS,?_,?_,hT⟩
  ·have e1:d.extract 0 l.toArray.size=d:=by rw[<-hp1];exact Array.extract_size
   have e2:l.toArray.extract 0 l.toArray.size=l.toArray:=Array.extract_size
   rw[e1,e2]at hp3
   exact hp3
  ·rw[Ct]
   intro i j hi hj hij
   have hj':j<l.length:=by rw[<-hd];simpa using hj
   have hi':i<l.length:=by omega
   have:=hs i j (AA _) hij (by simpa using hj')
   rw[getElem!_pos d j (by omega),getElem!_pos d i (by omega)]at this
   simpa[ltOf]using this
theorem Rz(l:List Edg)(hl:l.length<=4294967296):RR C1 58 103 2 (l.map dE) [.func (.func 50) [] []] (λ_ ds=>∃out:List Edg,ds=out.map dE/\out.Perm l/\out.Pairwise (λa b=>¬BR b a<0)):=by
 intro O w v css us hs hb hO hr hk hg hus
 obtain⟨u,us',rfl,h1,h2⟩:=D7 hus
 obtain rfl:=Ee h2
 obtain⟨cs,r,rfl⟩:=h1
 simp only[RepC,Ai]at r
 obtain⟨_,_,rfl,rfl,rfl⟩:=r
 obtain rfl:=M8 hr
 refine⟨by kernel_rfl,(Tv v l w (Q5.1 hs) hl).mono ?_⟩
 rintro e w' ⟨rfl,out,hs',hp,ho,ht⟩
 refine⟨.tuple #[],.tuple [],_,out.map Gm,rfl,⟨out,rfl,hp,ho⟩,Q5.2 hs',NW _ _ _,?_,⟨[.tuple #[]],by simp only[RepC,Ai];exact⟨[],rfl,rfl⟩,rfl⟩,ht⟩
 intro x hx
 obtain⟨e,_,rfl⟩:=Av.1 hx
 exact⟨rfl,Q3 e⟩
end Go.Proofs.YtjejpdfldmempaaGreatDoor
end
section
namespace Go.Sx
open Go Go.RowKit Go.Reg
theorem Qr(a b:Nat)(ha:a<9223372036854775808)(hb:b<9223372036854775808):IntKind.i64.wrap ((BitVec.ofInt 64 (a:Int)&&&BitVec.ofInt 64 (b:Int)).toNat:Int)=((a&&&b:Nat):Int):=by
 have hx:a&&&b<2^63:=Nat.and_lt_two_pow _ (by omega)
 have h1:(BitVec.ofInt 64 (a:Int)).toNat=a:=by rw[Dn,BitVec.toNat_ofNat];exact TZ (by omega)
 have h2:(BitVec.ofInt 64 (b:Int)).toNat=b:=by rw[Dn,BitVec.toNat_ofNat];exact TZ (by omega)
 rw[BitVec.toNat_and,h1,h2,IntKind.wrap_i64]
 omega
theorem R8(a b:Nat)(ha:a<9223372036854775808)(hb:b<9223372036854775808):IntKind.i64.wrap ((BitVec.ofInt 64 (a:Int)|||BitVec.ofInt 64 (b:Int)).toNat:Int)=((a|||b:Nat):Int):=by
 have hx:a|||b<2^63:=Nat.or_lt_two_pow (by omega) (by omega)
 have h1:(BitVec.ofInt 64 (a:Int)).toNat=a:=by rw[Dn,BitVec.toNat_ofNat];exact TZ (by omega)
 have h2:(BitVec.ofInt 64 (b:Int)).toNat=b:=by rw[Dn,BitVec.toNat_ofNat];exact TZ (by omega)
 rw[BitVec.toNat_or,h1,h2,IntKind.wrap_i64]
 omega
section
variable {C:Cx} {fr:Fr} {σ:Sg}
theorem Vg(a b z:Nat)(hz:a&&&b=z) {n kd:Nat} {o:Oper} {K:Fr->Sg->Prop} {t ty:Nat} {x y:Operand}(ho:o.op=.binOp .and t x y ty)(hx:ev C.Γ fr x=.d (.int .i64 (a:Int)))(hy:ev C.Γ fr y=.d (.int .i64 (b:Int)))(ha:a<9223372036854775808)(hb:b<9223372036854775808)(hkd:kd=3)(hd:Db o.dst n=true)
  (hK:K (Ca o.dst (.d (.int .i64 (z:Int))) fr) σ):AL C n kd o K fr σ:=by
 subst hkd hz
 refine AV (by decide) (by decide) hd λB S w0 η φ a' w hM=>?_
 have e1:=DI (Ex (AM hM x) hx)
 have e2:=DI (Ex (AM hM y) hy)
 refine .inr ⟨_,_,hK,?_,CZ _ _,λh=>by cases h⟩
 simp only[execOp,ho]
 rw[e1,e2]
 refine C2 ?_
 have:=Qr a b ha hb
 rw[Dn,Dn]at this
 simp[eqGuard,binOp,Op.intBits]
 exact this
theorem YF(a b z:Nat)(hz:a|||b=z) {n kd:Nat} {o:Oper} {K:Fr->Sg->Prop} {t ty:Nat} {x y:Operand}(ho:o.op=.binOp .or t x y ty)(hx:ev C.Γ fr x=.d (.int .i64 (a:Int)))(hy:ev C.Γ fr y=.d (.int .i64 (b:Int)))(ha:a<9223372036854775808)(hb:b<9223372036854775808)(hkd:kd=3)(hd:Db o.dst n=true)
  (hK:K (Ca o.dst (.d (.int .i64 (z:Int))) fr) σ):AL C n kd o K fr σ:=by
 subst hkd hz
 refine AV (by decide) (by decide) hd λB S w0 η φ a' w hM=>?_
 have e1:=DI (Ex (AM hM x) hx)
 have e2:=DI (Ex (AM hM y) hy)
 refine .inr ⟨_,_,hK,?_,CZ _ _,λh=>by cases h⟩
 simp only[execOp,ho]
 rw[e1,e2]
 refine C2 ?_
 have:=R8 a b ha hb
 rw[Dn,Dn]at this
 simp[eqGuard,binOp,Op.intBits]
 exact this
theorem Yl(b:Nat) {n kd:Nat} {o:Oper} {K:Fr->Sg->Prop} {t ty:Nat} {x y:Operand} {yk:IntKind}(ho:o.op=.binOp .shl t x y ty)(hx:ev C.Γ fr x=.d (.int .i64 1))(hy:ev C.Γ fr y=.d (.int yk (b:Int)))(hb:b<=30)(hkd:kd=3)(hd:Db o.dst n=true)
  (hK:K (Ca o.dst (.d (.int .i64 ((2^b:Nat):Int))) fr) σ):AL C n kd o K fr σ:=by
 subst hkd
 refine AV (by decide) (by decide) hd λB S w0 η φ a' w hM=>?_
 have e1:=DI (Ex (AM hM x) hx)
 have e2:=DI (Ex (AM hM y) hy)
 refine .inr ⟨_,_,hK,?_,CZ _ _,λh=>by cases h⟩
 simp only[execOp,ho]
 rw[e1,e2]
 refine C2 ?_
 have h1:(2:Nat)^b<=2^30:=Nat.pow_le_pow_right (by decide) hb
 have h3:((2^b:Nat):Int)=(2:Int)^b:=by norm_cast
 have h2:IntKind.i64.wrap ((2:Int)^b)=(2:Int)^b:=by
  rw[<-h3]
  generalize (2:Nat)^b=q at h1
  exact FT ⟨by omega,by omega⟩
 simp[eqGuard,binOp,h2]
theorem Sp(b m z:Nat)(hz:m/2^b=z) {n kd:Nat} {o:Oper} {K:Fr->Sg->Prop} {t ty:Nat} {x y:Operand} {k yk:IntKind}(ho:o.op=.binOp .shr t x y ty)(hx:ev C.Γ fr x=.d (.int k (m:Int)))(hy:ev C.Γ fr y=.d (.int yk (b:Int)))(hb:b<=8)(hkd:kd=3)(hd:Db o.dst n=true)
  (hK:K (Ca o.dst (.d (.int k (z:Int))) fr) σ):AL C n kd o K fr σ:=by
 subst hz
 refine Yj b ho hx hy hb hkd hd ?_
 have:(m:Int).fdiv (2^b)=((m/2^b:Nat):Int):=by
  rw[Int.fdiv_eq_ediv_of_nonneg _ (Int.pow_nonneg (by decide))]
  simp
 rw[this];exact hK
end
end Go.Sx
namespace Go.Gr
def Cd(l:List Nat):Nat:=l.foldl (λs x=>s|||2^x) 0
theorem Ii(l:List Nat)(x:Nat):Cd (l++[x])=Cd l|||2^x:=by simp[Cd]
theorem Qi(l:List Nat)(k:Nat):(Cd l).testBit k=decide (k∈l):=by
 suffices h:∀l:List Nat,(Cd l.reverse).testBit k=decide (k∈l)by
  have:=h l.reverse
  rw[List.reverse_reverse]at this
  rw[this];simp
 intro l
 induction l with
 |nil=>simp[Cd]
 |
  cons x l ih=>
  rw[List.reverse_cons,Ii,Nat.testBit_or,ih,Nat.testBit_two_pow]
  by_cases h:x=k
  ·subst h;simp
  ·simp[h,Ne.symm h]
theorem S0(l:List Nat)(n:Nat)(h:∀x∈l,x<n):Cd l<2^n:=by
 suffices hh:∀l:List Nat,(∀x∈l,x<n)->Cd l.reverse<2^n by
  have:=hh l.reverse (by simpa using h)
  rwa [List.reverse_reverse]at this
 intro l
 induction l with
 |nil=>intro _;simp[Cd];exact Nat.pos_of_ne_zero (by simp)
 |
  cons x l ih=>
  intro h
  rw[List.reverse_cons,Ii]
  exact Nat.or_lt_two_pow (ih λy hy=>h y (by simp[hy])) (Nat.pow_lt_pow_right (by decide) (h x (by simp)))
theorem VN(m k:Nat):(m/2^k)&&&1=if m.testBit k then 1 else 0:=by
 rw[Nat.and_one_is_mod,Nat.testBit_eq_decide_div_mod_eq]
 by_cases h:m/2^k % 2=1
 ·simp[h]
 ·simp[h];omega
end Go.Gr
end
section
namespace Go.Proofs.YtjejpdfldmempaaGreatDoor
open Go.Sx Go.RowKit Go.Reg Go.Gr
set_option maxRecDepth 100000
def GF(p:List Int):Bool:=decide (p.length<=8)&&(decide (∀x∈p,0<=x/\x<p.length)&&decide p.Nodup)
set_option maxHeartbeats 4000000 in
theorem LS(p:List Int)(hm:p.length<=9000000000000000000):Pure C1 144 [D1 p] (λy=>y=.bool (GF p)):=by
 have hdp:(p.map dI).length=p.length:=Ac _
 refine CI Tryz.func144 Tryz.ntmps144 [] [] ?_
 by_cases h8:8<p.length
 ·have:GF p=false:=by unfold GF;rw[decide_eq_false (by omega)];rfl
  rw[this]
  ((conv=>whnf);repeat' ((first|refine odw ?_|refine nx ?_|refine AX (λ_=>?_) (λ_=>?_))<;>conv=>whnf))
  exact rfl
 ·((conv=>whnf);repeat' ((first|refine odw ?_|refine nx ?_|refine AX (λ_=>?_) (λ_=>?_))<;>conv=>whnf))
  refine BK (ι:=Nat) (λi=>i<=p.length/\(∀x∈p.take i,0<=x/\x<(p.length:Int))/\(p.take i).Nodup) (λi=>[(11,.d (.int .i64 i)),(10,.d (.int .i64 (p.map dI).length)),(9,.d (D1 p)),(3,.d (.int .i64 (Cd ((p.take i).map Int.toNat):Nat))),(0,.d (D1 p))]) (λ_=>[]) (λi=>p.length-i) 0 (λ_=>rfl) ⟨AA _,by simp,by simp⟩ (.refl _ _) ⟨rfl,rfl,rfl,rfl,rfl,trivial⟩ trivial ?_
  rintro i ⟨hi,hr,hn⟩
  refine Fw [] [] ?_
  by_cases hil:i<p.length
  ·have hx:=Ab hil
   have hxm:=Gv hil
   generalize p[i]=x at hx hxm
   have hxd:(p.map dI)[i]? =some (.int .i64 x):=by rw[Al,hx];rfl
   have hno:¬(0<=x/\x<(p.length:Int))->GF p=false:=λh=>by
    unfold GF
    rw[decide_eq_false (p:=∀x∈p,0<=x/\x<(p.length:Int)) (λhh=>h (hh x hxm))]
    simp
   by_cases h0:x<0
   ·rw[hno (by omega)]
    (conv=>whnf)
    (repeat' ((first|refine A6 ?_ ?_|refine Bq hxd rfl ?_|refine nx ?_|refine AX (λ_=>?_) (λ_=>?_)|exact Bj)<;>conv=>whnf))
    exact rfl
   by_cases h1:(p.length:Int)<=x
   ·rw[hno (by omega)]
    (conv=>whnf)
    (repeat' ((first|refine A6 ?_ ?_|refine Bq hxd rfl ?_|refine nx ?_|refine AX (λ_=>?_) (λ_=>?_)|exact Bj)<;>conv=>whnf))
    exact rfl
   obtain⟨k,rfl⟩:=Ch (show 0<=x by omega)
   have hm8:Cd ((p.take i).map Int.toNat)<2^8:=S0 _ 8 (λy hy=>by
    obtain⟨z,hz,rfl⟩:=Av.1 hy
    have:=hr z hz;omega)
   have hbt:(Cd ((p.take i).map Int.toNat)).testBit k=decide ((k:Int)∈p.take i):=by
    rw[Qi]
    congr 1
    simp only[Av,eq_iff_iff]
    constructor
    ·rintro⟨z,hz,hzk⟩
     have:=hr z hz
     rw[show(k:Int)=z by omega];exact hz
    ·exactλh=>⟨k,h,Dx k⟩
   have hba:=VN (Cd ((p.take i).map Int.toNat)) k
   have hsn:Cd ((p.take (i+1)).map Int.toNat)=Cd ((p.take i).map Int.toNat)|||2^k:=by
    rw[Bc,hx,Pc,AZ,Am,Bp,Dx,Ii]
   have hdv:Cd ((p.take i).map Int.toNat)/2^k<=Cd ((p.take i).map Int.toNat):=Nat.div_le_self _ _
   have hpk:(2:Nat)^k<=2^8:=Nat.pow_le_pow_right (by decide) (by omega)
   generalize hM:Cd ((p.take i).map Int.toNat)=M at*
   generalize hD:M/2^k=D at*
   obtain⟨Z,hZ⟩:∃Z,M|||2^k=Z:=⟨_,rfl⟩
   rw[hZ]at hsn
   by_cases hc:(k:Int)∈p.take i
   ·rw[hbt,decide_eq_true hc,if_pos rfl]at hba
    have hf:GF p=false:=by
     unfold GF
     rw[decide_eq_false (p:=p.Nodup) (λhh=>?_)]
     ·simp
     ·obtain⟨j,hj,hjk⟩:=List.mem_take_iff_getElem.1 hc
      have hj2:j<p.length:=by omega
      have:=(IQ hj2 hh).1 ((Ab hj2).trans ((congrArg some hjk).trans hx.symm))
      omega
    rw[hf]
    (conv=>whnf)
    (repeat' ((first|refine A6 ?_ ?_|refine Bq hxd rfl ?_|refine Sp k M D hD rfl rfl rfl (by omega) rfl rfl ?_|refine Vg D 1 1 hba rfl rfl rfl (by omega) (by omega) rfl rfl ?_|refine nx ?_|refine AX (λ_=>?_) (λ_=>?_)|exact Bj)<;>conv=>whnf))
    exact rfl
   ·rw[hbt,decide_eq_false hc,if_neg (by decide)]at hba
    (conv=>whnf)
    (repeat' ((first|refine A6 ?_ ?_|refine Bq hxd rfl ?_|refine Sp k M D hD rfl rfl rfl (by omega) rfl rfl ?_|refine Vg D 1 0 hba rfl rfl rfl (by omega) (by omega) rfl rfl ?_|refine Yl k rfl rfl rfl (by omega) rfl rfl ?_|refine YF M (2^k) Z hZ rfl rfl rfl (by omega) (by omega) rfl rfl ?_|refine nx ?_|refine AX (λ_=>?_) (λ_=>?_)|exact Bj)<;>conv=>whnf))
    refine⟨i+1,_,_,⟨by omega,?_,?_⟩,.refl _ _,⟨rfl,rfl,rfl,by rw[hsn];rfl,rfl,trivial⟩,trivial,by omega⟩
    ·intro y hy
     rw[Bc,hx,Pc]at hy
     rcases Af.1 hy with hy|hy
     ·exact hr y hy
     ·simp at hy;subst hy;omega
    ·rw[Bc,hx,Pc]
     exact QQ.2 ⟨hn,by simp,λa ha b hb e=>by simp at hb;subst hb;subst e;exact hc ha⟩
  ·have e:p.take i=p:=AN (by omega)
   rw[e]at hr hn
   have:GF p=true:=by
    unfold GF
    rw[decide_eq_true (show p.length<=8 by omega),decide_eq_true hr,decide_eq_true hn];rfl
   rw[this]
   ((conv=>whnf);repeat' ((first|refine odw ?_|refine nx ?_|refine AX (λ_=>?_) (λ_=>?_))<;>conv=>whnf))
   exact rfl
end Go.Proofs.YtjejpdfldmempaaGreatDoor
end
section
namespace Go.Proofs.YtjejpdfldmempaaGreatDoor
open Go.Sx Go.RowKit Go.Reg Go.Gr
set_option maxRecDepth 100000
def Tw:ByteArray:=⟨#[111,114,100,101,114]⟩
def Ha(p l:List Int)(i:Nat):List Int:=((p.zip l).take i).foldl (λout z=>out.set z.1.toNat z.2) (List.replicate l.length 0)
theorem Hn(p l:List Int)(i:Nat):(Ha p l i).length=l.length:=by
 unfold Ha
 suffices h:∀(zs:List (Int×Int)) (out:List Int),(zs.foldl (λout z=>out.set z.1.toNat z.2) out).length=out.length by
  rw[h,J5]
 intro zs
 induction zs with
 |nil=>intro out;rfl
 |cons z zs ih=>intro out;rw[MW,ih,List.length_set]
theorem N6 {p l:List Int} {i:Nat} {x y:Int}(hx:p[i]? =some x)(hy:l[i]? =some y):Ha p l (i+1)=(Ha p l i).set x.toNat y:=by
 unfold Ha
 have hz:(p.zip l)[i]? =some (x,y):=by rw[List.getElem?_zip_eq_some];exact⟨hx,hy⟩
 rw[Bc,hz,Pc,IS]
 rfl
def Ul(p l:List Int):Da:=if GF p=false then dF 1 0 Tw else if p.length=l.length then .nili else dF 1 1 Tw
def Yz:List FuncId:=[49]
theorem Lv(a:Int):Pure C1 52 [.int .i64 a] (λy=>y=dF 1 a Tw):=by
 refine CI Tryz.func52 Tryz.ntmps52 Yz [] ?_
 (conv=>whnf)
 (repeat' ((first|refine A6 ?_ ?_|refine A8 rfl (Eg 1 a Tw) ?_|refine nx ?_|refine AX (λ_=>?_) (λ_=>?_)|exact Bj)<;>conv=>whnf))
 exact rfl
def Za:List FuncId:=[52,144]
theorem Tb(p l:List Int)(hm:p.length<=9000000000000000000):Pure C1 102 [D1 p,D1 l] (λy=>y=Ul p l):=by
 have hdp:(p.map dI).length=p.length:=Ac _
 have hdl:(l.map dI).length=l.length:=Ac _
 have hr:=LS p hm
 unfold Ul
 refine CI Tryz.func102 Tryz.ntmps102 Za [] ?_
 cases h:GF p with
 |
  false=>
  rw[h]at hr
  rw[if_pos rfl]
  (conv=>whnf)
  (repeat' ((first|refine A6 ?_ ?_|refine A8 rfl hr ?_|refine A8 rfl (Lv 0) ?_|refine nx ?_|refine AX (λ_=>?_) (λ_=>?_)|exact Bj)<;>conv=>whnf))
  exact rfl
 |
  true=>
  rw[h]at hr
  rw[if_neg (by decide)]
  by_cases hl:p.length=l.length
  ·rw[if_pos hl]
   (conv=>whnf)
   (repeat' ((first|refine A6 ?_ ?_|refine A8 rfl hr ?_|refine nx ?_|refine AX (λ_=>?_) (λ_=>?_)|exact Bj)<;>conv=>whnf))
   exact rfl
  ·rw[if_neg hl]
   (conv=>whnf)
   (repeat' ((first|refine A6 ?_ ?_|refine A8 rfl hr ?_|refine A8 rfl (Lv 1) ?_|refine nx ?_|refine AX (λ_=>?_) (λ_=>?_)|exact Bj)<;>conv=>whnf))
   exact rfl
def WE(p l:List Int):Da:=if GF p=false then .tuple [.nils,dF 1 0 Tw]else if p.length=l.length then .tuple [D1 (Ha p l p.length),.nili]else .tuple [.nils,dF 1 1 Tw]
def XJ:List FuncId:=[102]
set_option maxHeartbeats 4000000 in
theorem OE(p l:List Int)(hm:p.length<=9000000000000000000):Pure C1 55 [D1 p,D1 l] (λy=>y=WE p l):=by
 have hdp:(p.map dI).length=p.length:=Ac _
 have hdl:(l.map dI).length=l.length:=Ac _
 have hw:=Tb p l hm
 unfold WE
 unfold Ul at hw
 refine CI Tryz.func55 Tryz.ntmps55 XJ [] ?_
 cases h:GF p with
 |
  false=>
  rw[h,if_pos rfl]at hw
  rw[if_pos rfl]
  (conv=>whnf)
  (repeat' ((first|refine A6 ?_ ?_|refine A8 rfl hw ?_|refine nx ?_|refine AX (λ_=>?_) (λ_=>?_)|exact Bj)<;>conv=>whnf))
  exact rfl
 |
  true=>
  rw[h,if_neg (by decide)]at hw
  rw[if_neg (by decide)]
  by_cases hl:p.length=l.length
  ·rw[if_pos hl]at hw⊢
   have h2:=h
   unfold GF at h2
   simp only[Aj,decide_eq_true_eq]at h2
   obtain⟨h8,hr,hn⟩:=h2
   (conv=>whnf)
   (repeat' ((first|refine A6 ?_ ?_|refine A8 rfl hw ?_|refine YI l.length (by omega) (by omega) (by omega) ?_|refine nx ?_|refine AX (λ_=>?_) (λ_=>?_)|exact Bj)<;>conv=>whnf))
   refine BK (ι:=Nat) (λi=>i<=p.length) (λi=>[(21,.d (.int .i64 i)),(20,.d (.int .i64 (p.map dI).length)),(19,.d (D1 p)),(7,.own 18),(1,.d (D1 l))]) (λi=>[(18,.slice 3 1 ((Ha p l i).map dI))]) (λi=>p.length-i) 0 (λ_=>rfl) (AA _) (.refl _ _) ⟨rfl,rfl,rfl,rfl,rfl,trivial⟩ ⟨El (by simp[Ha,dI]),trivial⟩ ?_
   intro i hi
   refine Fw XJ [] ?_
   by_cases hil:i<p.length
   ·have hx:=Ab hil
    have hxm:=hr _ (Gv hil)
    generalize p[i]=x at hx hxm
    have hy:=Ab (l:=l) (i:=i) (by omega)
    generalize l[i]'(by omega)=y at hy
    obtain⟨k,rfl⟩:=Ch hxm.1
    have hxd:(p.map dI)[i]? =some (.int .i64 k):=by rw[Al,hx];rfl
    have hyd:(l.map dI)[i]? =some (.int .i64 y):=by rw[Al,hy];rfl
    have hpl:((Ha p l i).map dI).length=l.length:=by rw[Ac,Hn]
    have hst:=N6 hx hy
    have hk:k<(Ha p l i).length:=by rw[Hn];omega
    obtain⟨u,hu⟩:∃u,(Ha p l i)[k]? =some u:=⟨_,Ab hk⟩
    have hud:((Ha p l i).map dI)[k]? =some (.int .i64 u):=by rw[Al,hu];rfl
    (conv=>whnf)
    (repeat' ((first|refine A6 ?_ ?_|refine Bq hxd rfl ?_|refine Bq hyd rfl ?_|refine V9 (i:=k) rfl (by omega) ?_|refine V8 hud ?_|refine nx ?_|refine AX (λ_=>?_) (λ_=>?_)|exact Bj)<;>conv=>whnf))
    refine⟨i+1,_,_,by omega,.refl _ _,⟨rfl,rfl,rfl,rfl,rfl,trivial⟩,⟨El ?_,trivial⟩,by omega⟩
    rw[hst,EN]
    simp[dI]
   ·have e:i=p.length:=by omega
    subst e
    ((conv=>whnf);repeat' ((first|refine odw ?_|refine nx ?_|refine AX (λ_=>?_) (λ_=>?_))<;>conv=>whnf))
    exact rfl
  ·rw[if_neg hl]at hw⊢
   (conv=>whnf)
   (repeat' ((first|refine A6 ?_ ?_|refine A8 rfl hw ?_|refine nx ?_|refine AX (λ_=>?_) (λ_=>?_)|exact Bj)<;>conv=>whnf))
   exact rfl
end Go.Proofs.YtjejpdfldmempaaGreatDoor
end
section
namespace Go.Gr
def Ni(E:List Edg)(e:Edg):Nat:=E.countP (λx=>decide (BR x e<0))
def Mt(E:List Edg)(x:Edg):List Edg:=E.take (Ni E x)++x::E.drop (Ni E x)
theorem TC {E:List Edg}(h:CC E)(x:Edg):(∀y∈E.take (Ni E x),BR y x<0)/\∀y∈E.drop (Ni E x),¬BR y x<0:=by
 induction E with
 |nil=>simp
 |
  cons z E ih=>
  obtain⟨h1,h2⟩:=BQ.1 h
  by_cases hz:BR z x<0
  ·have e:Ni (z::E) x=Ni E x+1:=by unfold Ni;rw[List.countP_cons_of_pos (by simp[hz])]
   rw[e,List.take_succ_cons,List.drop_succ_cons]
   obtain⟨i1,i2⟩:=ih h2
   refine⟨λy hy=>?_,i2⟩
   rcases Ad.1 hy with rfl|hy
   ·exact hz
   ·exact i1 y hy
  ·have hall:∀y∈z::E,¬BR y x<0:=by
    intro y hy
    rcases Ad.1 hy with rfl|hy
    ·exact hz
    ·exactλhc=>hz (Fx (h1 y hy) hc)
   have e:Ni (z::E) x=0:=by
    unfold Ni
    exact List.countP_eq_zero.2 λy hy=>by have:=hall y hy;simpa using this
   rw[e]
   exact⟨by simp,hall⟩
theorem NP(E:List Edg)(x:Edg):(Mt E x).Perm (x::E):=by
 unfold Mt
 refine List.perm_middle.trans ?_
 rw[C6]
theorem Qp {E:List Edg}(h:CC E) {x:Edg}(hx:x∉E):CC (Mt E x):=by
 obtain⟨h1,h2⟩:=TC h x
 unfold Mt
 have hg:∀y∈E.drop (Ni E x),BR x y<0:=λy hy=>by
  rcases J0 x y with h3|h3|h3
  ·exact h3
  ·subst h3;exact absurd (List.mem_of_mem_drop hy) hx
  ·exact absurd h3 (h2 y hy)
 refine La.2 ⟨List.Pairwise.sublist (List.take_sublist _ _) h,BQ.2 ⟨hg,List.Pairwise.sublist (List.drop_sublist _ _) h⟩,λa ha b hb=>?_⟩
 rcases Ad.1 hb with rfl|hb
 ·exact h1 a ha
 ·exact Fx (h1 a ha) (hg b hb)
theorem Mx(L:List Edg)(hn:L.Nodup):∀E,CC E->(∀x∈L,x∉E)->CC (L.foldl Mt E)/\(L.foldl Mt E).Perm (L++E):=by
 induction L with
 |nil=>intro E h _;exact⟨h,List.Perm.refl _⟩
 |
  cons x L ih=>
  intro E h hx
  obtain⟨n1,n2⟩:=C7.1 hn
  have hs:=Qp h (hx x (by simp))
  obtain⟨i1,i2⟩:=ih n2 (Mt E x) hs (λy hy hm=>by
   have:=(NP E x).mem_iff.1 hm
   rcases Ad.1 this with rfl|h3
   ·exact n1 hy
   ·exact hx y (by simp[hy]) h3)
  refine⟨i1,i2.trans ?_⟩
  refine(List.Perm.append_left L (NP E x)).trans ?_
  exact List.perm_middle
end Go.Gr
end
section
namespace Go.Gr
def Mf(b:List Int)(e:Edg):Edg:=turn ⟨(b[e.a.toNat]?).getD 0,(b[e.b.toNat]?).getD 0⟩
theorem BL {p:Pt}(h:Dr p=none):Iw p.labels=none/\(∀e∈p.edges,0<=e.a/\e.a<e.b/\e.b<p.labels.length)/\CC p.edges:=by
 unfold Dr at h
 cases hl:Iw p.labels with
 |some x=>rw[hl]at h;cases h
 |
  none=>
  rw[hl]at h
  obtain⟨h1,h2⟩:=TN h
  refine⟨rfl,h1,?_⟩
  unfold CC
  rw[Ct]
  intro i j hi hj hij
  obtain⟨d,rfl⟩:∃d,j=i+1+d:=⟨j- (i+1),by omega⟩
  induction d with
  |zero=>exact h2 i _ _ (Ab hi) (Ab hj)
  |
   succ d ih=>
   have hj':i+1+d<p.edges.length:=by omega
   exact Fx (ih hj' (by omega)) (h2 (i+1+d) _ _ (Ab hj') (Ab hj))
end Go.Gr
namespace Go.Proofs.YtjejpdfldmempaaGreatDoor
open Go.Sx Go.RowKit Go.Reg Go.Gr
set_option maxRecDepth 100000
def AQ(p:Pt)(b:List Int):Pt:=⟨Ha b p.labels b.length,(p.edges.map (Mf b)).foldl Mt []⟩
theorem Vd {b:List Int}(h:GF b=true):b.length<=8/\(∀x∈b,0<=x/\x<b.length)/\b.Nodup:=by
 unfold GF at h
 simp only[Aj,decide_eq_true_eq]at h
 exact⟨h.1,h.2.1,h.2.2⟩
theorem Vo {b:List Int} {e:Edg}(h:0<=e.a/\e.a<e.b/\e.b<b.length):∃u v:Int,b[e.a.toNat]? =some u/\b[e.b.toNat]? =some v/\Mf b e=turn ⟨u,v⟩:=by
 have h1:e.a.toNat<b.length:=by omega
 have h2:e.b.toNat<b.length:=by omega
 exact⟨_,_,Ab h1,Ab h2,by unfold Mf;rw[Ab h1,Ab h2];rfl⟩
theorem Me {b:List Int}(hb:b.Nodup) {E:List Edg}(hE:∀e∈E,0<=e.a/\e.a<e.b/\e.b<b.length)(hn:E.Nodup):(E.map (Mf b)).Nodup:=by
 refine Fy.2 (List.Pairwise.imp_of_mem ?_ hn)
 intro x y hx hy hxy h
 refine hxy ?_
 obtain⟨u,v,h1,h2,h3⟩:=Vo (hE x hx)
 obtain⟨u2,v2,k1,k2,k3⟩:=Vo (hE y hy)
 rw[h3,k3]at h
 have hxe:=hE x hx
 have hye:=hE y hy
 have hcase:(u=u2/\v=v2)\/(u=v2/\v=u2):=by unfold turn at h;simp only[Edg.mk.injEq]at h;omega
 rcases hcase with⟨rfl,rfl⟩|⟨rfl,rfl⟩
 ·have e1:=(IQ (by omega) hb).1 (h1.trans k1.symm)
  have e2:=(IQ (by omega) hb).1 (h2.trans k2.symm)
  cases x;cases y;simp only[Edg.mk.injEq]at*;omega
 ·have e1:=(IQ (by omega) hb).1 (h1.trans k2.symm)
  have e2:=(IQ (by omega) hb).1 (h2.trans k1.symm)
  omega
theorem WK {b:List Int} {E:List Edg}(hn:(E.map (Mf b)).Nodup) {out:List Edg}(hp:out.Perm (E.map (Mf b)))(ho:out.Pairwise (λa c=>¬BR c a<0)):out=(E.map (Mf b)).foldl Mt []:=by
 obtain⟨h1,h2⟩:=Mx _ hn [] List.Pairwise.nil (by simp)
 rw[C8]at h2
 exact HY (hp.trans h2.symm) (J9 (hp.nodup_iff.2 hn) ho) h1
def UT:List (Nat×Plan):=[(11,.leaf [0,1,0,0,1,0,1,0,0,1,0,1,0,2,6,3,0,3] [0,2,3,7,8,1,4,5,6,9,10,11,12,13,14,15,16,17] [0,1,0,0,8,28,60,0,0,256,896,1920,4092,8188,16380,32767,65535,131071])]
def XH:List FuncId:=[13,55,57]
set_option maxHeartbeats 4000000 in
theorem LM(p:Pt)(hp:Dr p=none)(hE:p.edges.length<=1000)(b:List Int)(hb:GF b=true)(hbl:b.length=p.labels.length):
  Pure C1 15 [Fv p,D1 b] (λy=>y=.tuple [Fv (AQ p b),.nili]):=by
 have hdl:(p.labels.map dI).length=p.labels.length:=Ac _
 have hde:(p.edges.map dE).length=p.edges.length:=Ac _
 have hdb:(b.map dI).length=b.length:=Ac _
 obtain⟨hl,he,hs⟩:=BL hp
 obtain⟨h8,hbr,hbn⟩:=Vd hb
 have hri:=DA p (by omega) (by omega)
 rw[Ed hp]at hri
 have hpu:=OE b p.labels (by omega)
 have epu:WE b p.labels=.tuple [D1 (Ha b p.labels b.length),.nili]:=by unfold WE;rw[hb,if_neg (by decide),if_pos hbl]
 rw[epu]at hpu
 refine CI Tryz.func15 Tryz.ntmps15 XH UT ?_
 (conv=>whnf)
 (repeat' ((first|refine A6 ?_ ?_|refine A8 rfl hri ?_|refine A8 rfl hpu ?_|refine nx ?_|refine AX (λ_=>?_) (λ_=>?_)|exact Bj)<;>conv=>whnf))
 refine BK (ι:=Nat) (λi=>i<=p.edges.length) (λi=>[(35,.d (.int .i64 i)),(34,.d (.int .i64 (p.edges.map dE).length)),(33,.d (Ip p.edges)),(9,.own 9),(4,.own 4),(2,.own 2),(1,.d (D1 b))]) (λi=>[(2,.cells 31 [.d (D1 p.labels),.d (Ip p.edges)]),(4,.cells 31 [.d .nils,.d .nils]),(9,.cells 31 [.d (D1 (Ha b p.labels b.length)),.own 300]),(300,.slice 103 2 (((p.edges.take i).map (Mf b)).map dE))]) (λi=>p.edges.length-i) 0 (λ_=>rfl) (AA _) (.ownc 9 300 103 2 rfl rfl (.there _ (.here _)) (.refl _ _)) ⟨rfl,rfl,rfl,rfl,rfl,rfl,rfl,trivial⟩ ⟨rfl,rfl,rfl,rfl,trivial⟩ ?_
 intro i hi
 refine Fw XH UT ?_
 by_cases hil:i<p.edges.length
 ·have hx:=Ab hil
  have hxr:=he _ (Gv hil)
  generalize p.edges[i]=x at hx hxr
  have hxd:(p.edges.map dE)[i]? =some (.agg [.int .i64 x.a,.int .i64 x.b]):=by rw[Al,hx];rfl
  obtain⟨u,v,hu,hv,hmv⟩:=Vo (b:=b) (e:=x) (by rw[hbl];exact hxr)
  obtain⟨xa,xb⟩:=x
  obtain⟨ka,rfl⟩:=Ch hxr.1
  obtain⟨kb,rfl⟩:=Ch (show 0<=xb by have h1:=hxr.1;have h2:=hxr.2.1;simp only at h1 h2;omega)
  have hud:(b.map dI)[ka]? =some (.int .i64 u):=by rw[Al,show b[ka]? =some u from hu];rfl
  have hvd:(b.map dI)[kb]? =some (.int .i64 v):=by rw[Al,show b[kb]? =some v from hv];rfl
  have htu:=OB ⟨u,v⟩
  rw[<-hmv]at htu
  have hll:(p.edges.take i).length=i:=by rw[B5];omega
  (conv=>whnf)
  (repeat' ((first|refine A6 ?_ ?_|refine Bq hxd rfl ?_|refine Bq hud rfl ?_|refine Bq hvd rfl ?_|refine A8 rfl htu ?_|refine nx ?_|refine AX (λ_=>?_) (λ_=>?_)|exact Bj)<;>conv=>whnf))
  refine⟨i+1,_,_,by omega,.refl _ _,⟨rfl,rfl,rfl,rfl,rfl,rfl,rfl,trivial⟩,⟨rfl,rfl,rfl,El ?_,trivial⟩,by omega⟩
  rw[Bc,hx];simp
 ·have e:p.edges.take i=p.edges:=AN (by omega)
  rw[e]
  have hmn:=Me hbn (E:=p.edges) (λe h=>by rw[hbl];exact he e h) hs.nodup
  ((conv=>whnf);repeat' ((first|refine odw ?_|refine nx ?_|refine AX (λ_=>?_) (λ_=>?_))<;>conv=>whnf))
  refine QB (i:=300) rfl rfl (Rz (p.edges.map (Mf b)) (by rw[Ac];omega)) ?_
  rintro y ds ⟨out,rfl,hpo,hoo⟩
  rw[WK hmn hpo hoo]
  ((conv=>whnf);repeat' ((first|refine odw ?_|refine nx ?_|refine AX (λ_=>?_) (λ_=>?_))<;>conv=>whnf))
  exact rfl
end Go.Proofs.YtjejpdfldmempaaGreatDoor
end
section
namespace Go.Gr
def CB {α:Type}(f:α->α->Int):List α->List α->Int
 |[],[]=>0
 |[],_::_=>-1
 |_::_,[]=>1
 |x::a,y::b=>if f x y=0 then CB f a b else f x y
theorem Cg {α:Type}(f:α->α->Int)(x y:α)(a b:List α):CB f (x::a) (y::b)=if f x y=0 then CB f a b else f x y:=rfl
def LV:List Int->Int
 |[]=>0
 |x::l=>if x=0 then LV l else x
def B9(p q:Pt):Int:=LV [BV p.labels.length q.labels.length,CB BV p.labels q.labels,BV p.edges.length q.edges.length,CB BR p.edges q.edges]
end Go.Gr
namespace Go.Proofs.YtjejpdfldmempaaGreatDoor
open Go.Sx Go.RowKit Go.Reg Go.Gr
set_option maxRecDepth 100000
def XF:List FuncId:=[101]
set_option maxHeartbeats 4000000 in
theorem LB(a b:List Int)(hm:a.length<=9000000000000000000)(_hm2:b.length<=9000000000000000000):Pure C1 141 [D1 a,D1 b] (λy=>y=.int .i64 (CB BV a b)):=by
 have hda:(a.map dI).length=a.length:=Ac _
 have hdb:(b.map dI).length=b.length:=Ac _
 refine CI Tryz.func141 Tryz.ntmps141 XF [] ?_
 ((conv=>whnf);repeat' ((first|refine odw ?_|refine nx ?_|refine AX (λ_=>?_) (λ_=>?_))<;>conv=>whnf))
 refine BK (ι:=Nat) (λi=>(i<=a.length/\i<=b.length)/\CB BV (a.drop i) (b.drop i)=CB BV a b) (λi=>[(11,.d (.int .i64 i)),(10,.d (.int .i64 (a.map dI).length)),(9,.d (D1 a)),(1,.d (D1 b)),(0,.d (D1 a))]) (λ_=>[]) (λi=>a.length-i) 0 (λ_=>rfl) ⟨⟨AA _,AA _⟩,rfl⟩ (.refl _ _) ⟨rfl,rfl,rfl,rfl,rfl,trivial⟩ trivial ?_
 rintro i ⟨⟨hi,hi2⟩,hc⟩
 rw[<-hc]
 refine Fw XF [] ?_
 by_cases hil:i<a.length
 ·have hx:=Ab hil
  rw[AO hil]at hc⊢
  generalize a[i]=x at hx hc
  have hxd:(a.map dI)[i]? =some (.int .i64 x):=by rw[Al,hx];rfl
  by_cases hib:i<b.length
  ·have hy:=Ab hib
   rw[AO hib]at hc⊢
   generalize b[i]=y at hy hc
   have hyd:(b.map dI)[i]? =some (.int .i64 y):=by rw[Al,hy];rfl
   have hcp:=Et x y
   rw[Cg]at hc⊢
   by_cases h0:BV x y=0
   ·rw[if_pos h0]at hc⊢
    rw[h0]at hcp
    (conv=>whnf)
    (repeat' ((first|refine A6 ?_ ?_|refine Bq hxd rfl ?_|refine Bq hyd rfl ?_|refine A8 rfl hcp ?_|refine nx ?_|refine AX (λ_=>?_) (λ_=>?_)|exact Bj)<;>conv=>whnf))
    exact⟨i+1,_,_,⟨⟨by omega,by omega⟩,rfl⟩,.refl _ _,⟨rfl,rfl,rfl,rfl,rfl,trivial⟩,trivial,by omega⟩
   ·rw[if_neg h0]
    generalize BV x y=z at hcp h0
    (conv=>whnf)
    (repeat' ((first|refine A6 ?_ ?_|refine Bq hxd rfl ?_|refine Bq hyd rfl ?_|refine A8 rfl hcp ?_|refine nx ?_|refine AX (λ_=>?_) (λ_=>?_)|exact Bj)<;>conv=>whnf))
    exact rfl
  ·have hbe:b.drop i=[]:=B7 (by omega)
   rw[hbe]
   unfold CB
   (conv=>whnf)
   (repeat' ((first|refine A6 ?_ ?_|refine Bq hxd rfl ?_|refine nx ?_|refine AX (λ_=>?_) (λ_=>?_)|exact Bj)<;>conv=>whnf))
   exact rfl
 ·have hae:a.drop i=[]:=B7 (by omega)
  rw[hae]
  by_cases hib:i<b.length
  ·rw[AO hib]
   unfold CB
   have hlt:a.length<b.length:=by omega
   ((conv=>whnf);repeat' ((first|refine odw ?_|refine nx ?_|refine AX (λ_=>?_) (λ_=>?_))<;>conv=>whnf))
   exact rfl
  ·have hbe:b.drop i=[]:=B7 (by omega)
   rw[hbe]
   unfold CB
   have hlt:¬a.length<b.length:=by omega
   ((conv=>whnf);repeat' ((first|refine odw ?_|refine nx ?_|refine AX (λ_=>?_) (λ_=>?_))<;>conv=>whnf))
   exact rfl
set_option maxHeartbeats 4000000 in
theorem KM(a b:List Edg)(hm:a.length<=9000000000000000000)(_hm2:b.length<=9000000000000000000):Pure C1 142 [Ip a,Ip b,.func (.func 50) [] []] (λy=>y=.int .i64 (CB BR a b)):=by
 have hda:(a.map dE).length=a.length:=Ac _
 have hdb:(b.map dE).length=b.length:=Ac _
 refine CI Tryz.func142 Tryz.ntmps142 [] [] ?_
 ((conv=>whnf);repeat' ((first|refine odw ?_|refine nx ?_|refine AX (λ_=>?_) (λ_=>?_))<;>conv=>whnf))
 refine BK (ι:=Nat) (λi=>(i<=a.length/\i<=b.length)/\CB BR (a.drop i) (b.drop i)=CB BR a b) (λi=>[(13,.d (.int .i64 i)),(12,.d (.int .i64 (a.map dE).length)),(11,.d (Ip a)),(2,.d (.func (.func 50) [] [])),(1,.d (Ip b)),(0,.d (Ip a))]) (λ_=>[]) (λi=>a.length-i) 0 (λ_=>rfl) ⟨⟨AA _,AA _⟩,rfl⟩ (.refl _ _) ⟨rfl,rfl,rfl,rfl,rfl,rfl,trivial⟩ trivial ?_
 rintro i ⟨⟨hi,hi2⟩,hc⟩
 rw[<-hc]
 refine Fw [] [] ?_
 by_cases hil:i<a.length
 ·have hx:=Ab hil
  rw[AO hil]at hc⊢
  generalize a[i]=x at hx hc
  have hxd:(a.map dE)[i]? =some (.agg [.int .i64 x.a,.int .i64 x.b]):=by rw[Al,hx];rfl
  by_cases hib:i<b.length
  ·have hy:=Ab hib
   rw[AO hib]at hc⊢
   generalize b[i]=y at hy hc
   have hyd:(b.map dE)[i]? =some (.agg [.int .i64 y.a,.int .i64 y.b]):=by rw[Al,hy];rfl
   have hcp:=K7 x y
   rw[Cg]at hc⊢
   by_cases h0:BR x y=0
   ·rw[if_pos h0]at hc⊢
    rw[h0]at hcp
    (conv=>whnf)
    (repeat' ((first|refine A6 ?_ ?_|refine Bq hxd rfl ?_|refine Bq hyd rfl ?_|refine A8 rfl hcp ?_|refine DD tab rfl hcp rfl ?_|refine nx ?_|refine AX (λ_=>?_) (λ_=>?_)|exact Bj)<;>conv=>whnf))
    exact⟨i+1,_,_,⟨⟨by omega,by omega⟩,rfl⟩,.refl _ _,⟨rfl,rfl,rfl,rfl,rfl,rfl,trivial⟩,trivial,by omega⟩
   ·rw[if_neg h0]
    generalize BR x y=z at hcp h0
    (conv=>whnf)
    (repeat' ((first|refine A6 ?_ ?_|refine Bq hxd rfl ?_|refine Bq hyd rfl ?_|refine A8 rfl hcp ?_|refine DD tab rfl hcp rfl ?_|refine nx ?_|refine AX (λ_=>?_) (λ_=>?_)|exact Bj)<;>conv=>whnf))
    exact rfl
  ·have hbe:b.drop i=[]:=B7 (by omega)
   rw[hbe]
   unfold CB
   (conv=>whnf)
   (repeat' ((first|refine A6 ?_ ?_|refine Bq hxd rfl ?_|refine nx ?_|refine AX (λ_=>?_) (λ_=>?_)|exact Bj)<;>conv=>whnf))
   exact rfl
 ·have hae:a.drop i=[]:=B7 (by omega)
  rw[hae]
  by_cases hib:i<b.length
  ·rw[AO hib]
   unfold CB
   have hlt:a.length<b.length:=by omega
   ((conv=>whnf);repeat' ((first|refine odw ?_|refine nx ?_|refine AX (λ_=>?_) (λ_=>?_))<;>conv=>whnf))
   exact rfl
  ·have hbe:b.drop i=[]:=B7 (by omega)
   rw[hbe]
   unfold CB
   have hlt:¬a.length<b.length:=by omega
   ((conv=>whnf);repeat' ((first|refine odw ?_|refine nx ?_|refine AX (λ_=>?_) (λ_=>?_))<;>conv=>whnf))
   exact rfl
theorem Vf(x:Int)(l:List Int):LV (x::l)=if x=0 then LV l else x:=rfl
theorem Vc(l:List Int)(hm:l.length<=100):Pure C1 100 [D1 l] (λy=>y=.int .i64 (LV l)):=by
 have hdl:(l.map dI).length=l.length:=Ac _
 refine CI Tryz.func100 Tryz.ntmps100 [] [] ?_
 ((conv=>whnf);repeat' ((first|refine odw ?_|refine nx ?_|refine AX (λ_=>?_) (λ_=>?_))<;>conv=>whnf))
 refine BK (ι:=Nat) (λi=>i<=l.length/\LV (l.drop i)=LV l) (λi=>[(8,.d (.int .i64 i)),(7,.d (.int .i64 (l.map dI).length)),(6,.d (D1 l)),(3,.d (.int .i64 0))]) (λ_=>[]) (λi=>l.length-i) 0 (λ_=>rfl) ⟨AA _,rfl⟩ (.refl _ _) ⟨rfl,rfl,rfl,rfl,trivial⟩ trivial ?_
 rintro i ⟨hi,hc⟩
 rw[<-hc]
 refine Fw [] [] ?_
 by_cases hil:i<l.length
 ·have hx:=Ab hil
  rw[AO hil,Vf]
  generalize l[i]=x at hx
  have hxd:(l.map dI)[i]? =some (.int .i64 x):=by rw[Al,hx];rfl
  by_cases h0:x=0
  ·rw[if_pos h0]
   (conv=>whnf)
   (repeat' ((first|refine A6 ?_ ?_|refine Bq hxd rfl ?_|refine nx ?_|refine AX (λ_=>?_) (λ_=>?_)|exact Bj)<;>conv=>whnf))
   exact⟨i+1,_,_,⟨by omega,rfl⟩,.refl _ _,⟨rfl,rfl,rfl,rfl,trivial⟩,trivial,by omega⟩
  ·rw[if_neg h0]
   (conv=>whnf)
   (repeat' ((first|refine A6 ?_ ?_|refine Bq hxd rfl ?_|refine nx ?_|refine AX (λ_=>?_) (λ_=>?_)|exact Bj)<;>conv=>whnf))
   exact rfl
 ·rw[show l.drop i=[]from B7 (by omega)]
  ((conv=>whnf);repeat' ((first|refine odw ?_|refine nx ?_|refine AX (λ_=>?_) (λ_=>?_))<;>conv=>whnf))
  exact rfl
def UU:List (Nat×Plan):=[(1,.leaf [0,1,0,0,1,0,2,0,1,0,1,2,0,1,0,0,1,0,2,0,1,0,1,2,6,2,0] [0,3,7,9,12,15,19,21,1,2,4,5,8,10,13,14,16,17,20,22,6,11,18,23,24,25,26] [0,1,3,0,8,24,63,0,128,0,512,2047,0,4096,12288,0,32768,98304,262143,0,524288,0,2097152,8388607,16777215,33554431,67108863])]
def Xs:List FuncId:=[101,141,142,100]
set_option maxHeartbeats 4000000 in
theorem LP(p q:Pt)(h1:p.labels.length<=9000000000000000000)(h2:q.labels.length<=9000000000000000000)(h3:p.edges.length<=9000000000000000000)(h4:q.edges.length<=9000000000000000000):
  Pure C1 99 [Fv p,Fv q] (λy=>y=.int .i64 (B9 p q)):=by
 have g1:(p.labels.map dI).length=p.labels.length:=Ac _
 have g2:(q.labels.map dI).length=q.labels.length:=Ac _
 have g3:(p.edges.map dE).length=p.edges.length:=Ac _
 have g4:(q.edges.map dE).length=q.edges.length:=Ac _
 have c1:=Et (p.labels.map dI).length (q.labels.map dI).length
 have c2:=LB p.labels q.labels h1 h2
 have c3:=Et (p.edges.map dE).length (q.edges.map dE).length
 have c4:=KM p.edges q.edges h3 h4
 have co:=Vc [BV (p.labels.map dI).length (q.labels.map dI).length,CB BV p.labels q.labels,BV (p.edges.map dE).length (q.edges.map dE).length,CB BR p.edges q.edges] (by simp)
 have e:LV [BV (p.labels.map dI).length (q.labels.map dI).length,CB BV p.labels q.labels,BV (p.edges.map dE).length (q.edges.map dE).length,CB BR p.edges q.edges]=B9 p q:=by unfold B9;rw[g1,g2,g3,g4]
 rw[e]at co
 refine CI Tryz.func99 Tryz.ntmps99 Xs UU ?_
 (conv=>whnf)
 (repeat' ((first|refine A6 ?_ ?_|refine DD tab rfl c1 rfl ?_|refine DD tab rfl c2 rfl ?_|refine DD tab rfl c3 rfl ?_|refine DD tab rfl c4 rfl ?_|refine DD tab rfl co rfl ?_|refine nx ?_|refine AX (λ_=>?_) (λ_=>?_)|exact Bj)<;>conv=>whnf))
 exact rfl
end Go.Proofs.YtjejpdfldmempaaGreatDoor
end
