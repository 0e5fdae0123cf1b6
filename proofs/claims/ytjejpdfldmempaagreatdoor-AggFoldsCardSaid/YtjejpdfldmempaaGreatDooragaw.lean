/- Merged: Txi Lsr Agc Srr Trw Cpc Cpd. -/
import Derived.Test.YtjejpdfldmempaaGreatDooragas
import Derived.Test.YtjejpdfldmempaaGreatDooragav
import Derived.Test.YtjejpdfldmempaaGreatDooragat
import Derived.Shelf.SlSortCmp.WholeK
import Derived.Test.YtjejpdfldmempaaGreatDoorRows
import Derived.Test.YtjejpdfldmempaaGreatDooragau
section
namespace Go.Gr
open Go
theorem Ia {s:UInt8}:∀{u v x y:List UInt8},u++s::x=v++s::y->s∉u->s∉v->u=v/\x=y
 |[],[],_,_,h,_,_=>⟨rfl,by simpa using h⟩
 |
  [],b::v,_,_,h,_,hv=>by
  simp only[AR,A9,Co]at h
  exact absurd (by rw[h.1];exact List.mem_cons_self) hv
 |
  a::u,[],_,_,h,hu,_=>by
  simp only[AR,A9,Co]at h
  exact absurd (by rw[<-h.1];exact List.mem_cons_self) hu
 |
  a::u,b::v,_,_,h,hu,hv=>by
  simp only[A9,Co]at h
  obtain⟨h1,h2⟩:=Ia h.2 (λhm=>hu (AK _ hm)) (λhm=>hv (AK _ hm))
  exact⟨by rw[h.1,h1],h2⟩
theorem Mo {s:UInt8}:∀{xs ys:List (List UInt8)},(∀x∈xs,x≠[]/\s∉x)->(∀x∈ys,x≠[]/\s∉x)->Lib.join xs [s]=Lib.join ys [s]->xs=ys
 |[],[],_,_,_=>rfl
 |[],[y],_,hy,h=>by rw[Lib.join_nil,Lib.join_one]at h;exact absurd h.symm (hy y (.head _)).1
 |[],y::z::r,_,_,h=>by rw[Lib.join_nil,EK]at h;simp at h
 |[x],[],hx,_,h=>by rw[Lib.join_nil,Lib.join_one]at h;exact absurd h (hx x (.head _)).1
 |[x],[y],_,_,h=>by rw[Lib.join_one,Lib.join_one]at h;rw[h]
 |
  [x],y::z::r,hx,_,h=>by
  rw[Lib.join_one,EK]at h
  exact absurd (by rw[h];simp) (hx x (.head _)).2
 |x::z::r,[],_,_,h=>by rw[Lib.join_nil,EK]at h;simp at h
 |
  x::z::r,[y],_,hy,h=>by
  rw[Lib.join_one,EK]at h
  exact absurd (by rw[<-h];simp) (hy y (.head _)).2
 |
  x::z::r,y::z'::r',hx,hy,h=>by
  rw[EK,EK]at h
  obtain⟨h1,h2⟩:=Ia h (hx x (.head _)).2 (hy y (.head _)).2
  have:=Mo (xs:=z::r) (ys:=z'::r') (λa ha=>hx a (.tail _ ha)) (λa ha=>hy a (.tail _ ha)) h2
  rw[h1,this]
theorem Yw(n:Nat) {s:UInt8}(h:s.toNat<48\/57<s.toNat):s∉Lib.decDigits n:=λhm=>by
 have:=VF n s hm
 omega
theorem Ll {n:Int}(h:0<=n):Lib.itoa n=Lib.decDigits n.toNat:=by
 obtain⟨k,rfl⟩:=Ch h
 rw[Qm];rfl
theorem Mp {a b:Int}(ha:0<=a)(hb:0<=b)(h:Lib.itoa a=Lib.itoa b):a=b:=by
 rw[Ll ha,Ll hb]at h
 have:=congrArg val h
 rw[Un,Un]at this
 omega
theorem Gj {n:Int}(h:0<=n) {s:UInt8}(hs:s.toNat<48\/57<s.toNat):s∉Lib.itoa n:=by rw[Ll h];exact Yw _ hs
theorem VC {x y:Edg}(hx:0<=x.a/\0<=x.b)(hy:0<=y.a/\0<=y.b)(h:HG x=HG y):x=y:=by
 obtain⟨h1,h2⟩:=Ia h (Gj hx.1 (by decide)) (Gj hy.1 (by decide))
 have e1:=Mp hx.1 hy.1 h1
 have e2:=Mp hx.2 hy.2 h2
 obtain⟨a,b⟩:=x
 obtain⟨c,d⟩:=y
 simp only at e1 e2
 rw[e1,e2]
theorem VB {x:Edg}(hx:0<=x.a/\0<=x.b) {s:UInt8}(hs:s.toNat<45\/57<s.toNat):s∉HG x:=by
 unfold HG
 intro hm
 rcases Af.1 hm with h|h
 ·exact Gj hx.1 (by omega) h
 ·rcases Ad.1 h with h|h
  ·subst h;revert hs;decide
  ·exact Gj hx.2 (by omega) h
theorem Ql {s t:UInt8}(hst:s≠t):∀{xs:List (List UInt8)},(∀x∈xs,s∉x)->s∉Lib.join xs [t]
 |[],_=>by rw[Lib.join_nil];simp
 |[x],h=>by rw[Lib.join_one];exact h x (.head _)
 |
  x::y::r,h=>by
  rw[EK]
  intro hm
  rcases Af.1 hm with h1|h1
  ·exact h x (.head _) h1
  ·rcases Af.1 h1 with h2|h2
   ·exact hst (by simpa using h2)
   ·exact Ql hst (λz hz=>h z (.tail _ hz)) h2
theorem IH {α β:Type} {f:α->β}:∀{l r:List α},(∀x∈l,∀y∈r,f x=f y->x=y)->l.map f=r.map f->l=r
 |[],[],_,_=>rfl
 |[],y::r,_,h=>by simp at h
 |x::l,[],_,h=>by simp at h
 |
  x::l,y::r,hf,h=>by
  simp only[Am,Co]at h
  rw[hf x (.head _) y (.head _) h.1,IH (λa ha b hb=>hf a (.tail _ ha) b (.tail _ hb)) h.2]
def Pd(p:Pt):Prop:=(∀x∈p.labels,0<=x)/\∀e∈p.edges,0<=e.a/\0<=e.b
theorem PO {p q:Pt}(hp:Pd p)(hq:Pd q)(h:Ep p=Ep q):p=q:=by
 unfold Ep at h
 have hd:∀{p:Pt},Pd p->(124:UInt8)∉Lib.join (p.labels.map Lib.itoa) [44]:=λhp=>Ql (by decide) λx hx=>by
  obtain⟨n,hn,rfl⟩:=Av.1 hx
  exact Gj (hp.1 n hn) (by decide)
 have hn:∀n:Int,0<=n->Lib.itoa n≠[]:=λn hn=>by rw[Ll hn];exact YT _
 obtain⟨h1,h2⟩:=Ia h (hd hp) (hd hq)
 have g1:∀{p:Pt},Pd p->∀x∈p.labels.map Lib.itoa,x≠[]/\(44:UInt8)∉x:=λhp x hx=>by
  obtain⟨n,hm,rfl⟩:=Av.1 hx
  exact⟨hn n (hp.1 n hm),Gj (hp.1 n hm) (by decide)⟩
 have g2:∀{p:Pt},Pd p->∀x∈p.edges.map HG,x≠[]/\(44:UInt8)∉x:=λhp x hx=>by
  obtain⟨e,hm,rfl⟩:=Av.1 hx
  exact⟨by unfold HG;simp,VB (hp.2 e hm) (by decide)⟩
 have e1:=IH (λa ha b hb=>Mp (hp.1 a ha) (hq.1 b hb)) (Mo (g1 hp) (g1 hq) h1)
 have e2:=IH (λa ha b hb=>VC (hp.2 a ha) (hq.2 b hb)) (Mo (g2 hp) (g2 hq) h2)
 obtain⟨a,b⟩:=p
 obtain⟨c,d⟩:=q
 simp only at e1 e2
 rw[e1,e2]
end Go.Gr
namespace Go.Proofs.YtjejpdfldmempaaGreatDoor
open Go Go.Sx Go.RowKit Go.Reg Go.Gr
def Hf(m:List (ByteArray×RowV)):List (ByteArray×(Pt×Int)):=m.map λx=>(x.1,(x.2.p,x.2.n))
theorem Nx(m:List (ByteArray×RowV))(k:ByteArray):Reg.get (Hf m) k=(Reg.get m k).map λr=>(r.p,r.n):=by
 unfold Reg.get Hf
 rw[List.find?_map,Option.map_map,Option.map_map]
 rfl
theorem Nw(m:List (ByteArray×RowV))(k:ByteArray)(r:RowV):Hf (put m k r)=put (Hf m) k (r.p,r.n):=by
 have e:(Hf m).map (·.1)=m.map (·.1):=by unfold Hf;rw[Np];rfl
 unfold put
 rw[e]
 split
 ·unfold Hf;rw[EN]
 ·unfold Hf;rw[AZ];rfl
def Ew(l:List (Pt×Int))(m:List (ByteArray×RowV)):Prop:=TabIs B9 (λp=>bs (Ep p)) Pd (Hf m) l
theorem Fj:Ew [] []:=TabIs.nil
theorem Uw {l:List (Pt×Int)} {m:List (ByteArray×RowV)}(t:Ew l m) {p:Pt}(hp:Pd p)(n:Int) {r:RowV}(hr:Reg.get m (bs (Ep p))=some r):r.p=p/\Ew (BS B9 l p n) (put m (bs (Ep p)) {r with n:=r.n+n}):=by
 obtain⟨h1,h2⟩:=(TabIs.add EX (λp q hp hq e=>PO hp hq (VM e)) t hp n).1 (r.p,r.n) (by rw[Nx,hr];rfl)
 refine⟨h1,?_⟩
 unfold Ew
 rw[Nw]
 simp only at h1
 rw[h1]
 exact h2
theorem Ux {l:List (Pt×Int)} {m:List (ByteArray×RowV)}(t:Ew l m) {p:Pt}(hp:Pd p) {r:RowV}(h1:r.p=p)(hr:Reg.get m (bs (Ep p))=none):Ew (BS B9 l p r.n) (put m (bs (Ep p)) r):=by
 have h2:=(TabIs.add EX (λp q hp hq e=>PO hp hq (VM e)) t hp r.n).2 (by rw[Nx,hr];rfl)
 unfold Ew
 rw[Nw,h1]
 exact h2
theorem Pw {l:List (Pt×Int)} {m:List (ByteArray×RowV)}(t:Ew l m) {x:ByteArray×RowV}(hx:x∈m):(x.2.p,x.2.n)∈l:=t.perm.mem_iff.1 (Av.2 ⟨_,BW hx,rfl⟩)
end Go.Proofs.YtjejpdfldmempaaGreatDoor
end
section
namespace Go.Proofs
open Go.Shelf
def Tryz.sortR_ren:Go.Shelf.Ren:=⟨λ|6=>97|15=>104|14=>140|28=>153|29=>154|20=>202|21=>203|22=>204|23=>205|24=>206|25=>207|26=>208|27=>209|46=>242|47=>211|48=>212|49=>243|50=>244|57=>258|n=>n,λ|22=>97|24=>100|25=>168|3=>3|39=>177|0=>0|53=>184|55=>186|4=>4|46=>218|45=>217|50=>222|5=>5|9=>9|66=>281|70=>285|76=>313|77=>138|n=>n,λ|n=>n⟩
theorem Tryz.sortR:Go.Proofs.SlLaysF0.n6 Tryz.prog Tryz.sortR_ren:={
 mixed:=by kernel_rfl
 f6:=⟨Tryz.f97.name,by decide,Tryz.func97.trans (congrArg some (by kernel_rfl))⟩
 f14:=⟨Tryz.f140.name,by decide,Tryz.func140.trans (congrArg some (by kernel_rfl))⟩
 f15:=Tryz.func104.trans (congrArg some (by kernel_rfl))
 f20:=⟨Tryz.f202.name,by decide,Tryz.func202.trans (congrArg some (by kernel_rfl))⟩
 f21:=⟨Tryz.f203.name,by decide,Tryz.func203.trans (congrArg some (by kernel_rfl))⟩
 f22:=⟨Tryz.f204.name,by decide,Tryz.func204.trans (congrArg some (by kernel_rfl))⟩
 f23:=⟨Tryz.f205.name,by decide,Tryz.func205.trans (congrArg some (by kernel_rfl))⟩
 f24:=⟨Tryz.f206.name,by decide,Tryz.func206.trans (congrArg some (by kernel_rfl))⟩
 f25:=⟨Tryz.f207.name,by decide,Tryz.func207.trans (congrArg some (by kernel_rfl))⟩
 f26:=⟨Tryz.f208.name,by decide,Tryz.func208.trans (congrArg some (by kernel_rfl))⟩
 f27:=⟨Tryz.f209.name,by decide,Tryz.func209.trans (congrArg some (by kernel_rfl))⟩
 f28:=Tryz.func153.trans (congrArg some (by kernel_rfl))
 f29:=Tryz.func154.trans (congrArg some (by kernel_rfl))
 f46:=⟨Tryz.f242.name,by decide,Tryz.func242.trans (congrArg some (by kernel_rfl))⟩
 f47:=Tryz.func211.trans (congrArg some (by kernel_rfl))
 f48:=Tryz.func212.trans (congrArg some (by kernel_rfl))
 f49:=⟨Tryz.f243.name,by decide,Tryz.func243.trans (congrArg some (by kernel_rfl))⟩
 f50:=⟨Tryz.f244.name,by decide,Tryz.func244.trans (congrArg some (by kernel_rfl))⟩
 f57:=⟨Tryz.f258.name,by decide,Tryz.func258.trans (congrArg some (by kernel_rfl))⟩
 t0:=Tryz.underlying0
 a0:=Tryz.isAgg0
 z0:=Tryz.sizeOf0
 v0:=Tryz.zeroValue0
 t3:=Tryz.underlying3
 a3:=Tryz.isAgg3
 z3:=Tryz.sizeOf3
 v3:=Tryz.zeroValue3
 t4:=Tryz.underlying4
 a4:=Tryz.isAgg4
 z4:=Tryz.sizeOf4
 v4:=Tryz.zeroValue4
 t5:=Tryz.underlying5
 a5:=Tryz.isAgg5
 z5:=Tryz.sizeOf5
 v5:=Tryz.zeroValue5
 t9:=Tryz.underlying9
 a9:=Tryz.isAgg9
 z9:=Tryz.sizeOf9
 v9:=Tryz.zeroValue9
 t22:=Tryz.underlying97
 a22:=Tryz.isAgg97
 z22:=Tryz.sizeOf97
 v22:=Tryz.zeroValue97
 t25:=Tryz.underlying168
 a25:=Tryz.isAgg168
 z25:=Tryz.sizeOf168
 v25:=Tryz.zeroValue168
 t39:=Tryz.underlying177
 a39:=Tryz.isAgg177
 z39:=Tryz.sizeOf177
 v39:=Tryz.zeroValue177
 t45:=Tryz.underlying217
 a45:=Tryz.isAgg217
 z45:=Tryz.sizeOf217
 v45:=Tryz.zeroValue217
 t46:=Tryz.underlying218
 a46:=Tryz.isAgg218
 z46:=Tryz.sizeOf218
 v46:=Tryz.zeroValue218
 t50:=Tryz.underlying222
 a50:=Tryz.isAgg222
 z50:=Tryz.sizeOf222
 v50:=Tryz.zeroValue222
 t53:=Tryz.underlying184
 a53:=Tryz.isAgg184
 z53:=Tryz.sizeOf184
 v53:=Tryz.zeroValue184
 t55:=Tryz.underlying186
 a55:=Tryz.isAgg186
 z55:=Tryz.sizeOf186
 v55:=Tryz.zeroValue186
 t66:=Tryz.underlying281
 a66:=Tryz.isAgg281
 z66:=Tryz.sizeOf281
 v66:=Tryz.zeroValue281
 t70:=Tryz.underlying285
 a70:=Tryz.isAgg285
 z70:=Tryz.sizeOf285
 v70:=Tryz.zeroValue285
 t76:=Tryz.underlying313
 a76:=Tryz.isAgg313
 z76:=Tryz.sizeOf313
 v76:=Tryz.zeroValue313
 t77:=Tryz.underlying138
 a77:=Tryz.isAgg138
 z77:=Tryz.sizeOf138
 v77:=Tryz.zeroValue138}
end Go.Proofs
end
section
namespace Go.Proofs.YtjejpdfldmempaaGreatDoor
open Go.RowKit Go.Reg Go.Gr Go.Sort
theorem YB {n:Int}(h:-9223372036854775808<=n/\n<=9223372036854775807):wrap64 n=n:=by unfold wrap64;omega
abbrev I7(n:Int):List Value:=[.int .i64 n]
set_option maxRecDepth 100000 in
theorem Ox(v1 v2:Value)(l r:List Int)(W:World)(h1:Dt 1 I7 W v1 l)(h2:Dt 1 I7 W v2 r):Calls Tryz.prog 141 #[v1,v2] W λe w'=>e=.returned (.int .i64 (CB BV l r))/\W=w':=by
 obtain⟨a1,c1,rfl,hm1,hc1⟩:=h1
 obtain⟨a2,c2,rfl,hm2,hc2⟩:=h2
 have HC1:=Eh hc1
 have HC2:=Eh hc2
 have HM1:=Eh hm1
 have HM2:=Eh hm2
 clear hc1 hc2 hm1 hm2
 go_enter Tryz.func141,Tryz.ntmps141
 go_wp2_with fail
 go_loopg [11] l.length (λg s11 wr=>Hid (∃i:Nat,s11=.int .i64 i/\g=l.length-i/\(i<=l.length/\i<=r.length)/\W=wr/\CB BV (l.drop i) (r.drop i)=CB BV l r))
 case atStart=>exact Eh ⟨0,rfl,rfl,⟨AA _,AA _⟩,rfl,rfl⟩
 case round=>
  obtain⟨i,rfl,rfl,⟨hi,hi2⟩,rfl,hcm⟩:=hrel.out
  clear hrel
  by_cases hlt:i<l.length
  ·have hx:l[i]? =some l[i]:=Ab hlt
   obtain⟨b,o,rfl,hcell⟩:=HC1.out i _ hx
   have g0:=hcell 0 _ rfl
   rw[IN,Nat.mul_one]at g0
   have hlt':decide (i<l.length)=true:=by simpa using hlt
   rw[AO hlt]at hcm
   generalize l[i]=x at g0 hcm
   clear hcell hx
   by_cases hrt:i<r.length
   ·have hge:decide (r.length<=i)=false:=by simpa using hrt
    have hy:r[i]? =some r[i]:=Ab hrt
    obtain⟨b2,o2,rfl,hcell2⟩:=HC2.out i _ hy
    have g1:=hcell2 0 _ rfl
    rw[IN,Nat.mul_one]at g1
    rw[AO hrt]at hcm
    generalize r[i]=y at g1 hcm
    clear hcell2 hy
    rw[Cg]at hcm
    have HCM:=Eh hcm
    have HL:=Eh hlt
    have HR:=Eh hrt
    clear hcm hi hi2 hlt hrt
    by_cases h0:BV x y=0
    ·have hne:(BV x y !=0)=false:=by simp[h0]
     have H0:=Eh h0
     clear h0
     go_wp2_with (go_at_call 101;refine(E9 _ _ _).mono ?_;rintro e w' ⟨rfl,rfl⟩)
     go_roundg (l.length- (i+1))
     case measure=>have:=HL.out;omega
     case rel=>
      have hl:=HL.out
      have hr:=HR.out
      have hM:=HM1.out
      refine Eh ⟨i+1,by simp only[maxLen]at hM;rw[YB (by omega)];simp,rfl,⟨by omega,by omega⟩,rfl,?_⟩
      have:=HCM.out
      rwa [if_pos H0.out]at this
    ·have hne:(BV x y !=0)=true:=by simpa using h0
     have H0:=Eh h0
     clear h0
     go_wp2_with (go_at_call 101;refine(E9 _ _ _).mono ?_;rintro e w' ⟨rfl,rfl⟩)
     go_ret
     have:=HCM.out
     rw[if_neg H0.out]at this
     rw[<-this]
     exact⟨rfl,rfl⟩
   ·have hge:decide (r.length<=i)=true:=by simpa using hrt
    rw[EO (show r.length<=i by omega)]at hcm
    have HCM:=Eh hcm
    clear hcm hi hi2 hrt
    go_wp2_with fail
    go_ret
    rw[<-HCM.out]
    exact⟨rfl,rfl⟩
  ·have hlt':decide (i<l.length)=false:=by simpa using hlt
   rw[EO (show l.length<=i by omega)]at hcm
   by_cases hrt:l.length<r.length
   ·have hlr:decide (l.length<r.length)=true:=by simpa using hrt
    obtain⟨z,t,hz⟩:∃z t,r.drop i=z::t:=by
     have:i<r.length:=by omega
     exact⟨_,_,AO this⟩
    rw[hz]at hcm
    have HCM:=Eh hcm
    clear hcm hi hi2 hlt hrt hz
    go_wp2_with fail
    go_ret
    rw[<-HCM.out]
    exact⟨rfl,rfl⟩
   ·have hlr:decide (l.length<r.length)=false:=by simpa using hrt
    rw[EO (show r.length<=i by omega)]at hcm
    have HCM:=Eh hcm
    clear hcm hi hi2 hlt hrt
    go_wp2_with fail
    go_ret
    rw[<-HCM.out]
    exact⟨rfl,rfl⟩
theorem Tf(W:World)(q:Nat)(os:Array Obj):Tch [] W (grow (W.drewN q) os):=
 ⟨rfl,rfl,rfl,by simp[grow],λk hk _=>by simp[grow,FR hk]⟩
theorem Yt {W wr:World} {q:Nat} {os:Array Obj} {o:Obj}(h:wr=grow (W.drewN q) os):∃q' os',wr.alloc o=grow (W.drewN q') os':=
 ⟨q,_,by rw[h,alloc_eq_grow,grow_grow]⟩
theorem V1 {W wr:World} {q q':Nat} {os os':Array Obj} {o p:Obj}(h:wr=grow (W.drewN q) os):∃q2 os2,grow (((wr.alloc o).alloc p).drewN q') os'=grow (W.drewN q2) os2:=
 ⟨q+q',_,by
  rw[h,alloc_eq_grow,alloc_eq_grow,grow_grow,grow_grow]
  show grow (grow ((W.drewN q).drewN q') _) os'=_
  rw[grow_grow,World.drewN_drewN]⟩
set_option maxRecDepth 100000 in
set_option maxHeartbeats 1000000 in
theorem Oy(v1 v2:Value)(l r:List Edg)(W:World)(h1:Dt 2 Gm W v1 l)(h2:Dt 2 Gm W v2 r):Calls Tryz.prog 142 #[v1,v2,.func (.func 50) #[] #[]] W λe w'=>e=.returned (.int .i64 (CB BR l r))/\∃q os,w'=grow (W.drewN q) os:=by
 obtain⟨a1,c1,rfl,hm1,hc1⟩:=h1
 obtain⟨a2,c2,rfl,hm2,hc2⟩:=h2
 have HC1:=Eh hc1
 have HC2:=Eh hc2
 have HM1:=Eh hm1
 have HM2:=Eh hm2
 clear hc1 hc2 hm1 hm2
 go_enter Tryz.func142,Tryz.ntmps142
 go_wp2_with fail
 go_loopg [13] l.length (λg s13 wr=>Hid (∃i:Nat,s13=.int .i64 i/\g=l.length-i/\(i<=l.length/\i<=r.length)/\(∃q os,wr=grow (W.drewN q) os)/\CB BR (l.drop i) (r.drop i)=CB BR l r))
 case atStart=>exact Eh ⟨0,rfl,rfl,⟨AA _,AA _⟩,⟨0,#[],by rw[grow_empty];rfl⟩,rfl⟩
 case round=>
  obtain⟨i,rfl,rfl,⟨hi,hi2⟩,⟨q,os,hwr⟩,hcm⟩:=hrel.out
  clear hrel
  have ht:=Tf W q os
  by_cases hlt:i<l.length
  ·have hx:l[i]? =some l[i]:=Ab hlt
   obtain⟨b,o,rfl,hcell⟩:=HC1.out i _ hx
   have g0:=E1 ht (hcell 0 _ rfl)
   have g1:=E1 ht (hcell 1 _ rfl)
   rw[<-hwr]at g0 g1
   rw[IN]at g0
   have hlt':decide (i<l.length)=true:=by simpa using hlt
   rw[AO hlt]at hcm
   generalize l[i]=x at g0 g1 hcm
   clear hcell hx
   by_cases hrt:i<r.length
   ·have hge:decide (r.length<=i)=false:=by simpa using hrt
    have hy:r[i]? =some r[i]:=Ab hrt
    obtain⟨b2,o2,rfl,hcell2⟩:=HC2.out i _ hy
    have g2:=E1 ht (hcell2 0 _ rfl)
    have g3:=E1 ht (hcell2 1 _ rfl)
    rw[<-hwr]at g2 g3
    rw[IN]at g2
    rw[AO hrt]at hcm
    generalize r[i]=y at g2 g3 hcm
    clear hcell2 hy
    rw[Cg]at hcm
    have HCM:=Eh hcm
    have HL:=Eh hlt
    have HR:=Eh hrt
    have HWR:=Eh hwr
    clear hcm hi hi2 hlt hrt hwr ht
    have g2':=E1 (Tch.alloc wr (Obj.cells #[Value.int .i64 x.a,Value.int .i64 x.b] 103) []) g2
    have g3':=E1 (Tch.alloc wr (Obj.cells #[Value.int .i64 x.a,Value.int .i64 x.b] 103) []) g3
    by_cases h0:BR x y=0
    ·have hne:(BR x y !=0)=false:=by simp[h0]
     have H0:=Eh h0
     clear h0
     go_wp2_with (go_at_call 50;refine(IE x y _).mono ?_;rintro e w' ⟨rfl,q',os',rfl⟩)
     go_roundg (l.length- (i+1))
     case measure=>have:=HL.out;omega
     case rel=>
      have hl:=HL.out
      have hr:=HR.out
      have hM:=HM1.out
      refine Eh ⟨i+1,by simp only[maxLen]at hM;rw[YB (by omega)];simp,rfl,⟨by omega,by omega⟩,V1 HWR.out,?_⟩
      have:=HCM.out
      rwa [if_pos H0.out]at this
    ·have hne:(BR x y !=0)=true:=by simpa using h0
     have H0:=Eh h0
     clear h0
     go_wp2_with (go_at_call 50;refine(IE x y _).mono ?_;rintro e w' ⟨rfl,q',os',rfl⟩)
     go_ret
     have:=HCM.out
     rw[if_neg H0.out]at this
     rw[<-this]
     exact⟨rfl,V1 HWR.out⟩
   ·have hge:decide (r.length<=i)=true:=by simpa using hrt
    rw[EO (show r.length<=i by omega)]at hcm
    have HCM:=Eh hcm
    have HWR:=Eh hwr
    clear hcm hi hi2 hrt hwr ht
    go_wp2_with fail
    go_ret
    rw[<-HCM.out]
    exact⟨rfl,Yt HWR.out⟩
  ·have hlt':decide (i<l.length)=false:=by simpa using hlt
   rw[EO (show l.length<=i by omega)]at hcm
   by_cases hrt:l.length<r.length
   ·have hlr:decide (l.length<r.length)=true:=by simpa using hrt
    obtain⟨z,t,hz⟩:∃z t,r.drop i=z::t:=by
     have:i<r.length:=by omega
     exact⟨_,_,AO this⟩
    rw[hz]at hcm
    have HCM:=Eh hcm
    have HWR:=Eh hwr
    clear hcm hi hi2 hlt hrt hz hwr ht
    go_wp2_with fail
    go_ret
    rw[<-HCM.out]
    exact⟨rfl,_,_,HWR.out⟩
   ·have hlr:decide (l.length<r.length)=false:=by simpa using hrt
    rw[EO (show r.length<=i by omega)]at hcm
    have HCM:=Eh hcm
    have HWR:=Eh hwr
    clear hcm hi hi2 hlt hrt hwr ht
    go_wp2_with fail
    go_ret
    rw[<-HCM.out]
    exact⟨rfl,_,_,HWR.out⟩
set_option maxRecDepth 100000 in
theorem Yi(s:Nat)(a b c d:Int)(W:World)(c0:W.cell? ⟨s,0,none⟩=some (.int .i64 a))(c1:W.cell? ⟨s,1,none⟩=some (.int .i64 b))(c2:W.cell? ⟨s,2,none⟩=some (.int .i64 c))(c3:W.cell? ⟨s,3,none⟩=some (.int .i64 d)):
  Calls Tryz.prog 100 #[.slice (some ⟨s,0,none⟩) 4 4] W λe w'=>e=.returned (.int .i64 (LV [a,b,c,d]))/\W=w':=by
 have hz:((0:Int) !=0)=false:=by simp
 by_cases ha:a=0
 ·subst ha
  by_cases hb:b=0
  ·subst hb
   by_cases hc:c=0
   ·subst hc
    by_cases hd:d=0
    ·subst hd
     go_enter Tryz.func100,Tryz.ntmps100
     go_wp2_with fail
     refine wp_loop_rounds 5 ?_
     rw[rounds_succ]
     go_wp2_with fail
     rw[rounds_succ]
     go_wp2_with fail
     rw[rounds_succ]
     go_wp2_with fail
     rw[rounds_succ]
     go_wp2_with fail
     rw[rounds_succ]
     go_wp2_with fail
     go_ret
     exact⟨rfl,rfl⟩
    ·have hd':(d !=0)=true:=by simpa using hd
     have e1:LV [0,0,0,d]=d:=by simp[LV,hd]
     rw[e1]
     clear e1 hd
     go_enter Tryz.func100,Tryz.ntmps100
     go_wp2_with fail
     refine wp_loop_rounds 4 ?_
     rw[rounds_succ]
     go_wp2_with fail
     rw[rounds_succ]
     go_wp2_with fail
     rw[rounds_succ]
     go_wp2_with fail
     rw[rounds_succ]
     go_wp2_with fail
     go_ret
     exact⟨rfl,rfl⟩
   ·have hc':(c !=0)=true:=by simpa using hc
    have e1:LV [0,0,c,d]=c:=by simp[LV,hc]
    rw[e1]
    clear e1 hc
    go_enter Tryz.func100,Tryz.ntmps100
    go_wp2_with fail
    refine wp_loop_rounds 3 ?_
    rw[rounds_succ]
    go_wp2_with fail
    rw[rounds_succ]
    go_wp2_with fail
    rw[rounds_succ]
    go_wp2_with fail
    go_ret
    exact⟨rfl,rfl⟩
  ·have hb':(b !=0)=true:=by simpa using hb
   have e1:LV [0,b,c,d]=b:=by simp[LV,hb]
   rw[e1]
   clear e1 hb
   go_enter Tryz.func100,Tryz.ntmps100
   go_wp2_with fail
   refine wp_loop_rounds 2 ?_
   rw[rounds_succ]
   go_wp2_with fail
   rw[rounds_succ]
   go_wp2_with fail
   go_ret
   exact⟨rfl,rfl⟩
 ·have ha':(a !=0)=true:=by simpa using ha
  have e1:LV [a,b,c,d]=a:=by simp[LV,ha]
  rw[e1]
  clear e1 ha
  go_enter Tryz.func100,Tryz.ntmps100
  go_wp2_with fail
  refine wp_loop_rounds 1 ?_
  rw[rounds_succ]
  go_wp2_with fail
  go_ret
  exact⟨rfl,rfl⟩
theorem Ys(W:World)(A B C:Obj)(m:Nat)(os:Array Obj):∃q os',(grow (((W.alloc A).alloc B).drewN m) os).alloc C=grow (W.drewN q) os':=by
 refine⟨m,#[A]++(#[B]++(os++#[C])),?_⟩
 rw[alloc_eq_grow,alloc_eq_grow,alloc_eq_grow]
 show grow (grow (grow (grow (W.drewN m) #[A]) #[B]) os) #[C]=_
 rw[grow_grow,grow_grow,grow_grow]
theorem Yr(W:World)(A B:Obj)(m:Nat)(os:Array Obj):∃q os',grow (((W.alloc A).alloc B).drewN m) os=grow (W.drewN q) os':=by
 refine⟨m,#[A]++(#[B]++os),?_⟩
 rw[alloc_eq_grow,alloc_eq_grow]
 show grow (grow (grow (W.drewN m) #[A]) #[B]) os=_
 rw[grow_grow,grow_grow]
theorem Lr(w:World)(cs:Array Value)(T:TypeId) {s i:Nat} {v:Value}(hs:s=w.heap.size)(h:cs[i]? =some v):(w.alloc (.cells cs T)).cell? ⟨s,i,none⟩=some v:=by
 subst hs
 simp[h]
theorem RC(W:World)(q:Nat)(os:Array Obj):GZ W.drew (grow (W.drewN q) os):=λk hk=>by
 have hk':k<W.heap.size:=hk
 show(W.heap++os)[k]? =W.heap[k]?
 exact FR hk'
theorem Du {k:Nat} {α:Type} {enc:α->List Value} {W:World} {v:Value} {l:List α}(h:Dt k enc W v l):∃a c,v=.slice a l.length c:=by
 obtain⟨a,c,h,_⟩:=h
 exact⟨a,c,h⟩
open Go.Proofs in
set_option maxRecDepth 100000 in
set_option maxHeartbeats 2000000 in
theorem PM(s1 s2 r1 r2:Value)(p q:Pt)(W:World)(h1:Dt 1 I7 W s1 p.labels)(h2:Dt 2 Gm W s2 p.edges)(h3:Dt 1 I7 W r1 q.labels)(h4:Dt 2 Gm W r2 q.edges):
  Calls Tryz.prog 99 #[.agg #[s1,s2],.agg #[r1,r2]] W λe w'=>e=.returned (.int .i64 (B9 p q))/\∃n os,w'=grow (W.drewN n) os:=by
 have ht:∀A B,Tch [] W ((W.alloc A).alloc B).drew:=λA B=>((Tch.alloc W A []).trans0 ((Tch.alloc _ B []).trans0 (Tch.drew _ [])))
 obtain⟨a1,c1,rfl⟩:=Du h1
 obtain⟨a2,c2,rfl⟩:=Du h2
 obtain⟨a3,c3,rfl⟩:=Du h3
 obtain⟨a4,c4,rfl⟩:=Du h4
 have H1:=Eh h1
 have H2:=Eh h2
 have H3:=Eh h3
 have H4:=Eh h4
 have HT:=Eh ht
 clear h1 h2 h3 h4 ht
 go_enter Tryz.func99,Tryz.ntmps99
 go_wp2_with fail
 refine Hb [101,141,142,100] [0,1,0,0,1,0,2,0,1,0,1,2,0,1,0,0,1,0,2,0,1,0,1,2,6,2,0] [0,3,7,9,12,15,19,21,1,2,4,5,8,10,13,14,16,17,20,22,6,11,18,23,24,25,26] [0,1,3,0,8,24,63,0,128,0,512,2047,0,4096,12288,0,32768,98304,262143,0,524288,0,2097152,8388607,16777215,33554431,67108863] (by kernel_rfl) (by kernel_rfl) ?_
 go_wp2_with (first|(refine BD rfl rfl rfl rfl (λ_ _=>?_))|(refine Cu rfl rfl rfl (λ_ _=>?_)))
 refine Dq rfl rfl rfl (λK1 hK1=>?_)
 go_wp2_with (go_at_call 101;refine(E9 _ _ _).mono ?_;rintro e w' ⟨rfl,rfl⟩)
 refine hK1 _ _ (GZ.refl _) ?_
 go_wp2_with (first|(refine BD rfl rfl rfl rfl (λ_ _=>?_))|(refine Cu rfl rfl rfl (λ_ _=>?_)))
 refine Dq rfl rfl rfl (λK2 hK2=>?_)
 go_wp2_with (go_at_call 141;refine(Ox _ _ _ _ _ (H1.out.keep (HT.out _ _)) (H3.out.keep (HT.out _ _))).mono ?_;rintro e w' ⟨rfl,rfl⟩)
 refine hK2 _ _ (GZ.refl _) ?_
 go_wp2_with (first|(refine BD rfl rfl rfl rfl (λ_ _=>?_))|(refine Cu rfl rfl rfl (λ_ _=>?_)))
 refine Dq rfl rfl rfl (λK3 hK3=>?_)
 go_wp2_with (go_at_call 101;refine(E9 _ _ _).mono ?_;rintro e w' ⟨rfl,rfl⟩)
 refine hK3 _ _ (GZ.refl _) ?_
 go_wp2_with (first|(refine BD rfl rfl rfl rfl (λ_ _=>?_))|(refine Cu rfl rfl rfl (λ_ _=>?_)))
 refine Dq rfl rfl rfl (λK4 hK4=>?_)
 go_wp2_with (go_at_call 142;refine(Oy _ _ _ _ _ (H2.out.keep (HT.out _ _)) (H4.out.keep (HT.out _ _))).mono ?_;rintro e w' ⟨rfl,n,os,rfl⟩)
 refine hK4 _ _ (RC _ _ _) ?_
 go_wp2_with (first|(refine BD rfl rfl rfl rfl (λ_ _=>?_))|(refine Cu rfl rfl rfl (λ_ _=>?_)))
 refine Dq rfl rfl rfl (λK5 hK5=>?_)
 go_wp2_with fail
 refine We (Yi _ (BV p.labels.length q.labels.length) (CB BV p.labels q.labels) (BV p.edges.length q.edges.length) (CB BR p.edges q.edges) _ ?c0 ?c1 ?c2 ?c3) ?m
 case c0=>exact Lr _ _ _ (by simp[grow]) rfl
 case c1=>exact Lr _ _ _ (by simp[grow]) rfl
 case c2=>exact Lr _ _ _ (by simp[grow]) rfl
 case c3=>exact Lr _ _ _ (by simp[grow]) rfl
 case m=>
  rintro e w' ⟨rfl,rfl⟩
  refine hK5 _ _ (GZ.refl _) ?_
  go_wp2_with (first|(refine BD rfl rfl rfl rfl (λ_ _=>?_))|(refine Cu rfl rfl rfl (λ_ _=>?_))|refine ET ?_)
  go_ret
  exact⟨rfl,Ys _ _ _ _ _ _⟩
set_option maxRecDepth 100000 in
theorem Tq(s1 s2 r1 r2:Value)(n m:Int)(p q:Pt)(W:World)(h1:Dt 1 I7 W s1 p.labels)(h2:Dt 2 Gm W s2 p.edges)(h3:Dt 1 I7 W r1 q.labels)(h4:Dt 2 Gm W r2 q.edges):
  Calls Tryz.prog 98 #[.agg #[s1,s2,.int .i64 n],.agg #[r1,r2,.int .i64 m]] W λe w'=>e=.returned (.int .i64 (B9 p q))/\∃n os,w'=grow (W.drewN n) os:=by
 have ht:∀A B,Tch [] W ((W.alloc A).alloc B):=λA B=>((Tch.alloc W A []).trans0 (Tch.alloc _ B []))
 obtain⟨a1,c1,rfl⟩:=Du h1
 obtain⟨a2,c2,rfl⟩:=Du h2
 obtain⟨a3,c3,rfl⟩:=Du h3
 obtain⟨a4,c4,rfl⟩:=Du h4
 have H1:=Eh h1
 have H2:=Eh h2
 have H3:=Eh h3
 have H4:=Eh h4
 have HT:=Eh ht
 clear h1 h2 h3 h4 ht
 go_enter Tryz.func98,Tryz.ntmps98
 go_wp2_with (go_at_call 99;refine(PM _ _ _ _ p q _ (H1.out.keep (HT.out _ _)) (H2.out.keep (HT.out _ _)) (H3.out.keep (HT.out _ _)) (H4.out.keep (HT.out _ _))).mono ?_;rintro e w' ⟨rfl,k,os,rfl⟩)
 go_ret
 exact⟨rfl,Yr _ _ _ _ _⟩
end Go.Proofs.YtjejpdfldmempaaGreatDoor
end
section
namespace Go.Proofs.YtjejpdfldmempaaGreatDoor
open Go.Sx Go.RowKit Go.Reg Go.Gr
def Dl(r:Pt×Int):Da:=.agg [Fv r.1,.int .i64 r.2]
theorem YW {α:Type} [Inhabited α] {d:α->Da} {enc:α->List Value} {k:Nat}(he:∀x,(enc x).length=k)(hd:∀{O:List Nat} {w:World} {l:List α} {css:List (List Value)},Ai O w (l.map d) css->css=l.map enc) {O:List Nat} {w:World} {v:Value} {l:List α}(h:RepC O w (.list k (l.map d)) [v]):Dt k enc w v l:=by
 simp only[RepC]at h
 obtain⟨a,c,css,e,hl1,hl2,hr,_,hc⟩:=h
 obtain rfl:=hd hr
 rw[Ac]at e hl1
 simp only[Co,and_true]at e
 subst e
 refine⟨a,c,rfl,CM hl1 hl2,λi x hx=>?_⟩
 rcases hc with h0|⟨b,o,rfl,_,_,hcell⟩
 ·rw[List.map_eq_nil_iff]at h0;subst h0;simp at hx
 ·refine⟨b,o,rfl,λj u hu=>?_⟩
  have hj:j<k:=by rw[<-he x];exact(Ak.1 hu).1
  have hf:=Im he l i x j hx hj
  have:=hcell (i*k+j) u (by
   rw[show(l.map enc).flatten=l.flatMap enc from by rw[List.flatMap_def],hf]
   rw[Ab (by rw[he];exact hj)]at hu
   first|exact hu|(rw[<-hu];simp))
  rw[Ev];exact this
theorem Qo {O:List Nat} {w:World}:∀{l:List Int} {css:List (List Value)},Ai O w (l.map dI) css->css=l.map I7
 |[],css,h=>by simpa only[Bp,Ai]using h
 |
  e::l,css,h=>by
  simp only[Am,Ai,dI,RepC]at h
  obtain⟨c1,c2,rfl,rfl,h⟩:=h
  rw[Qo h];rfl
theorem Zi {O:List Nat} {w:World} {v:Value} {l:List Int}(h:RepC O w (D1 l) [v]):Dt 1 I7 w v l:=YW (enc:=I7) (k:=1) (λ_=>rfl) Qo h
theorem Zj {O:List Nat} {w:World} {v:Value} {l:List Edg}(h:RepC O w (Ip l) [v]):Dt 2 Gm w v l:=YW M7 M8 h
theorem JF {O:List Nat} {w:World} {r:Pt×Int} {c:List Value}(h:RepC O w (Dl r) c):∃a b,c=[a,b,.int .i64 r.2]/\Dt 1 I7 w a r.1.labels/\Dt 2 Gm w b r.1.edges:=by
 simp only[Dl,Fv,RepC,RepCs]at h
 obtain⟨_,_,rfl,⟨c1,_,rfl,h1,c2,_,rfl,h2,rfl⟩,_,_,rfl,rfl,rfl⟩:=h
 have l1:=DU _ _ h1
 have l2:=DU _ _ h2
 obtain⟨a,rfl⟩:=DG.1 (show c1.length=1 from l1)
 obtain⟨b,rfl⟩:=DG.1 (show c2.length=1 from l2)
 exact⟨a,b,rfl,Zi h1,Zj h2⟩
open Go.Sort in
theorem Zg {α:Type} {f:α->Pt}:SWO (ltOf λx y=>B9 (f x) (f y))where
 irrefl x:=by have:=EX.self (f x);simp[ltOf];omega
 trans x y z h1 h2:=by
  simp only[ltOf,decide_eq_true_eq]at*
  exact EX.trans _ _ _ h1 h2
 ntrans x y z h1 h2:=by
  simp only[ltOf,decide_eq_false_iff_not]at*
  intro h3
  by_cases h0:B9 (f x) (f y)=0
  ·rw[(EX.eq0 _ _).1 h0]at h3;exact h2 h3
  ·exact h2 (EX.trans _ _ _ ((EX.anti (f x) (f y)).2 (by omega)) h3)
abbrev RS(O:List Nat)(w:World):={c:List Value×(Pt×Int)//RepC O w (Dl c.2) c.1}
def Nk {O:List Nat} {w:World}(x:RS O w):List Value:=x.1.1
theorem Vm(O:List Nat)(w:World)(k:Nat):RepC O w (.list k []) [.slice none 0 0]:=by
 simp only[RepC]
 exact⟨none,0,[],rfl,by simp,by unfold maxLen;omega,by simp[Ai],by simp,.inl trivial⟩
instance {O:List Nat} {w:World}:Inhabited (RS O w):=⟨⟨([.slice none 0 0,.slice none 0 0,.int .i64 0],(⟨[],[]⟩,0)),by
 simp only[Dl,Fv,RepC,RepCs]
 exact⟨[.slice none 0 0,.slice none 0 0],_,rfl,⟨[.slice none 0 0],_,rfl,Vm O w 1,[.slice none 0 0],_,rfl,Vm O w 2,rfl⟩,_,_,rfl,rfl,rfl⟩⟩⟩
theorem HE {O:List Nat} {w:World}(x:RS O w):(Nk x).length=3:=DU _ _ x.2
theorem Q2 {O:List Nat} {w:World}(x:RS O w):∀u∈Nk x,u.oneCell'=true:=by
 obtain⟨a,b,e,h1,h2⟩:=JF x.2
 obtain⟨_,_,rfl⟩:=Du h1
 obtain⟨_,_,rfl⟩:=Du h2
 intro u hu
 unfold Nk at hu
 rw[e]at hu
 simp only[Ad,Ua,or_false]at hu
 rcases hu with rfl|rfl|rfl<;>rfl
theorem PC {O:List Nat} {w:World}:∀{R:List (Pt×Int)} {css:List (List Value)},Ai O w (R.map Dl) css->∃xs:List (RS O w),xs.map Nk=css/\xs.map (λx=>x.1.2)=R
 |[],css,h=>by simp only[Bp,Ai]at h;subst h;exact⟨[],rfl,rfl⟩
 |
  r::R,css,h=>by
  simp only[Am,Ai]at h
  obtain⟨c1,c2,rfl,h1,h2⟩:=h
  obtain⟨xs,e1,e2⟩:=PC h2
  exact⟨⟨(c1,r),h1⟩::xs,by rw[Am,e1];rfl,by rw[Am,e2]⟩
theorem Pz {O:List Nat} {w:World}:∀xs:List (RS O w),Ai O w ((xs.map λx=>x.1.2).map Dl) (xs.map Nk)
 |[]=>by simp[Ai]
 |
  x::xs=>by
  simp only[Am,Ai]
  exact⟨_,_,rfl,x.2,Pz xs⟩
theorem Ml {S O:List Nat} {w w':World}(t:Tch S w w')(h:∀b∈S,b∈O):Later O w O w':=⟨t.size,λb hb hn=>t.blk b hb (λhm=>hn (h b hm)),λ_ hn _=>hn⟩
open Go.Sort in
theorem Tl(R:List (Pt×Int))(hl:R.length<=4294967296):RR C3 97 100 3 (R.map Dl) [.func (.func 98) [] []] (λ_ ds=>∃out:List (Pt×Int),ds=out.map Dl/\out.Perm R/\out.Pairwise (λa b=>¬B9 b.1 a.1<0)):=by
 intro O w v css us hs hb hO hr hk hg hus
 obtain⟨u,us',rfl,h1,h2⟩:=D7 hus
 obtain rfl:=Ee h2
 obtain⟨cs,r,rfl⟩:=h1
 simp only[RepC,Ai]at r
 obtain⟨_,_,rfl,rfl,rfl⟩:=r
 obtain⟨xs,rfl,rfl⟩:=PC hr
 have hun:∀w':World,Rep O w' (.tuple []) (.tuple #[]):=λw'=>⟨[.tuple #[]],by simp only[RepC,Ai];exact⟨[],rfl,rfl⟩,rfl⟩
 have hs2:Sl 100 3 Nk w v xs:=by
  unfold Sl at hs⊢
  rw[Ac,List.flatMap_map]at hs
  exact hs
 refine⟨by kernel_rfl,?_⟩
 rcases hs2.shape with⟨rfl,rfl⟩|⟨g,cap,rfl,hc⟩
 ·refine(AnyF.slices_SortFunc_none Tryz.sortR none 0 _ w).mono ?_
  rintro e w' ⟨rfl,rfl⟩
  exact⟨.tuple #[],.tuple [],[],[],rfl,⟨[],rfl,.refl _,.nil⟩,hs,by simp[Ai],by simp,hun _,Tch.refl _ _⟩
 ·have hgO:∀b∈[g],b∈O:=λb hb2=>hb b (by rw[A7.1 hb2];simp[Value.ownBlock])
  rw[Ac]at hl
  refine(AnyQ.slices_SortFunc Tryz.sortR 3 Tryz.isAgg100 Tryz.sizeOf100 Nk HE Q2 (λx y=>B9 x.1.2.1 y.1.2.1) (Zg (f:=λx:RS O w=>x.1.2.1)) 98 #[] g 0 cap xs.toArray w
   (enters_of Tryz.func98 (by kernel_rfl) rfl) (λm os dk hdk x y=>?_) (hs2.holdsK HE (by decide)) (hs2.lt rfl) (by simp;omega)).mono ?_
  ·obtain⟨_,hT⟩:=hs2.sorted HE (by decide) dk (by simpa using hdk) m os
   obtain⟨a,b,e1,h1,h2⟩:=JF (RepC.later (Ml hT hgO) _ _ x.2)
   obtain⟨a',b',e2,h3,h4⟩:=JF (RepC.later (Ml hT hgO) _ _ y.2)
   have e1':Nk x=_:=e1
   have e2':Nk y=_:=e2
   rw[e1',e2']
   exact Tq a b a' b' _ _ _ _ _ h1 h2 h3 h4
  ·rintro e w' ⟨rfl,d,n,os,hp,hso,rfl⟩
   obtain⟨hp1,hp2,hp3⟩:=hp
   have hd:d.size=xs.length:=by simpa using hp1
   obtain⟨hS,hT⟩:=hs2.sorted HE (by decide) d hd n os
   have hperm:d.toList.Perm xs:=by
    have e1:d.extract 0 xs.toArray.size=d:=by rw[<-hp1];exact Array.extract_size
    have e2:xs.toArray.extract 0 xs.toArray.size=xs.toArray:=Array.extract_size
    rw[e1,e2]at hp3
    exact hp3
   refine⟨.tuple #[],.tuple [],(d.toList.map λx=>x.1.2).map Dl,d.toList.map Nk,rfl,⟨_,rfl,hperm.map _,?_⟩,?_,Ai.later (Ml hT hgO) _ _ (Pz _),?_,hun _,?_⟩
   ·rw[Fy,Ct]
    intro i j hi hj hij
    have hj':j<xs.length:=by rw[<-hd];simpa using hj
    have hi':i<xs.length:=by omega
    have:=hso i j (AA _) hij (by simpa using hj')
    rw[getElem!_pos d j (by omega),getElem!_pos d i (by omega)]at this
    simpa[ltOf]using this
   ·unfold Sl at hS⊢
    rw[Ac,List.flatMap_map]
    exact hS
   ·intro x hx
    obtain⟨e,_,rfl⟩:=Av.1 hx
    exact⟨HE e,Q2 e⟩
   ·simpa[Value.ownBlock]using hT
end Go.Proofs.YtjejpdfldmempaaGreatDoor
end
section
namespace Go.Proofs.YtjejpdfldmempaaGreatDoor
open Go.Sx Go.RowKit Go.Reg Go.Gr
set_option maxRecDepth 100000
def PE(q:ByteArray×RowV):Pt×Int:=(q.2.p,q.2.n)
theorem L3(m:List (ByteArray×RowV)):(Hf m).map (·.2)=m.map PE:=by unfold Hf;rw[Np];rfl
def LR:List (Nat×Plan):=[(7,.leaf [0,0,1,2,0,0,1,2,0,0,3] [0,1,4,5,2,6,3,7,8,9,10] [0,1,3,7,0,16,48,127,255,511,1023])]
def Pf:List FuncId:=[60,61]
theorem TP:BA Tryz.prog Pf LR (Tryz.f45.body.getD .skip)=true:=by kernel_rfl
theorem Tn(vs:Array Value)(w:World):(callFunc 45 vs).run C1.P w=.ok (.enter 45 vs) w:=by kernel_rfl
theorem Fi(l:List (Pt×Int))(m:List (ByteArray×RowV))(X:List (Value×Da))(ht:Ew l m)(hl:l.length<=1000000)(hp:∀x∈l,x.1.labels.length<=1000/\x.1.edges.length<=1000):
  BH C3 45 [.own 900] (sT m X) [900] (λd σ=>d=.own 910/\σ=sT m []++[(910,.slice 100 3 (l.map Dl))]):=by
 have hml:m.length<=1000000:=by have:=ht.perm.length_eq;rw[L3,Ac]at this;omega
 have hpm:∀q∈m,q.2.p.labels.length<=1000/\q.2.p.edges.length<=1000:=λq hq=>hp _ (Pw ht hq)
 refine D9 Dc (pl:=LR) (G:=Pf) Tryz.func45 rfl Tryz.ntmps45 Tn TP (by simp) 999 rfl ?_
 intro vs
 (conv=>whnf)
 refine PU 901 rfl rfl rfl ⟨by decide,by decide,by decide⟩ rfl ?_
 intro r
 (conv=>whnf)
 refine BK (ι:=List (ByteArray×RowV)×List (Pt×Int)) (λx=>(x.2++x.1.map PE).Perm (m.map PE)/\∀q∈x.1,q∈m) (λ_=>[(12,.d (.raw (.pointer (some ⟨r,0,none⟩)))),(3,.own 3)])
  (λx=>[(3,.slice 100 3 (x.2.map Dl)),(999,.ghost vs [.own 900]),(900,.cells 106 [.own 901]),(901,(Fp En m r (.it x.1)).own)]) (λx=>x.1.length) (m,[]) (λ_=>rfl) ⟨.refl _,λq h=>h⟩ (.own 3 3 100 3 rfl rfl (.refl _ _)) ⟨rfl,rfl,trivial⟩ ⟨rfl,rfl,rfl,rfl,trivial⟩ ?_
 rintro⟨todo,done⟩ ⟨hpe,hin⟩
 refine GX Pf LR ?_
 (conv=>whnf)
 refine R2 901 r rfl rfl rfl rfl ⟨by decide,by decide,by decide⟩ rfl ?_ ?_
 ·rintro rfl
  rw[Bp,C8]at hpe
  have hdl:done.length<=1000000:=by rw[hpe.length_eq,Ac];exact hml
  (conv=>whnf)
  refine QB (i:=3) rfl rfl (Tl done (by omega)) ?_
  rintro y ds ⟨out,rfl,ho1,ho2⟩
  have e:out=l:=Tp EX (ho1.trans (hpe.trans (by rw[<-L3];exact ht.perm))) ht.sort ho2
  subst e
  (conv=>whnf)
  exact⟨_,_,[(3,910)],[(900,_),(901,_),(3,_)],.lo (.refl _ _),rfl,⟨rfl,rfl,rfl,trivial⟩,rfl,rfl,rfl⟩
 ·intro q todo' hq
  have hqm:q∈m:=hin q (hq.symm.subset (.head _))
  obtain⟨hl1,hl2⟩:=hpm q hqm
  have hc1:=DF.up3 (MD q.2.p.labels (by omega))
  have hc2:=DF.up3 (NX q.2.p.edges (by omega))
  have hf1:ER (q.2.p.labels.map dI)=true:=Fe dI (λ_=>rfl) _
  have hf2:ER (q.2.p.edges.map dE)=true:=Fe dE (λ_=>rfl) _
  have hdl:done.length<=1000000:=by
   have:=hpe.length_eq
   rw[Ao,Ac,Ac]at this
   simp only at this
   omega
  have hdm:(done.map Dl).length=done.length:=Ac _
  (conv=>whnf)
  (repeat' ((first|refine A6 ?_ ?_|refine PV 901 r rfl rfl rfl ⟨by decide,by decide,by decide⟩ rfl ?_|refine Hu Dc 5 rfl rfl rfl rfl rfl rfl rfl q.2.h1 q.2.h2 ⟨by decide,by decide⟩ rfl ?_|refine MG 20 rfl rfl (λh=>(N1 (M:=En) (i:=901) (r:=r) (ph:=.it todo') h rfl hqm).1) hc1 hf1 ?_|refine MG 24 rfl rfl (λh=>(N1 (M:=En) (i:=901) (r:=r) (ph:=.it todo') h rfl hqm).2) hc2 hf2 ?_|refine nx ?_|refine AX (λ_=>?_) (λ_=>?_)|exact Bj)<;>conv=>whnf))
  refine Yk Dc (G:=[]) 28 (.frz 20 rfl (.frz 24 rfl (.refl _ _))) rfl (.inr rfl) ?_
  ((conv=>whnf);repeat' ((first|refine odw ?_|refine nx ?_|refine AX (λ_=>?_) (λ_=>?_))<;>conv=>whnf))
  refine⟨(todo',done++[PE q]),_,_,⟨?_,λx hx=>hin x (hq.symm.subset (.tail _ hx))⟩,.refl _ _,⟨rfl,rfl,trivial⟩,⟨by rw[AZ];rfl,rfl,rfl,rfl,trivial⟩,?_⟩
  ·refine List.Perm.trans ?_ hpe
   rw[Bl]
   exact((hq.map PE).symm).append_left done
  ·have:=hq.length_eq
   simp only[Au]at this⊢
   omega
end Go.Proofs.YtjejpdfldmempaaGreatDoor
end
section
namespace Go.Gr
open Go.Proofs.YtjejpdfldmempaaGreatDoor
def sortI(l:List Int):List Int:=l.mergeSort λx y=>decide (x<=y)
theorem I9(l:List Int):(sortI l).Perm l:=List.mergeSort_perm _ _
theorem UC(l:List Int):(sortI l).Pairwise (· <= ·):=by
 have h:=List.pairwise_mergeSort (le:=λx y:Int=>decide (x<=y)) (λa b c h1 h2=>by simp at*;omega) (λa b=>by simp;omega) l
 exact h.imp λh=>by simpa using h
theorem JB(l:List Int):(sortI l).length=l.length:=(I9 l).length_eq
def FW(p:Pt)(s:Option (Pt×List Int))(o:List Int):Option (Pt×List Int):=match s with
 |none=>some (AQ p o,o)
 |some (q,b)=>if B9 (AQ p o) q<0 then some (AQ p o,o)else some (q,b)
def Js(p:Pt):List (List Int):=FN p.labels (sortI p.labels) p.labels.length []
def SD(p:Pt):Option (Pt×List Int):=(Js p).foldl (FW p) none
def BC(p:Pt):Pt:=((SD p).getD (⟨[],[]⟩,[])).1
def Uf(p:Pt):List Int:=((SD p).getD (⟨[],[]⟩,[])).2
theorem Kq(p:Pt):∀(xs:List (List Int)) (b:List Int),∃b',xs.foldl (FW p) (some (AQ p b,b))=some (AQ p b',b')/\(b'=b\/b'∈xs)/\B9 (AQ p b') (AQ p b)<=0/\∀o∈xs,B9 (AQ p b') (AQ p o)<=0
 |[],b=>⟨b,rfl,.inl rfl,Int.le_of_eq (EX.self _),by simp⟩
 |
  x::xs,b=>by
  rw[MW]
  by_cases h:B9 (AQ p x) (AQ p b)<0
  ·obtain⟨b',h1,h2,h3,h4⟩:=Kq p xs x
   refine⟨b',by rw[<-h1];simp only[FW];rw[if_pos h],.inr (by rcases h2 with rfl|h2<;>simp[*]),EX.le_trans h3 (Int.le_of_lt h),λo ho=>?_⟩
   rcases Ad.1 ho with rfl|ho
   ·exact h3
   ·exact h4 o ho
  ·obtain⟨b',h1,h2,h3,h4⟩:=Kq p xs b
   refine⟨b',by rw[<-h1];simp only[FW];rw[if_neg h],by rcases h2 with rfl|h2<;>simp[*],h3,λo ho=>?_⟩
   rcases Ad.1 ho with rfl|ho
   ·exact EX.le_trans h3 (EX.not_lt.1 h)
   ·exact h4 o ho
theorem Xj(p:Pt) {xs:List (List Int)}(h:xs≠[]):∃b,xs.foldl (FW p) none=some (AQ p b,b)/\b∈xs/\∀o∈xs,B9 (AQ p b) (AQ p o)<=0:=by
 cases xs with
 |nil=>exact absurd rfl h
 |
  cons x xs=>
  obtain⟨b,h1,h2,h3,h4⟩:=Kq p xs x
  refine⟨b,h1,by rcases h2 with rfl|h2<;>simp[*],λo ho=>?_⟩
  rcases Ad.1 ho with rfl|ho
  ·exact h3
  ·exact h4 o ho
theorem JL {n:Nat} {p:Pt}(hp:PtOk n p) {o:List Int}:o∈Js p↔Bx n o/\∀i,i<n->(sortI p.labels)[pl o i]? =p.labels[i]? :=by
 unfold Js
 rw[hp.len]
 exact Vr (by rw[JB,hp.len])
theorem Mh {n:Nat} {p:Pt}(hp:PtOk n p) {o:List Int}:o∈Js p↔Bx n o/\(AQ p o).labels=sortI p.labels:=by
 rw[JL hp]
 refine and_congr_right λho=>⟨λh=>?_,λh i hi=>?_⟩
 ·apply Bv
  intro k
  by_cases hk:k<n
  ·obtain⟨i,hi,rfl⟩:=Li ho hk
   rw[Fh ho hp hi,h i hi]
  ·have:=hp.len
   rw[AD (by rw[Eb];omega),AD (by rw[JB];omega)]
 ·rw[<-h,Fh ho hp hi]
theorem IY {n:Nat} {p:Pt}(hp:PtOk n p) {o:List Int}(ho:Bx n o):(AQ p o).labels.Perm p.labels:=by
 have h1:(AQ p o).labels=(List.range n).map λk=>((AQ p o).labels[k]?).getD 0:=by
  apply Bv
  intro k
  by_cases hk:k<n
  ·have hl:k<(AQ p o).labels.length:=by rw[Eb,hp.len];exact hk
   rw[Al,Ey hk];simp[hl]
  ·rw[AD (by rw[Eb,hp.len];omega),AD (by simp;omega)]
 have h2:p.labels=(List.range n).map λi=>((AQ p o).labels[pl o i]?).getD 0:=by
  apply Bv
  intro i
  by_cases hi:i<n
  ·rw[Al,Ey hi,CS,Fh ho hp hi,Ab (by rw[hp.len];exact hi)];rfl
  ·rw[AD (by rw[hp.len];omega),AD (by simp;omega)]
 have h3:((List.range n).map (pl o)).Perm (List.range n):=by
  refine EF ?_ (λx hx=>?_) (by simp)
  ·refine Fy.2 (List.Pairwise.imp_of_mem ?_ List.nodup_range)
   intro i j hi hj hne e
   exact hne (JG ho (Bk.1 hi) (Bk.1 hj) e)
  ·obtain⟨i,hi,rfl⟩:=Av.1 hx
   exact Bk.2 (F9 ho (Bk.1 hi))
 have h4:=h3.map λk=>((AQ p o).labels[k]?).getD 0
 rw[Np]at h4
 rw[<-h1]at h4
 refine h4.symm.trans ?_
 rw[show((λk=>((AQ p o).labels[k]?).getD 0)∘pl o)=λi=>((AQ p o).labels[pl o i]?).getD 0 from rfl,<-h2]
theorem V4 {n:Nat} {p:Pt}(hp:PtOk n p):Js p≠[]:=by
 have key:∀{l m:List Int},m.Perm l->∃f:Nat->Nat,(∀i,i<l.length->f i<l.length)/\(∀i j,i<l.length->j<l.length->f i=f j->i=j)/\∀i,i<l.length->m[f i]? =l[i]? :=by
  intro l
  induction l with
  |nil=>intro m h;exact⟨id,by simp,by simp,by simp⟩
  |
   cons x l ih=>
   intro m h
   have hx:x∈m:=h.mem_iff.2 (by simp)
   obtain⟨k,hk,e⟩:=Lb.1 hx
   have hml:=h.length_eq
   simp only[Au]at hml
   have hp1:(m.eraseIdx k).Perm l:=by
    have h1:m.Perm (m[k]::m.eraseIdx k):=by
     conv=>lhs;rw[<-C6 k m,AO hk]
     rw[List.eraseIdx_eq_take_drop_succ]
     exact List.perm_middle
    rw[e]at h1
    exact(List.perm_cons x).1 (h1.symm.trans h)
   obtain⟨f,f1,f2,f3⟩:=ih hp1
   refine⟨λi=>match i with
    |0=>k
    |i+1=>if f i<k then f i else f i+1,λi hi=>?_,λi j hi hj hij=>?_,λi hi=>?_⟩
   ·cases i with
    |zero=>simp only[Au];omega
    |
     succ i=>
     have:=f1 i (by simpa using hi)
     simp only[Au];split<;>omega
   ·cases i with
    |
     zero=>
     cases j with
     |zero=>rfl
     |succ j=>simp only at hij;split at hij<;>omega
    |
     succ i=>
     cases j with
     |zero=>simp only at hij;split at hij<;>omega
     |
      succ j=>
      simp only at hij
      have:f i=f j:=by split at hij<;>split at hij<;>omega
      have:=f2 i j (by simpa using hi) (by simpa using hj) this
      omega
   ·cases i with
    |zero=>simp only;rw[Ab hk,e];rfl
    |
     succ i=>
     have:=f3 i (by simpa using hi)
     rw[List.getElem?_cons_succ,<-this,List.getElem?_eraseIdx]
     simp only
     split
     ·rfl
     ·rfl
 obtain⟨f,f1,f2,f3⟩:=key (I9 p.labels)
 rw[hp.len]at f1 f2 f3
 have:((List.range n).map λi=>(f i:Int))∈Js p:=(JL hp).2 ⟨OH f1 f2,λi hi=>by rw[UW hi];exact f3 i hi⟩
 exact List.ne_nil_of_mem this
theorem Il {n:Nat} {p:Pt}(hp:PtOk n p):SD p=some (BC p,Uf p)/\Bx n (Uf p)/\BC p=AQ p (Uf p)/\(BC p).labels=sortI p.labels/\∀o,Bx n o->B9 (BC p) (AQ p o)<=0:=by
 obtain⟨b,h1,h2,h3⟩:=Xj p (V4 hp)
 have hb:SD p=some (AQ p b,b):=h1
 have e1:BC p=AQ p b:=by unfold BC;rw[hb];rfl
 have e2:Uf p=b:=by unfold Uf;rw[hb];rfl
 obtain⟨g1,g2⟩:=(Mh hp).1 h2
 rw[e1,e2]
 refine⟨hb,g1,rfl,g2,λo ho=>?_⟩
 have hl:=Jb (UC p.labels) ((IY hp ho).trans (I9 p.labels).symm)
 rcases(Wq Uq).le_of hl with h|h
 ·exact Int.le_of_lt (Q9 (by rw[Eb,Eb]) (by rw[g2];exact h))
 ·exact h3 o ((Mh hp).2 ⟨ho,h.symm⟩)
theorem NR {n:Nat} {p:Pt}(hp:PtOk n p) {o:List Int}(ho:Bx n o):BC (AQ p o)=BC p:=by
 have hq:=FU ho hp
 obtain⟨_,a1,a2,_,a3⟩:=Il hp
 obtain⟨_,b1,b2,_,b3⟩:=Il hq
 refine EX.antisymm ?_ ?_
 ·have:=b3 (He (Gt o) (Uf p)) (E0 (HJ ho) a1)
  rw[<-J6 (HJ ho) a1 hq,Tc ho hp,<-a2]at this
  exact this
 ·have:=a3 (He o (Uf (AQ p o))) (E0 ho b1)
  rw[<-J6 ho b1 hp,<-b2]at this
  exact this
end Go.Gr
end
