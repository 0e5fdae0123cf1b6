/- Sxt. -/
import Derived.Test.YtjejpdfldmempaaGreatDooragaj
import Derived.Test.YtjejpdfldmempaaGreatDooragak
namespace Go.Sx
open Go Go.RowKit Go.Reg
section
variable {C:Cx} {T:ED} {B S:List Nat} {w0 w:World} {n kd:Nat} {fr:Fr} {σ:Sg} {η:Nat->Value} {φ:Nat->List Nat} {a:Act} {v:Value}
theorem MM {P:Program} {t:TypeId} {v u:Value} {w:World}(h:(Instr.loadAt t v).run P w=.ok u w):(do loadVar t (<-asAddr v):Sem Value).run P w=.ok u w:=by
 cases v<;>first|(simp[Instr.loadAt,Instr.sureAddr]at h;done)|skip
 rename_i a
 cases a with
 |none=>simp[Instr.loadAt,Instr.sureAddr]at h
 |some a=>simpa[Instr.loadAt,Instr.sureAddr,asAddr]using h
def PG(tmps:Array Value):ResultVar->Sem Value
 |.tmp t=>pure (tmps.getD t Go.undef)
 |.cell a t=>do loadVar t (<-asAddr (tmps.getD a Go.undef))
theorem GA(fn:Func)(tmps:Array Value):results fn tmps=(do let vs<-fn.results.mapM (PG tmps);pure (if h:vs.size=1 then vs[0]else .tuple vs)):=by
 unfold results
 congr 1
theorem L4(hC:C.Ok T)(hM:Models C B S w0 n fr σ η φ a w):∀(rs:List ResultVar) {K:List Dat->Prop},L5 T rs fr σ K->∃ds vs css,K ds/\(rs.mapM (PG a.tmps)).run C.P w=.ok vs w/\A0 η (Ba σ) (B++Ah φ σ) w ds css/\vs=List.zipWith Bo ds css
 |[],K,h=>⟨[],[],[],h,by simp,by simp[A0],by simp⟩
 |
  .tmp t::rs,K,h=>by
  simp only[L5]at h
  obtain⟨ds,vs,css,h1,h2,h3,h4⟩:=L4 hC hM rs (RD.force h)
  obtain⟨cs,r1,r2⟩:=hM.fr t
  refine⟨_,a.tmps.getD t Go.undef::vs,cs::css,h1,?_,⟨cs,css,rfl,r1,h3⟩,by simp[h4,r2]⟩
  simp only[List.mapM_cons,PG,Ar,AH,Ap,h2]
 |
  .cell t ty::rs,K,h=>by
  simp only[L5]at h
  rcases Ny hC hM.mem (vx:=a.tmps.getD t Go.undef) (hM.fr t) h with h|⟨d,v,g1,g2,cs,g3,g4⟩
  ·exact h.elim
  ·obtain⟨ds,vs,css,h1,h2,h3,h4⟩:=L4 hC hM rs g1
   refine⟨_,v::vs,cs::css,h1,?_,⟨cs,css,rfl,g3,h3⟩,by simp[h4,g4]⟩
   have g5:=MM g2
   simp only[Ar]at g5
   simp only[List.mapM_cons,PG,Ar,AH,Ap,g5,h2]
theorem HK {ds:List Dat} {xs:List Da} {css:List (List Value)}(h:Eu ds=some xs)(hr:A0 η (Ba σ) (B++Ah φ σ) w ds css):Ai (B++Ah φ σ) w xs css/\List.zipWith Bo ds css=List.zipWith EB xs css:=by
 rw[DZ h]at hr⊢
 exact⟨DM.1 hr,DL _ _⟩
theorem PH {ds:List Dat} {css:List (List Value)}(h:A0 η (Ba σ) (B++Ah φ σ) w ds css):RD B σ η φ w (Sw ds) (.tuple (List.zipWith Bo ds css).toArray):=by
 unfold Sw
 split
 ·rename_i xs hx
  obtain⟨h1,h2⟩:=HK hx h
  exact⟨[_],by simp only[Ay,RepC];exact⟨css,h1,by rw[h2]⟩,rfl⟩
 ·exact⟨[_],by simp only[Ay];exact⟨css,h,rfl⟩,rfl⟩
def Y7(C:Cx)(B S:List Nat)(w0:World)(K:Dat->Sg->Prop)(e:Ending)(w':World):Prop:=
 ∃v d σ η φ,e=.returned v/\K d σ/\Mem C B S w0 σ η φ w'/\RD B σ η φ w' d v
theorem Yu(hC:C.Ok T) {fn:Func} {K:Dat->Sg->Prop} {e:Exit}(h:QK C B S w0 n (Iz T fn.results.toList K) e a w):bodyPost C.P fn (Y7 C B S w0 K) e a w:=by
 have key:∀{fr σ η φ},Models C B S w0 n fr σ η φ a w->L5 T fn.results.toList fr σ (λds=>match ds with
   |[d]=>K d σ
   |ds=>force (Sw ds) λd=>K d σ)->a.defers=[]/\∃v,(results fn a.tmps).run C.P w=.ok v w/\Y7 C B S w0 K (.returned v) w:=by
  intro fr σ η φ hM hr
  obtain⟨ds,vs,css,h1,h2,h3,h4⟩:=L4 hC hM _ hr
  refine⟨hM.defers,?_⟩
  have hlen:vs.length=ds.length:=by
   have:∀{ds:List Dat} {css:List (List Value)},A0 η (Ba σ) (B++Ah φ σ) w ds css->css.length=ds.length:=by
    intro ds
    induction ds with
    |nil=>intro css h;simp only[A0]at h;subst h;rfl
    |cons d ds ih=>intro css h;simp only[A0]at h;obtain⟨c1,c2,rfl,_,h⟩:=h;simp[ih h]
   rw[h4];simp[this h3]
  have hmap:(fn.results.mapM (PG a.tmps)).run C.P w=.ok vs.toArray w:=by
   rw[QO,Sem.run_map,h2];rfl
  match ds,css,h1,h3,h4,hlen with
  |
   [d],css,h1,h3,h4,hlen=>
   simp only[A0]at h3
   obtain⟨c1,c2,rfl,r1,rfl⟩:=h3
   simp at h4
   subst h4
   refine⟨Bo d c1,?_,_,d,σ,η,φ,rfl,h1,hM.mem,c1,r1,rfl⟩
   rw[GA,Ar,hmap]
   simp
  |
   [],css,h1,h3,h4,hlen=>
   have hv:vs=[]:=Aw hlen
   subst hv
   refine⟨.tuple #[],?_,_,_,σ,η,φ,rfl,RD.force h1,hM.mem,?_⟩
   ·rw[GA,Ar,hmap]
    simp
   ·have:=PH h3;simpa using this
  |
   d1::d2::ds,css,h1,h3,h4,hlen=>
   refine⟨.tuple vs.toArray,?_,_,_,σ,η,φ,rfl,RD.force h1,hM.mem,?_⟩
   ·rw[GA,Ar,hmap]
    have:¬vs.toArray.size=1:=by simp;simp at hlen;omega
    simp only[Ap,dif_neg this,AH]
   ·have:=PH h3;rw[h4];exact this
 cases e with
 |normal=>obtain⟨fr,σ,η,φ,hM,hr⟩:=h;exact key hM hr
 |ret=>obtain⟨fr,σ,η,φ,hM,hr⟩:=h;exact key hM hr
 |exit id=>obtain⟨fr,σ,η,φ,hM,hr⟩:=h;exact hr.elim
 |goto l=>obtain⟨fr,σ,η,φ,hM,hr⟩:=h;exact hr.elim
 |panic ch=>exact h.elim
 |outgrown=>exact h.elim
def params:List Dat->Nat->Fr
 |[],_=>[]
 |d::ds,i=>(i,d)::params ds (i+1)
theorem LU {I O:List Nat}:∀{ds:List Dat} {css:List (List Value)} (i:Nat),A0 η I O w ds css->∀(a:Act),(∀j u,(List.zipWith Bo ds css)[j]? =some u->a.tmps.getD (i+j) Go.undef=u)->∀t,∃cs,Ay η I O w (get (params ds i) t) cs/\a.tmps.getD t Go.undef=Bo (get (params ds i) t) cs
 |[],css,i,h,a,ha,t=>⟨[a.tmps.getD t Go.undef],by simp[params,get,Ay,RepC],rfl⟩
 |
  d::ds,css,i,h,a,ha,t=>by
  simp only[A0]at h
  obtain⟨c1,c2,rfl,h1,h2⟩:=h
  simp only[params,get]
  rcases Bi i t with⟨hb,e⟩|⟨hb,e⟩
  ·rw[hb]
   exact⟨c1,h1,by have:=ha 0 _ (by simp;rfl);rw[<-e];simpa using this⟩
  ·rw[hb]
   exact LU (i+1) h2 a (λj u hj=>by rw[show i+1+j=i+(j+1)by omega];exact ha (j+1) u (by simpa using hj)) t
theorem FH(hC:C.Ok T) {G:List FuncId} {pl:List (Nat×Plan)} {f:FuncId} {fn:Func} {c:Code}(hf:C.P.funcs[f]? =some fn)(hb:fn.body=some c)(hn:fn.ntmps=n)(hk:BA C.P G pl c=true) {K:Dat->Sg->Prop}
  {ds:List Dat} {css:List (List Value)} (hr:A0 η (Ba σ) (B++Ah φ σ) w ds css) (hl:ds.length<=n) (hm:Mem C B S w0 σ η φ w)
  (h:CU C T n pl c (Iz T fn.results.toList K) (params ds 0) σ):Calls C.P f (List.zipWith Bo ds css).toArray w (Y7 C B S w0 K):=by
 refine calls_of_wp hf hb ?_
 have hlen:(List.zipWith Bo ds css).length=ds.length:=by
  have:∀{ds:List Dat} {css:List (List Value)},A0 η (Ba σ) (B++Ah φ σ) w ds css->css.length=ds.length:=by
   intro ds
   induction ds with
   |nil=>intro css h;simp only[A0]at h;subst h;rfl
   |cons d ds ih=>intro css h;simp only[A0]at h;obtain⟨c1,c2,rfl,_,h⟩:=h;simp[ih h]
  simp[this hr]
 have hM:Models C B S w0 n (params ds 0) σ η φ {tmps:=(List.zipWith Bo ds css).toArray++Array.replicate (fn.ntmps- (List.zipWith Bo ds css).toArray.size) undef,defers:=[]} w:=by
  refine⟨hm,LU 0 hr _ (λj u hj=>?_),rfl,?_⟩
  ·have hlt:=(Ak.1 hj).1
   simp only[DE,Array.getD_eq_getD_getElem?]
   rw[FR (by simpa using hlt)]
   simp[hj]
  ·simp only[Array.size_append,BI,Array.size_replicate,hn];omega
 exact wp_mono (Bf.1 (Cq hC c _ _ _ hk h) B S w0 η φ _ w hM) (λe a w hq=>Yu hC hq)
def Glob(C:Cx)(O:List Nat)(w:World):Prop:=∀g∈C.Γ,GRep O w g
def Pure(C:Cx)(f:FuncId)(xs:List Da)(Q:Da->Prop):Prop:=
 ∀(O:List Nat) (w:World) (vs:List Value),(∀b∈O,b<w.heap.size)->Glob C O w->HM O w xs vs->
  (callFunc f vs.toArray).run C.P w=.ok (.enter f vs.toArray) w/\Calls C.P f vs.toArray w λe w'=>∃v y,e=.returned v/\Q y/\Rep O w' y v/\Tch [] w w'
mutual
def Da.plain:Da->Da
 |.prop p i=>.bool (@decide p i)
 |.agg ds=>.agg (Hq ds)
 |.tuple ds=>.tuple (Hq ds)
 |d=>d
def Hq:List Da->List Da
 |[]=>[]
 |d::ds=>d.plain::Hq ds
end
theorem Nu(d:Da)(cs:List Value):EB d.plain cs=EB d cs:=by cases d<;>rfl
mutual
theorem RepC.plain {O:List Nat} {w:World}:∀(d:Da) (cs:List Value),RepC O w d cs->RepC O w d.plain cs
 |.prop p i,cs,h=>by simpa only[Da.plain,RepC]using h
 |.agg ds,cs,h=>by simp only[Da.plain,RepC]at h⊢;exact RepCs.plain ds cs h
 |
  .tuple ds,cs,h=>by
  simp only[Da.plain,RepC]at h⊢
  obtain⟨css,h1,h2⟩:=h
  obtain⟨g1,g2⟩:=Ai.plain ds css h1
  exact⟨css,g1,by rw[h2,g2]⟩
 |.undef,cs,h=>h
 |.int _ _,cs,h=>h
 |.bool _,cs,h=>h
 |.str _,cs,h=>h
 |.nilp,cs,h=>h
 |.nils,cs,h=>h
 |.nilm,cs,h=>h
 |.nilf,cs,h=>h
 |.nili,cs,h=>h
 |.iface _ _,cs,h=>h
 |.ref _,cs,h=>h
 |.list _ _,cs,h=>h
 |.func _ _ _,cs,h=>h
 |.raw _,cs,h=>h
theorem RepCs.plain {O:List Nat} {w:World}:∀(ds:List Da) (cs:List Value),RepCs O w ds cs->RepCs O w (Hq ds) cs
 |[],cs,h=>h
 |
  d::ds,cs,h=>by
  simp only[RepCs,Hq]at h⊢
  obtain⟨c1,c2,rfl,h1,h2⟩:=h
  exact⟨c1,c2,rfl,RepC.plain d c1 h1,RepCs.plain ds c2 h2⟩
theorem Ai.plain {O:List Nat} {w:World}:∀(ds:List Da) (css:List (List Value)),Ai O w ds css->Ai O w (Hq ds) css/\List.zipWith EB (Hq ds) css=List.zipWith EB ds css
 |[],css,h=>⟨h,rfl⟩
 |
  d::ds,css,h=>by
  simp only[Ai,Hq]at h⊢
  obtain⟨c1,c2,rfl,h1,h2⟩:=h
  obtain⟨g1,g2⟩:=Ai.plain ds c2 h2
  exact⟨⟨c1,c2,rfl,RepC.plain d c1 h1,g1⟩,by simp only[B6,Nu,g2]⟩
end
def Dh(T:ED)(σ:Sg):Nat->Dat->Option Da
 |0,_=>none
 |
  k+1,d=>match d with
  |.d x=>some x
  |
   .own i=>(match BO i σ with
   |some (.slice _ k ds)=>some (.list k ds)
   |
    some (.cells t ds)=>(match closeL (Dh T σ k) ds with
    |
     some xs=>(match EV t T with
     |
      some e=>(match e.agg with
      |true=>some (.ref (.agg xs))
      |
       false=>(match xs with
       |[x]=>some (.ref x)
       |_=>none))
     |none=>none)
    |none=>none)
   |_=>none)
  |
   .agg ds=>(match closeL (Dh T σ k) ds with
   |some xs=>some (.agg xs)
   |none=>none)
  |
   .tuple ds=>(match closeL (Dh T σ k) ds with
   |some xs=>some (.tuple xs)
   |none=>none)
  |
   .iface t d=>(match Dh T σ k d with
   |some x=>some (.iface t x)
   |none=>none)
  |
   .func fn f c=>(match closeL (Dh T σ k) f,closeL (Dh T σ k) c with
   |some fs,some cs=>some (.func fn fs cs)
   |_,_=>none)
  |_=>none
where
 closeL (f:Dat->Option Da):List Dat->Option (List Da)
  |[]=>some []
  |
   d::ds=>match f d,closeL f ds with
   |some x,some xs=>some (x::xs)
   |_,_=>none
theorem Lk(hm:Mem C B S w0 σ η φ w) {i:Nat}(hi:i∈Ba σ) {b:Nat}(hb:b∈φ i):b∉B:=λh=>by
 rcases hm.new i hi b hb with h2|h2
 ·exact h2.2 h
 ·have:=hm.out b h;omega
theorem ON(_hm:Mem C B S w0 σ η φ w):Later (B++Ah φ σ) w B w:=⟨Az _,λ_ _ _=>rfl,λ_b h _ hm=>h (Aq _ hm)⟩
theorem HI(hm:Mem C B S w0 σ η φ w):∀(k:Nat) (d:Dat) {x:Da} {cs:List Value},Dh T σ k d=some x->Ay η (Ba σ) (B++Ah φ σ) w d cs->RepC B w x cs/\Bo d cs=EB x cs
 |0,d,x,cs,h,hr=>by simp[Dh]at h
 |
  k+1,d,x,cs,h,hr=>by
  have listC:∀(ds:List Dat) {xs:List Da} {cs:List Value},Dh.closeL (Dh T σ k) ds=some xs->AI η (Ba σ) (B++Ah φ σ) w ds cs->RepCs B w xs cs:=by
   intro ds
   induction ds with
   |nil=>intro xs cs h hr;simp[Dh.closeL]at h;subst h;simpa[AI,RepCs]using hr
   |
    cons d ds ih=>
    intro xs cs h hr
    simp only[Dh.closeL]at h
    split at h
    ·rename_i x xs' h1 h2
     simp at h;subst h
     simp only[AI]at hr
     obtain⟨c1,c2,rfl,r1,r2⟩:=hr
     exact⟨c1,c2,rfl,(HI hm k d h1 r1).1,ih h2 r2⟩
    ·cases h
  have listCs:∀(ds:List Dat) {xs:List Da} {css:List (List Value)},Dh.closeL (Dh T σ k) ds=some xs->A0 η (Ba σ) (B++Ah φ σ) w ds css->Ai B w xs css/\List.zipWith Bo ds css=List.zipWith EB xs css:=by
   intro ds
   induction ds with
   |nil=>intro xs cs h hr;simp[Dh.closeL]at h;subst h;simp only[A0]at hr;subst hr;simp[Ai]
   |
    cons d ds ih=>
    intro xs cs h hr
    simp only[Dh.closeL]at h
    split at h
    ·rename_i x xs' h1 h2
     simp at h;subst h
     simp only[A0]at hr
     obtain⟨c1,c2,rfl,r1,r2⟩:=hr
     obtain⟨g1,g2⟩:=HI hm k d h1 r1
     obtain⟨g3,g4⟩:=ih h2 r2
     exact⟨⟨c1,c2,rfl,g1,g3⟩,by simp[g2,g4]⟩
    ·cases h
  simp only[Dh]at h
  split at h
  ·simp at h;subst h
   exact⟨RepC.later (ON hm) _ _ (by simpa only[Ay]using hr),rfl⟩
  ·rename_i i
   simp only[Ay]at hr
   obtain⟨hi,rfl⟩:=hr
   split at h
   ·rename_i E k' ds hg
    simp at h;subst h
    obtain⟨css,hs,e2,hrr,hk⟩:=Bn hm hg
    have hl:=Cc hrr
    have hrB:=Ai.later (ON hm) _ _ hrr
    refine⟨?_,rfl⟩
    simp only[RepC]
    rcases hs.shape with⟨he,hn⟩|⟨g,cap,he,hc⟩
    ·subst hn
     have:ds=[]:=Aw hl.symm
     subst this
     exact⟨none,0,[],by rw[he];rfl,by simp,by unfold maxLen;omega,by simp[Ai],by simp,.inl rfl⟩
    ·refine⟨_,cap,css,by rw[he,hl],by omega,?_,hrB,hk,.inr ⟨g,0,rfl,?_,?_,FX hs he⟩⟩
     ·rcases hs.2 with⟨h1,_⟩|⟨_,_,_,h1,_,_,_,h2,_⟩
      ·rw[he]at h1;cases h1
      ·rw[he]at h1;cases h1;exact h2
     ·exact Lk hm hi (by rw[e2,he];simp[Value.ownBlock])
     ·exact hs.lt (by rw[he];rfl)
   ·rename_i t ds hg
    split at h
    ·rename_i xs hxs
     split at h
     ·rename_i e he
      obtain⟨b,cs,e1,e2,hb,hrr⟩:=Cr hm hg
      have hxr:=listC ds hxs hrr
      have hbB:=Lk hm hi (b:=b) (by rw[e2];simp)
      have hcell:Ds w b 0 cs:=λj u hj=>by have:=hb.cell hj;simpa using this
      split at h
      ·simp at h;subst h
       refine⟨?_,rfl⟩
       simp only[RepC]
       exact⟨b,0,cs,by rw[e1],hbB,hb.lt,hxr,hcell⟩
      ·split at h
       ·simp at h;subst h
        refine⟨?_,rfl⟩
        simp only[RepCs]at hxr
        obtain⟨c1,c2,rfl,r1,rfl⟩:=hxr
        simp only[RepC]
        exact⟨b,0,c1,by rw[e1],hbB,hb.lt,r1,by simpa using hcell⟩
       ·cases h
     ·cases h
    ·cases h
   ·cases h
  ·split at h
   ·rename_i xs hxs
    simp at h;subst h
    simp only[Ay]at hr
    exact⟨by simp only[RepC];exact listC _ hxs hr,rfl⟩
   ·cases h
  ·split at h
   ·rename_i xs hxs
    simp at h;subst h
    simp only[Ay]at hr
    obtain⟨css,r1,rfl⟩:=hr
    obtain⟨g1,g2⟩:=listCs _ hxs r1
    exact⟨by simp only[RepC];exact⟨css,g1,by rw[g2]⟩,rfl⟩
   ·cases h
  ·split at h
   ·rename_i y hy
    simp at h;subst h
    simp only[Ay]at hr
    obtain⟨c,r1,rfl⟩:=hr
    obtain⟨g1,g2⟩:=HI hm k _ hy r1
    exact⟨by simp only[RepC];exact⟨c,g1,by rw[g2]⟩,rfl⟩
   ·cases h
  ·split at h
   ·rename_i fs cs' hf hc
    simp at h;subst h
    simp only[Ay]at hr
    obtain⟨fs0,cs0,r1,r2,rfl⟩:=hr
    obtain⟨g1,g2⟩:=listCs _ hf r1
    obtain⟨g3,g4⟩:=listCs _ hc r2
    exact⟨by simp only[RepC];exact⟨fs0,cs0,g1,g3,by rw[g2,g4]⟩,rfl⟩
   ·cases h
  ·cases h
def SR(T:ED)(Q:Da->Prop):Dat->Sg->Prop:=λd σ=>Ci (Dh T σ 9 d) False λy=>Q y.plain
theorem NM(hO:∀b∈B,b<w.heap.size)(hg:Glob C B w)(η:Nat->Value)(φ:Nat->List Nat):Mem C B [] w [] η φ w:=
 ⟨Tch.refl _ _,by simp,by simp[Ba],by simp[Ba],by simp[Ba],hO,by unfold Glob at hg;simpa[Ah]using hg⟩
theorem Sf(hC:C.Ok T) {G:List FuncId} {pl:List (Nat×Plan)} {f:FuncId} {fn:Func} {c:Code}(hf:C.P.funcs[f]? =some fn)(hb:fn.body=some c)(hn:fn.ntmps=n)(hrun:∀(vs:Array Value) (w:World),(callFunc f vs).run C.P w=.ok (.enter f vs) w)(hk:BA C.P G pl c=true) {xs:List Da} {Q:Da->Prop}(hl:xs.length<=n)
  (h:CU C T n pl c (Iz T fn.results.toList (SR T Q)) (params (Cf xs) 0) []):Pure C f xs Q:=by
 intro O w vs hO hg hr
 obtain⟨css,h1,rfl⟩:=hr
 refine⟨hrun _ _,?_⟩
 have hr2:A0 (λ_=>Go.undef) (Ba []) (O++Ah (λ_=>[]) []) w (Cf xs) css:=DM.2 (by simpa[Ah]using h1)
 have hlen:(Cf xs).length<=n:=by
  have:∀xs:List Da,(Cf xs).length=xs.length:=λxs=>by induction xs with|nil=>rfl|cons x xs ih=>simp[Cf,ih]
  rw[this];exact hl
 have:=FH hC hf hb hn hk hr2 hlen (NM hO hg _ _) h
 rw[DL]at this
 refine this.mono ?_
 rintro e w' ⟨v,d,σ,η,φ,rfl,hK,hm,cs,g1,g2⟩
 unfold SR at hK
 rcases AF hK with hK|⟨y,hy,hQ⟩
 ·exact hK.elim
 obtain⟨q1,q2⟩:=HI hm 9 d hy g1
 exact⟨v,y.plain,rfl,hQ,⟨cs,RepC.plain y cs q1,g2.trans (q2.trans (Nu y cs).symm)⟩,hm.tch⟩
theorem Gq {q:Bool} {f:FuncId} {args:List Dat} {xs:List Da} {Q:Da->Prop} {K:KD}(ha:Eu args=some xs)(hp:Pure C f xs Q)(hK:∀y,Q y->K (.d y) fr σ):BG C q f args K fr σ:=by
 unfold BG
 rintro B S w0 η φ n a w vs hM ⟨css,hr,rfl⟩
 obtain⟨h1,h2⟩:=HK ha hr
 rw[h2]
 obtain⟨g1,g2⟩:=hp (B++Ah φ σ) w _ hM.mem.lt hM.mem.glob ⟨css,h1,rfl⟩
 refine⟨g1,g2.mono ?_⟩
 rintro e w' ⟨v,y,rfl,hQ,hv,ht⟩
 exact⟨v,.d y,fr,σ,η,φ,rfl,hK y hQ,⟨hM.mem.grow ht,hM.fr.later (Later.same ht _) (λi hi=>⟨hi,rfl⟩),hM.defers,hM.size⟩,hv,λ_=>ht.ext⟩
end
end Go.Sx
namespace Go.Sx
open Go Go.RowKit Go.Reg
theorem OR {p A B:Prop}(hp:p)(h:A):(p->A)/\(¬p->B):=⟨λ_=>h,λhn=>absurd hp hn⟩
theorem SA {p A B:Prop}(hp:¬p)(h:B):(p->A)/\(¬p->B):=⟨λh=>absurd h hp,λ_=>h⟩
theorem SB {p A B:Prop}(h:p->A)(h2:¬p->B):(p->A)/\(¬p->B):=⟨h,h2⟩
theorem FT {e:Int}(h:-9223372036854775808<=e/\e<=9223372036854775807):IntKind.i64.wrap e=e:=IntWalk.i64_in _ h
theorem OS {e:Int} {K:Int->Prop}(h:-9223372036854775808<=e/\e<=9223372036854775807)(hK:K e):∃n,IntKind.i64.wrap e=n/\K n:=⟨e,FT h,hK⟩
theorem SQ {α:Type} {f:α->Da} {l:List α} {i:Nat} {n:Int} {x:α} {K:Nat->Da->Prop}(hn:n=i)(hx:l[i]? =some x)(hK:K i (f x)):∃(j:Nat) (d:Da),n=j/\(l.map f)[j]? =some d/\K j d:=⟨i,f x,hn,by simp[hx],hK⟩
theorem V9 {len i:Nat} {n:Int} {K:Nat->Prop}(hn:n=i)(hi:i<len)(hK:K i):∃j:Nat,n=j/\j<len/\K j:=⟨i,hn,hi,hK⟩
theorem V8 {ds:List Da} {i:Nat} {d:Da} {K:Da->Prop}(h:ds[i]? =some d)(hK:K d):∃d,ds[i]? =some d/\K d:=⟨d,h,hK⟩
theorem Vy {k:IntKind} {a b:Int}(h:a=b):Dat.d (.int k a)=Dat.d (.int k b):=by rw[h]
theorem El {E k:Nat} {a b:List Da}(h:a=b):some (Own.slice E k a)=some (Own.slice E k b):=by rw[h]
theorem T8 {a b:Nat}(h:a<=4294967296)(hb:Nat.ble b 32768=true)(h0:Nat.blt 0 b=true):a<=Ft b:=by
 have h1:=Nat.le_of_ble_eq_true hb
 have h2:0<b:=Bw (Nat.succ_pos 0) (Nat.le_of_ble_eq_true h0)
 unfold Ft
 rw[Nat.le_div_iff_mul_le h2]
 exact CM (Nat.mul_le_mul h h1) (by decide)
theorem Ih {a b:Nat} {K:Prop}(h:a<=4294967296)(hK:K)(hb:Nat.ble b 32768=true:=by rfl)(h0:Nat.blt 0 b=true:=by rfl):a<=Ft b/\K:=⟨T8 h hb h0,hK⟩
def DO(i:Nat):List Nat->Bool
 |[]=>false
 |
  j::l=>match Nat.beq j i with
  |true=>true
  |false=>DO i l
theorem DK {i:Nat}:∀{l:List Nat},DO i l=true->i∈l
 |[],h=>by cases h
 |
  j::l,h=>by
  simp only[DO]at h
  rcases Bi j i with⟨hb,e⟩|⟨hb,e⟩
  ·simp[e]
  ·rw[hb]at h;exact AK _ (DK h)
mutual
def CT(J:List Nat):Dat->Bool
 |.d _=>true
 |.own i=>DO i J
 |.at_ i _=>DO i J
 |.el i _ _ _=>DO i J
 |.agg ds=>CH J ds
 |.tuple ds=>CH J ds
 |.iface _ d=>CT J d
 |.func _ f c=>CH J f&&CH J c
def CH(J:List Nat):List Dat->Bool
 |[]=>true
 |d::ds=>CT J d&&CH J ds
end
section
variable {η:Nat->Value} {I J O O':List Nat} {w:World}
mutual
theorem Ay.only(hl:Later O w O' w):∀(d:Dat) (cs:List Value),CT J d=true->Ay η I O w d cs->Ay η J O' w d cs
 |.d x,cs,_,r=>RepC.later hl x cs r
 |.own i,cs,h,r=>by simp only[Ay]at r⊢;exact⟨DK h,r.2⟩
 |.at_ i C9,cs,h,r=>by simp only[Ay]at r⊢;exact⟨DK h,r.2⟩
 |.el i k n C9,cs,h,r=>by simp only[Ay]at r⊢;exact⟨DK h,r.2⟩
 |.agg ds,cs,h,r=>by simp only[Ay]at r⊢;exact AI.only hl ds cs (by simpa only[CT]using h) r
 |.tuple ds,cs,h,r=>by simp only[Ay]at r⊢;obtain⟨css,h1,h2⟩:=r;exact⟨css,A0.only hl ds css (by simpa only[CT]using h) h1,h2⟩
 |.iface t d,cs,h,r=>by simp only[Ay]at r⊢;obtain⟨c,h1,h2⟩:=r;exact⟨c,Ay.only hl d c (by simpa only[CT]using h) h1,h2⟩
 |
  .func fn f c,cs,h,r=>by
  simp only[Ay]at r⊢
  simp only[CT,Aj]at h
  obtain⟨fs,cs',h1,h2,h3⟩:=r
  exact⟨fs,cs',A0.only hl f fs h.1 h1,A0.only hl c cs' h.2 h2,h3⟩
theorem AI.only(hl:Later O w O' w):∀(ds:List Dat) (cs:List Value),CH J ds=true->AI η I O w ds cs->AI η J O' w ds cs
 |[],cs,_,r=>r
 |
  d::ds,cs,h,r=>by
  simp only[AI]at r⊢
  simp only[CH,Aj]at h
  obtain⟨c1,c2,h1,h2,h3⟩:=r
  exact⟨c1,c2,h1,Ay.only hl d c1 h.1 h2,AI.only hl ds c2 h.2 h3⟩
theorem A0.only(hl:Later O w O' w):∀(ds:List Dat) (cs:List (List Value)),CH J ds=true->A0 η I O w ds cs->A0 η J O' w ds cs
 |[],cs,_,r=>r
 |
  d::ds,cs,h,r=>by
  simp only[A0]at r⊢
  simp only[CH,Aj]at h
  obtain⟨c1,c2,h1,h2,h3⟩:=r
  exact⟨c1,c2,h1,Ay.only hl d c1 h.1 h2,A0.only hl ds c2 h.2 h3⟩
end
end
def Le(J:List Nat):Own->Bool
 |.cells _ ds=>CH J ds
 |.ghost _ ds=>CH J ds
 |_=>true
def KY:Sg->Sg->Prop
 |[],_=>True
 |(i,o)::Z,σ=>BO i σ=some o/\KY Z σ
def Sr:List Nat->Bool
 |[]=>true
 |i::l=>!(DO i l)&&Sr l
def Lf(J:List Nat):Fr->Bool
 |[]=>true
 |(_,d)::fr=>CT J d&&Lf J fr
def D0(J:List Nat):Sg->Bool
 |[]=>true
 |(_,o)::Z=>Le J o&&D0 J Z
def WJ(fr:Fr)(Z:Sg):Bool:=Sr (Ba Z)&&Lf (Ba Z) fr&&D0 (Ba Z) Z
section
variable {C:Cx} {B S:List Nat} {w0 w:World} {n:Nat} {fr:Fr} {σ Z:Sg} {η:Nat->Value} {φ:Nat->List Nat} {a:Act}
theorem Ge {i:Nat}:∀{l:List Nat},DO i l=false->i∉l
 |[],_=>by simp
 |
  j::l,h=>by
  simp only[DO]at h
  rcases Bi j i with⟨hb,e⟩|⟨hb,e⟩
  ·rw[hb]at h;cases h
  ·rw[hb]at h;simp only[Ad,not_or];exact⟨λe'=>e e'.symm,Ge h⟩
theorem K9:∀{l:List Nat},Sr l=true->l.Nodup
 |[],_=>by simp
 |
  i::l,h=>by
  simp only[Sr,Aj,Ej]at h
  exact C7.2 ⟨Ge h.1,K9 h.2⟩
theorem KY.mem:∀{Z:Sg},KY Z σ->∀p∈Z,p∈σ
 |[],_,p,hp=>by cases hp
 |
  (i,o)::Z,h,p,hp=>by
  rcases Ad.1 hp with rfl|hp
  ·exact B8 h.1
  ·exact KY.mem h.2 p hp
theorem GM {J:List Nat}:∀{fr:Fr},Lf J fr=true->∀t,CT J (get fr t)=true
 |[],_,t=>rfl
 |
  (s,d)::fr,h,t=>by
  simp only[Lf,Aj]at h
  simp only[get]
  rcases Bi s t with⟨hb,_⟩|⟨hb,_⟩<;>rw[hb]
  ·exact h.1
  ·exact GM h.2 t
theorem Ea {J:List Nat}:∀{Z:Sg},D0 J Z=true->∀p∈Z,Le J p.2=true
 |[],_,p,hp=>by cases hp
 |
  (i,o)::Z,h,p,hp=>by
  simp only[D0,Aj]at h
  rcases Ad.1 hp with rfl|hp
  ·exact h.1
  ·exact Ea h.2 p hp
theorem Own.holds.only {η:Nat->Value} {I J O O':List Nat} {w:World} {o:Own} {v:Value} {F:List Nat}(hl:Later O w O' w)(h:Le J o=true)(r:o.holds η I O w v F):o.holds η J O' w v F:=by
 cases o with
 |
  cells T ds=>
  obtain⟨b,cs,h1,h2,h3,h4⟩:=r
  exact⟨b,cs,h1,h2,h3,AI.only hl _ _ h h4⟩
 |
  slice E k ds=>
  obtain⟨css,h1,h2,h3,h4⟩:=r
  exact⟨css,h1,h2,Ai.later hl _ _ h3,h4⟩
 |abs R k lt one=>exact r
 |ghost vs ds=>obtain⟨h1,h2,css,h3,h4⟩:=r;exact⟨h1,h2,css,A0.only hl _ _ h h3,h4⟩
theorem Models.only(hM:Models C B S w0 n fr σ η φ a w)(hz:WJ fr Z=true)(hs:KY Z σ):Models C B S w0 n fr Z η φ a w:=by
 simp only[WJ,Aj]at hz
 obtain⟨⟨h1,h2⟩,h3⟩:=hz
 have hmem:=hs.mem
 have hsub:∀i∈Ba Z,i∈Ba σ:=λi hi=>by
  obtain⟨p,hp,rfl⟩:=Av.1 hi
  exact AW (hmem p hp)
 have hl:Later (B++Ah φ σ) w (B++Ah φ Z) w:=by
  refine⟨Az _,λ_ _ _=>rfl,λb hn _ hm=>?_⟩
  rcases Af.1 hm with hm|hm
  ·exact hn (Aq _ hm)
  ·obtain⟨p,hp,hb⟩:=AB.1 hm
   exact hn (An _ (Bb (AW (hmem p hp)) hb))
 refine⟨⟨hM.mem.tch,λp hp=>(hM.mem.own p (hmem p hp)).only hl (Ea h3 p hp),K9 h1,λi hi j hj=>hM.mem.disj i (hsub i hi) j (hsub j hj),λi hi=>hM.mem.new i (hsub i hi),hM.mem.out,λg hg=>(hM.mem.glob g hg).later hl⟩,λt=>?_,hM.defers,hM.size⟩
 obtain⟨cs,r1,r2⟩:=hM.fr t
 exact⟨cs,Ay.only hl _ _ (GM h2 t) r1,r2⟩
theorem Vs {ι:Type}(H:ι->Prop)(I:ι->Fr)(Z:ι->Sg)(μ:ι->Nat)(x0:ι) {b:Code} {K:KE}(hz:∀x,WJ (I x) (Z x)=true)(h0:H x0)(hI:QP (I x0) fr)(hZ:KY (Z x0) σ)
  (round:∀x,H x->DN C n b (λe fr σ=>match e with|.normal=>∃y,H y/\QP (I y) fr/\KY (Z y) σ/\μ y<μ x|e=>K e fr σ) (I x) (Z x)):DN C n (.loop b) K fr σ:=by
 refine Bf.2 λB S w0 η φ a w hM=>?_
 refine wp_loop_ghost (λm a w=>∃x η φ,H x/\μ x=m/\Models C B S w0 n (I x) (Z x) η φ a w) (μ x0) ⟨x0,η,φ,h0,rfl,(hM.sub hI).only (hz x0) hZ⟩ ?_
 rintro m a w ⟨x,η,φ,hx,rfl,hM⟩
 refine wp_mono (Bf.1 (round x hx) B S w0 η φ a w hM) ?_
 intro e a' w' hq
 cases e with
 |
  normal=>
  obtain⟨fr',σ',η',φ',hM',y,h1,h2,h3,h4⟩:=hq
  exact⟨μ y,h4,y,η',φ',h1,rfl,(hM'.sub h2).only (hz y) h3⟩
 |exit id=>exact hq
 |goto l=>exact hq
 |ret=>exact hq
 |panic ch=>exact hq
 |outgrown=>exact hq
end
end Go.Sx
namespace Go.Sx
open Go Go.RowKit Go.Reg
structure Absn where
 R:World->Value->List Nat->Prop
 keep:∀(S:List Nat) w w' v F,R w v F->Tch S w w'->(∀x∈F,x∉S)->R w' v F
 lt:∀w v F,R w v F->∀x∈F,x<w.heap.size
 one:∀w v F,R w v F->v.oneCell'=true
def Absn.own(r:Absn):Own:=.abs r.R r.keep r.lt r.one
section
variable {C:Cx} {T:ED} {B S:List Nat} {w0 w:World} {n kd:Nat} {fr:Fr} {σ:Sg} {η:Nat->Value} {φ:Nat->List Nat} {a:Act} {v:Value} {i:Nat} {r:Absn}
def XY(sh:Bool)(v u:Value):Value:=match sh with|true=>.tuple #[v,u]|false=>v
def Zu(sh:Bool)(O:List Nat)(w:World)(Q:Absn->Da->Prop)(e:Ending)(w':World):Prop:=
 ∃v F r y u,e=.returned (XY sh v u)/\Q r y/\r.R w' v F/\(∀b∈F,w.heap.size<=b)/\(∀O',(∀b∈O',b∈O\/b∈F)->Rep O' w' y u)/\Tch [] w w'
end
end Go.Sx
namespace Go.Sx
open Go Go.RowKit Go.Reg
section
variable {α:Type} {C:Cx} {O:List Nat} {w:World} {v:Value}
structure Enc(α:Type)where
 enc:α->List Value
 d:α->Da
 k:Nat
 len:∀x,(enc x).length=k
 one:∀x,∀u∈enc x,u.oneCell'=true
 rep:∀(O:List Nat) (w:World) (x:α),RepC O w (d x) (enc x)
theorem Enc.reps(E:Enc α)(O:List Nat)(w:World):∀l:List α,Ai O w (l.map E.d) (l.map E.enc)
 |[]=>by simp[Ai]
 |x::l=>by simp only[Am,Ai];exact⟨_,_,rfl,E.rep O w x,E.reps O w l⟩
theorem Enc.rows(E:Enc α)(l:List α):∀x∈l.map E.enc,DQ E.k x:=λx hx=>by
 obtain⟨y,_,rfl⟩:=Av.1 hx
 exact⟨E.len y,E.one y⟩
theorem Enc.rep_arg(E:Enc α)(hk:0<E.k) {l:List α}(h:Dt E.k E.enc w v l)(hcap:∀a n c,v=.slice a n c->n<=c/\c<=maxLen):Rep [] w (.list E.k (l.map E.d)) v:=by
 obtain⟨a,c,rfl,hm,hc⟩:=h
 obtain⟨c1,c2⟩:=hcap _ _ _ rfl
 refine⟨[_],?_,rfl⟩
 simp only[RepC]
 refine⟨a,c,l.map E.enc,by simp,by simpa using c1,c2,E.reps [] w l,E.rows l,?_⟩
 cases l with
 |nil=>exact .inl rfl
 |
  cons x l=>
  right
  obtain⟨b,o,rfl,h0⟩:=hc 0 x rfl
  have hcell:Ds w b o ((x::l).map E.enc).flatten:=by
   intro j u hj
   have hlen:∀(m:List α),(m.map E.enc).flatten.length=m.length*E.k:=λm=>by
    induction m with
    |nil=>simp
    |cons y m ih=>simp only[Am,Bu,Ao,ih,E.len,Au,Nat.succ_mul];omega
   have hjl:j<(x::l).length*E.k:=by rw[<-hlen];exact(Ak.1 hj).1
   have hi:j/E.k<(x::l).length:=(Nat.div_lt_iff_lt_mul hk).2 hjl
   have hy:=Ab hi
   obtain⟨b',o',he,h2⟩:=hc (j/E.k) _ hy
   cases he
   have:=h2 (j % E.k) u (by
    have h3:=Im E.len (x::l) (j/E.k) ((x::l)[j/E.k]) (j % E.k) hy (Nat.mod_lt _ hk)
    rw[<-h3,List.flatMap_def,Nn,Nat.div_add_mod]
    exact hj)
   rwa [Ev,Nn,Nat.div_add_mod]at this
  refine⟨b,o,rfl,by simp,?_,hcell⟩
  have hx:∃u,(E.enc x)[0]? =some u:=⟨_,Ab (by rw[E.len];exact hk)⟩
  obtain⟨u,hu⟩:=hx
  have:=h0 0 u hu
  unfold World.cell? at this
  rcases Ei b w.heap.size with hl|hl
  ·exact hl
  ·rw[Array.getElem?_eq_none (by omega)]at this;cases this
open Go.Deep Go.WideShapes in
theorem cap_of {H:Type} {P:Program} {e':TypeId×Value->H} {base b0:Nat} {spare:Nat->Bool} {held:Bool} {r:Reach} {t e:TypeId} {d:DataW H} {ps:List MemPlace}(ht:P.underlying t=some (.slice e))
  (hval:Value.okWide P w r b0 t v) (h:DataW.Trod e' P w base spare held t v d ps):∀a n c,v=.slice a n c->n<=c/\c<=maxLen:=by
 obtain⟨fuel,hf⟩:=h
 rintro a n c rfl
 rcases open_slice ht hf with⟨h1,_⟩|⟨a',len,cap,m,n',D,Pl,h1,hb,hl,hm,_⟩
 ·simp[Value.cells]at h1
  obtain⟨rfl,rfl,rfl⟩:=h1
  exact⟨Az _,by unfold maxLen;omega⟩
 ·simp[Value.cells]at h1
  obtain⟨rfl,rfl,rfl⟩:=h1
  exact⟨hl,hm⟩
theorem reps_nil:HM O w [] []:=⟨[],by simp[Ai],rfl⟩
theorem reps_cons {d:Da} {ds:List Da} {vs:List Value}(h1:Rep O w d v)(h2:HM O w ds vs):HM O w (d::ds) (v::vs):=by
 obtain⟨cs,r1,rfl⟩:=h1
 obtain⟨css,r2,rfl⟩:=h2
 exact⟨cs::css,⟨cs,css,rfl,r1,r2⟩,rfl⟩
theorem D7 {d:Da} {ds:List Da} {us:List Value}(h:HM O w (d::ds) us):∃v vs,us=v::vs/\Rep O w d v/\HM O w ds vs:=by
 obtain⟨css,r,rfl⟩:=h
 simp only[Ai]at r
 obtain⟨c1,c2,rfl,r1,r2⟩:=r
 exact⟨_,_,rfl,⟨c1,r1,rfl⟩,c2,r2,rfl⟩
theorem Ee {us:List Value}(h:HM O w [] us):us=[]:=by
 obtain⟨css,r,rfl⟩:=h
 simp
theorem DI {k:IntKind} {n:Int}(h:Rep O w (.int k n) v):v=.int k n:=by obtain⟨cs,r,rfl⟩:=h;simp only[RepC]at r;subst r;rfl
theorem O6 {s:ByteArray}(h:Rep O w (.str s) v):v=.string s:=by obtain⟨cs,r,rfl⟩:=h;simp only[RepC]at r;subst r;rfl
theorem rep_of_int(k:IntKind)(n:Int):Rep O w (.int k n) (.int k n):=⟨[_],by simp[RepC],rfl⟩
theorem Pure.assume {f:FuncId} {xs:List Da} {Q:Da->Prop} {P:Prop}(hp:∀O w us,HM O w xs us->P)(h:P->Pure C f xs Q):Pure C f xs Q:=λO w us hO hg hr=>h (hp O w us hr) O w us hO hg hr
theorem WA {k:Nat} {ds:List Da}(h:Rep O w (.list k ds) v):ds.length<=maxLen:=by
 obtain⟨cs,r,rfl⟩:=h
 simp only[RepC]at r
 obtain⟨a,c,css,_,h1,h2,_⟩:=r
 omega
theorem Pure.calls {f:FuncId} {xs:List Da} {Q:Da->Prop}(h:Pure C f xs Q)(hg:Glob C [] w) {us:List Value}(hr:HM [] w xs us):Calls C.P f us.toArray w λe w'=>∃u y,e=.returned u/\Q y/\Rep [] w' y u/\Tch [] w w':=
 (h [] w us (by simp) hg hr).2
end
end Go.Sx
namespace Go.Sx
open Go Go.RowKit Go.Reg
inductive Frz:Fr->Sg->Fr->Sg->Prop
 |refl (fr:Fr) (σ:Sg):Frz fr σ fr σ
 |slice {fr fr':Fr} {σ σ':Sg} (i:Nat) {E k:Nat} {ds:List Da} (h:BO i σ=some (.slice E k ds)) (r:Frz (FA i (.list k ds) fr) (Dj (BF i (.list k ds)) i σ) fr' σ'):Frz fr σ fr' σ'
section
variable {C:Cx} {T:ED} {B S:List Nat} {w0 w:World} {n:Nat} {fr:Fr} {σ:Sg} {η:Nat->Value} {φ:Nat->List Nat} {a:Act} {i E k:Nat} {ds:List Da}
theorem Models.freeze(hM:Models C B S w0 n fr σ η φ a w)(hg:BO i σ=some (.slice E k ds)):Models C B S w0 n (FA i (.list k ds) fr) (Dj (BF i (.list k ds)) i σ) η φ a w:=by
 have hm:=hM.mem
 have hi:=AW (B8 hg)
 have hsub:∀b∈B++Ah φ (Dj (BF i (.list k ds)) i σ),b∈B\/∃j∈Ba σ,j≠i/\b∈φ j:=by
  intro b hb
  rcases Af.1 hb with hb|hb
  ·exact .inl hb
  ·obtain⟨p,hp,hb⟩:=AB.1 hb
   obtain⟨q,hq,hne,rfl⟩:=Er hp
   exact .inr ⟨q.1,AW hq,hne,hb⟩
 have hl:Later (B++Ah φ σ) w (B++Ah φ (Dj (BF i (.list k ds)) i σ)) w:=⟨Az _,λ_ _ _=>rfl,λb hn _ hb=>by
  rcases hsub b hb with h|⟨j,hj,_,h⟩
  ·exact hn (Aq _ h)
  ·exact hn (An _ (Bb hj h))⟩
 have hr:RepC (B++Ah φ (Dj (BF i (.list k ds)) i σ)) w (.list k ds) [η i]:=by
  obtain⟨css,hs,e2,hrr,hk⟩:=Bn hm hg
  have hlen:=Cc hrr
  have hr2:=Ai.later hl _ _ hrr
  simp only[RepC]
  rcases hs.shape with⟨he,hn⟩|⟨g,cap,he,hc⟩
  ·subst hn
   have:ds=[]:=Aw hlen.symm
   subst this
   exact⟨none,0,[],by rw[he];rfl,by simp,by unfold maxLen;omega,by simp[Ai],by simp,.inl rfl⟩
  ·have hgi:g∈φ i:=by rw[e2,he];simp[Value.ownBlock]
   refine⟨_,cap,css,by rw[he,hlen],by omega,?_,hr2,hk,.inr ⟨g,0,rfl,?_,hs.lt (by rw[he];rfl),FX hs he⟩⟩
   ·rcases hs.2 with⟨h1,_⟩|⟨_,_,_,h1,_,_,_,h2,_⟩
    ·rw[he]at h1;cases h1
    ·rw[he]at h1;cases h1;exact h2
   ·intro hb
    rcases hsub g hb with h|⟨j,hj,hne,h⟩
    ·exact Lk hm hi hgi h
    ·exact hm.disj j hj i hi hne g h hgi
 obtain⟨h1,h2⟩:=hm.del rfl hr
 exact⟨h1,hM.fr.kill rfl h2 (λj hj hne=>⟨by rw[DW];exact Bg.2 ⟨hj,by simpa using hne⟩,rfl⟩) hr,hM.defers,hM.size⟩
theorem Frz.models {fr':Fr} {σ':Sg}(h:Frz fr σ fr' σ'):Models C B S w0 n fr σ η φ a w->Models C B S w0 n fr' σ' η φ a w:=by
 induction h with
 |refl=>exact id
 |slice i h r ih=>exactλhM=>ih (hM.freeze h)
mutual
def Da.flat:Da->Bool
 |.undef|.int _ _|.bool _|.prop _ _|.str _|.nilp|.nils|.nilm|.nilf|.nili=>true
 |.agg ds=>ER ds
 |.tuple ds=>ER ds
 |_=>false
def ER:List Da->Bool
 |[]=>true
 |d::ds=>d.flat&&ER ds
end
mutual
theorem RepC.flat {O O':List Nat} {w w':World}:∀(d:Da) (cs:List Value),d.flat=true->RepC O w d cs->RepC O' w' d cs
 |.agg ds,cs,h,r=>by simp only[RepC]at r⊢;exact RepCs.flat ds cs (by simpa only[Da.flat]using h) r
 |.tuple ds,cs,h,r=>by simp only[RepC]at r⊢;obtain⟨css,h1,h2⟩:=r;exact⟨css,Ai.flat ds css (by simpa only[Da.flat]using h) h1,h2⟩
 |.undef,cs,_,r=>r
 |.int _ _,cs,_,r=>r
 |.bool _,cs,_,r=>r
 |.prop _ _,cs,_,r=>r
 |.str _,cs,_,r=>r
 |.nilp,cs,_,r=>r
 |.nils,cs,_,r=>r
 |.nilm,cs,_,r=>r
 |.nilf,cs,_,r=>r
 |.nili,cs,_,r=>r
 |.iface _ _,cs,h,_=>by simp[Da.flat]at h
 |.ref _,cs,h,_=>by simp[Da.flat]at h
 |.list _ _,cs,h,_=>by simp[Da.flat]at h
 |.func _ _ _,cs,h,_=>by simp[Da.flat]at h
 |.raw _,cs,h,_=>by simp[Da.flat]at h
theorem RepCs.flat {O O':List Nat} {w w':World}:∀(ds:List Da) (cs:List Value),ER ds=true->RepCs O w ds cs->RepCs O' w' ds cs
 |[],cs,_,r=>r
 |
  d::ds,cs,h,r=>by
  simp only[RepCs]at r⊢
  simp only[ER,Aj]at h
  obtain⟨c1,c2,h1,h2,h3⟩:=r
  exact⟨c1,c2,h1,RepC.flat d c1 h.1 h2,RepCs.flat ds c2 h.2 h3⟩
theorem Ai.flat {O O':List Nat} {w w':World}:∀(ds:List Da) (css:List (List Value)),ER ds=true->Ai O w ds css->Ai O' w' ds css
 |[],cs,_,r=>r
 |
  d::ds,cs,h,r=>by
  simp only[Ai]at r⊢
  simp only[ER,Aj]at h
  obtain⟨c1,c2,h1,h2,h3⟩:=r
  exact⟨c1,c2,h1,RepC.flat d c1 h.1 h2,Ai.flat ds c2 h.2 h3⟩
end
theorem NY(hm:Mem C B S w0 σ η φ w) {m:Nat}:∀(ds:List Dat) {xs:List Da} {css:List (List Value)},Dh.closeL (Dh T σ m) ds=some xs->A0 η (Ba σ) (B++Ah φ σ) w ds css->Ai B w xs css/\List.zipWith Bo ds css=List.zipWith EB xs css
 |[],xs,css,h,hr=>by simp[Dh.closeL]at h;subst h;simp only[A0]at hr;subst hr;simp[Ai]
 |
  d::ds,xs,css,h,hr=>by
  simp only[Dh.closeL]at h
  split at h
  ·rename_i x xs' h1 h2
   simp at h;subst h
   simp only[A0]at hr
   obtain⟨c1,c2,rfl,r1,r2⟩:=hr
   obtain⟨g1,g2⟩:=HI hm m d h1 r1
   obtain⟨g3,g4⟩:=NY hm ds h2 r2
   exact⟨⟨c1,c2,rfl,g1,g3⟩,by simp[g2,g4]⟩
  ·cases h
theorem QD {q:Bool} {f:FuncId} {args:List Dat} {xs:List Da} {Q:Da->Prop} {K:KD}(T:ED)(ha:Dh.closeL (Dh T σ 9) args=some xs)(hp:Pure C f xs Q)(hfl:∀y,Q y->y.flat=true)(hK:∀y,Q y->K (.d y) fr σ):BG C q f args K fr σ:=by
 unfold BG
 rintro B S w0 η φ n a w vs hM ⟨css,hr,rfl⟩
 obtain⟨h1,h2⟩:=NY hM.mem args ha hr
 rw[h2]
 have hgl:Glob C B w:=λg hg=>(hM.mem.glob g hg).later (ON hM.mem)
 obtain⟨g1,g2⟩:=hp B w _ (λb hb=>hM.mem.lt b (Aq _ hb)) hgl ⟨css,h1,rfl⟩
 refine⟨g1,g2.mono ?_⟩
 rintro e w' ⟨v,y,rfl,hQ,⟨cs,hv,e2⟩,ht⟩
 exact⟨v,.d y,fr,σ,η,φ,rfl,hK y hQ,⟨hM.mem.grow ht,hM.fr.later (Later.same ht _) (λi hi=>⟨hi,rfl⟩),hM.defers,hM.size⟩,⟨cs,RepC.flat y cs (hfl y hQ) hv,e2⟩,λ_=>ht.ext⟩
end
theorem O8 {b:Int} {K:Prop}(h:b≠0)(hK:K):b≠0/\K:=⟨h,hK⟩
end Go.Sx
namespace Go.Sx
open Go Go.RowKit Go.Reg
section
variable {C:Cx} {T:ED} {B S:List Nat} {w0 w:World} {n kd:Nat} {fr fr':Fr} {σ σ':Sg} {η:Nat->Value} {φ:Nat->List Nat} {a:Act} {i E k:Nat} {ds:List Da}
mutual
inductive LaxA:Da->Da->Prop
 |refl (x:Da):LaxA x x
 |nils (k:Nat):LaxA .nils (.list k [])
 |prop {p:Prop} {i:Decidable p} (b:Bool) (h:@decide p i=b):LaxA (.prop p i) (.bool b)
 |agg {xs ys:List Da} (h:LaxAs xs ys):LaxA (.agg xs) (.agg ys)
 |tuple {xs ys:List Da} (h:LaxAs xs ys):LaxA (.tuple xs) (.tuple ys)
inductive LaxAs:List Da->List Da->Prop
 |nil:LaxAs [] []
 |cons {x y:Da} {xs ys:List Da} (h:LaxA x y) (r:LaxAs xs ys):LaxAs (x::xs) (y::ys)
end
theorem LaxA.yes {p:Prop} {i:Decidable p}(h:p):LaxA (.prop p i) (.bool true):=.prop _ (@decide_eq_true p i h)
theorem LaxA.no {p:Prop} {i:Decidable p}(h:¬p):LaxA (.prop p i) (.bool false):=.prop _ (@decide_eq_false p i h)
theorem Qk {x y:Da}(h:LaxA x y)(cs:List Value):EB x cs=EB y cs:=by cases h<;>rfl
mutual
theorem RepC.lax {O:List Nat}:∀{x y:Da} {cs:List Value},LaxA x y->RepC O w x cs->RepC O w y cs
 |_,_,cs,.refl _,r=>r
 |
  _,_,cs,.nils k,r=>by
  simp only[RepC]at r⊢
  exact⟨none,0,[],by rw[r];rfl,by simp,by unfold maxLen;omega,by simp[Ai],by simp,.inl trivial⟩
 |_,_,cs,.prop b h,r=>by subst h;simpa only[RepC]using r
 |_,_,cs,.agg h,r=>by simp only[RepC]at r⊢;exact RepCs.lax h r
 |
  _,_,cs,.tuple h,r=>by
  simp only[RepC]at r⊢
  obtain⟨css,h1,h2⟩:=r
  obtain⟨g1,g2⟩:=Ai.lax h h1
  exact⟨css,g1,by rw[h2,g2]⟩
theorem RepCs.lax {O:List Nat}:∀{xs ys:List Da} {cs:List Value},LaxAs xs ys->RepCs O w xs cs->RepCs O w ys cs
 |_,_,cs,.nil,r=>r
 |
  _,_,cs,.cons h hs,r=>by
  simp only[RepCs]at r⊢
  obtain⟨c1,c2,e,h1,h2⟩:=r
  exact⟨c1,c2,e,RepC.lax h h1,RepCs.lax hs h2⟩
theorem Ai.lax {O:List Nat}:∀{xs ys:List Da} {css:List (List Value)},LaxAs xs ys->Ai O w xs css->Ai O w ys css/\List.zipWith EB xs css=List.zipWith EB ys css
 |_,_,css,.nil,r=>⟨r,rfl⟩
 |
  _,_,css,.cons h hs,r=>by
  simp only[Ai]at r⊢
  obtain⟨c1,c2,rfl,h1,h2⟩:=r
  obtain⟨g1,g2⟩:=Ai.lax hs h2
  exact⟨⟨c1,c2,rfl,RepC.lax h h1,g1⟩,by rw[B6,B6,g2,Qk h]⟩
end
inductive LaxD:List Dat->List Dat->Prop
 |nil:LaxD [] []
 |same (d:Dat) {ds es:List Dat} (r:LaxD ds es):LaxD (d::ds) (d::es)
 |lax {x y:Da} {ds es:List Dat} (h:LaxA x y) (r:LaxD ds es):LaxD (.d x::ds) (.d y::es)
theorem AI.lax {I O:List Nat} {ds es:List Dat}(h:LaxD ds es):∀{cs:List Value},AI η I O w ds cs->AI η I O w es cs:=by
 induction h with
 |nil=>intro cs r;exact r
 |same d h ih=>intro cs r;simp only[AI]at r⊢;obtain⟨c1,c2,e,h1,h2⟩:=r;exact⟨c1,c2,e,h1,ih h2⟩
 |lax hx h ih=>intro cs r;simp only[AI]at r⊢;obtain⟨c1,c2,e,h1,h2⟩:=r;exact⟨c1,c2,e,RepC.lax hx h1,ih h2⟩
theorem Models.laxF(hM:Models C B S w0 n fr σ η φ a w) {t:Nat} {x y:Da}(hg:get fr t=.d x)(hl:LaxA x y):Models C B S w0 n ((t,.d y)::fr) σ η φ a w:=by
 refine⟨hM.mem,λs=>?_,hM.defers,hM.size⟩
 simp only[get]
 rcases Bi t s with⟨hb,e⟩|⟨hb,_⟩<;>rw[hb]
 ·subst e
  obtain⟨cs,r1,r2⟩:=hM.fr t
  rw[hg]at r1 r2
  exact⟨cs,RepC.lax hl r1,r2.trans (Qk hl cs)⟩
 ·exact hM.fr s
theorem Models.laxO(hM:Models C B S w0 n fr σ η φ a w) {t:TypeId} {ds es:List Dat}(hg:BO i σ=some (.cells t ds))(hl:LaxD ds es):Models C B S w0 n fr (Br id i (.cells t es) σ) η φ a w:=by
 have hi:=AW (B8 hg)
 have he:Dy φ i (φ i)=φ:=by funext j;by_cases e:j=i<;>simp[Dy,e]
 have hll:=Later.turn (X:=[]) (w':=w) B (Tch.refl [] w) (by simp) hi (F:=φ i) (λb hb=>.inl hb) id (.cells t es)
 rw[he]at hll
 have:=hM.mem.turnSame (X:=[]) (w':=w) (Tch.refl [] w) (by simp) hi (F:=φ i) (λb hb=>.inl hb) (o:=.cells t es) (by
  rw[he]
  obtain⟨b,cs,h1,h2,h3,h4⟩:=hM.mem.own _ (B8 hg)
  exact⟨b,cs,h1,h2,h3,AI.lax hl (AI.later hll (λj hj=>⟨hj,rfl⟩) _ _ h4)⟩)
 rw[he]at this
 exact⟨this,hM.fr.later hll (λj hj=>⟨by rw[Bt];exact hj,rfl⟩),hM.defers,hM.size⟩
theorem Models.nilO(hM:Models C B S w0 n fr σ η φ a w)(E k:Nat)(hi:BO i σ=none):Models C B S w0 n fr ((i,.slice E k [])::σ) (Dy η i (.slice none 0 0)) (Dy φ i []) a w:=by
 have hi':=E3 hi
 obtain⟨hm,hl⟩:=hM.mem.add (Tch.refl [] w) hi' (v:=.slice none 0 0) (F:=[]) (o:=.slice E k []) (by simp) ⟨[],Sl.nil _ _ _ _,rfl,by simp[Ai],by simp⟩
 exact⟨hm,hM.fr.add hi' hl,hM.defers,hM.size⟩
theorem Models.ownF(hM:Models C B S w0 n fr σ η φ a w)(E k:Nat) {t:Nat}(hg:get fr t=.d .nils)(hi:BO i σ=none):Models C B S w0 n ((t,.own i)::fr) ((i,.slice E k [])::σ) (Dy η i (.slice none 0 0)) (Dy φ i []) a w:=by
 have h1:=hM.nilO E k hi
 refine⟨h1.mem,λs=>?_,h1.defers,h1.size⟩
 simp only[get]
 rcases Bi t s with⟨hb,e⟩|⟨hb,_⟩<;>rw[hb]
 ·subst e
  obtain⟨cs,r1,r2⟩:=h1.fr t
  rw[hg]at r1 r2
  simp only[Ay,RepC]at r1
  subst r1
  refine⟨[.slice none 0 0],?_,r2⟩
  simp only[Ay]
  exact⟨by simp[Ba],by rw[CK]⟩
 ·exact h1.fr s
inductive OwnF(i:Nat):List Dat->List Dat->Prop
 |here (ds:List Dat):OwnF i (.d .nils::ds) (.own i::ds)
 |there (d:Dat) {ds es:List Dat} (r:OwnF i ds es):OwnF i (d::ds) (d::es)
theorem AI.ownF {I O:List Nat}(hi:i∈I)(he:η i=.slice none 0 0) {ds es:List Dat}(h:OwnF i ds es):∀{cs:List Value},AI η I O w ds cs->AI η I O w es cs:=by
 induction h with
 |
  here ds=>
  intro cs r
  simp only[AI,Ay,RepC]at r⊢
  obtain⟨c1,c2,e,rfl,h2⟩:=r
  exact⟨_,c2,e,⟨hi,by rw[he]⟩,h2⟩
 |
  there d _ ih=>
  intro cs r
  simp only[AI]at r⊢
  obtain⟨c1,c2,e,h1,h2⟩:=r
  exact⟨c1,c2,e,h1,ih h2⟩
theorem Models.ownO(hM0:Models C B S w0 n fr σ η φ a w)(E k:Nat) {c:Nat} {t:TypeId} {ds es:List Dat}(hi:BO i σ=none)(hg:BO c ((i,.slice E k [])::σ)=some (.cells t ds))(hl:OwnF i ds es):
  Models C B S w0 n fr (Br id c (.cells t es) ((i,.slice E k [])::σ)) (Dy η i (.slice none 0 0)) (Dy φ i []) a w:=by
 have hM:=hM0.nilO E k hi
 generalize hη:Dy η i (Value.slice none 0 0)=η1 at hM⊢
 generalize hφ:Dy φ i ([]:List Nat)=φ1 at hM⊢
 have hηi:η1 i=.slice none 0 0:=by rw[<-hη,CK]
 generalize hσ:(i,Own.slice E k [])::σ=σ1 at hM hg⊢
 have hii:i∈Ba σ1:=by rw[<-hσ];simp[Ba]
 have hc:=AW (B8 hg)
 have he:Dy φ1 c (φ1 c)=φ1:=by funext j;by_cases e:j=c<;>simp[Dy,e]
 have hll:=Later.turn (X:=[]) (w':=w) B (Tch.refl [] w) (by simp) hc (F:=φ1 c) (λb hb=>.inl hb) id (.cells t es)
 rw[he]at hll
 have:=hM.mem.turnSame (X:=[]) (w':=w) (Tch.refl [] w) (by simp) hc (F:=φ1 c) (λb hb=>.inl hb) (o:=.cells t es) (by
  rw[he]
  obtain⟨b,cs,h1,h2,h3,h4⟩:=hM.mem.own _ (B8 hg)
  exact⟨b,cs,h1,h2,h3,AI.ownF hii hηi hl (AI.later hll (λj hj=>⟨hj,rfl⟩) _ _ h4)⟩)
 rw[he]at this
 exact⟨this,hM.fr.later hll (λj hj=>⟨by rw[Bt];exact hj,rfl⟩),hM.defers,hM.size⟩
inductive Lo:Fr->Sg->Fr->Sg->Prop
 |refl (fr:Fr) (σ:Sg):Lo fr σ fr σ
 |frz {fr fr':Fr} {σ σ':Sg} (i:Nat) {E k:Nat} {ds:List Da} (h:BO i σ=some (.slice E k ds)) (r:Lo (FA i (.list k ds) fr) (Dj (BF i (.list k ds)) i σ) fr' σ'):Lo fr σ fr' σ'
 |lax {fr fr':Fr} {σ σ':Sg} (t:Nat) {x y:Da} (h:get fr t=.d x) (hl:LaxA x y) (r:Lo ((t,.d y)::fr) σ fr' σ'):Lo fr σ fr' σ'
 |laxc {fr fr':Fr} {σ σ':Sg} (i:Nat) {t:TypeId} {ds es:List Dat} (h:BO i σ=some (.cells t ds)) (hl:LaxD ds es) (r:Lo fr (Br id i (.cells t es) σ) fr' σ'):Lo fr σ fr' σ'
 |same {fr fr':Fr} {σ σ':Sg} {fr1:Fr} (h:QP fr1 fr) (r:Lo fr1 σ fr' σ'):Lo fr σ fr' σ'
 |own {fr fr':Fr} {σ σ':Sg} (t i E k:Nat) (h:get fr t=.d .nils) (hi:BO i σ=none) (r:Lo ((t,.own i)::fr) ((i,.slice E k [])::σ) fr' σ'):Lo fr σ fr' σ'
 |ownc {fr fr':Fr} {σ σ':Sg} (c i E k:Nat) {t:TypeId} {ds es:List Dat} (hi:BO i σ=none) (h:BO c ((i,.slice E k [])::σ)=some (.cells t ds)) (hl:OwnF i ds es) (r:Lo fr (Br id c (.cells t es) ((i,.slice E k [])::σ)) fr' σ'):Lo fr σ fr' σ'
theorem Lo.models(h:Lo fr σ fr' σ'):∀{η:Nat->Value} {φ:Nat->List Nat},Models C B S w0 n fr σ η φ a w->∃η' φ',Models C B S w0 n fr' σ' η' φ' a w:=by
 induction h with
 |refl=>exactλhM=>⟨_,_,hM⟩
 |frz i h r ih=>exactλhM=>ih (hM.freeze h)
 |lax t h hl r ih=>exactλhM=>ih (hM.laxF h hl)
 |laxc i h hl r ih=>exactλhM=>ih (hM.laxO h hl)
 |same h r ih=>exactλhM=>ih (hM.sub h)
 |own t i E k h hi r ih=>exactλhM=>ih (hM.ownF E k h hi)
 |ownc c i E k hi h hl r ih=>exactλhM=>ih (hM.ownO E k hi h hl)
theorem BK {ι:Type}(H:ι->Prop)(I:ι->Fr)(Z:ι->Sg)(μ:ι->Nat)(x0:ι) {b:Code} {K:KE} {fr0:Fr} {σ0:Sg}(hz:∀x,WJ (I x) (Z x)=true)(h0:H x0)(hf:Lo fr σ fr0 σ0)(hI:QP (I x0) fr0)(hZ:KY (Z x0) σ0)
  (round:∀x,H x->DN C n b (λe fr σ=>match e with|.normal=>∃y fr' σ',H y/\Lo fr σ fr' σ'/\QP (I y) fr'/\KY (Z y) σ'/\μ y<μ x|e=>K e fr σ) (I x) (Z x)):DN C n (.loop b) K fr σ:=by
 refine Bf.2 λB S w0 η φ a w hM=>?_
 obtain⟨η,φ,hM⟩:=hf.models hM
 refine wp_loop_ghost (λm a w=>∃x η φ,H x/\μ x=m/\Models C B S w0 n (I x) (Z x) η φ a w) (μ x0) ⟨x0,η,φ,h0,rfl,(hM.sub hI).only (hz x0) hZ⟩ ?_
 rintro m a w ⟨x,η,φ,hx,rfl,hM⟩
 refine wp_mono (Bf.1 (round x hx) B S w0 η φ a w hM) ?_
 intro e a' w' hq
 cases e with
 |
  normal=>
  obtain⟨fr',σ',η',φ',hM',y,f2,s2,h1,hf,h2,h3,h4⟩:=hq
  obtain⟨η',φ',hM'⟩:=hf.models hM'
  exact⟨μ y,h4,y,η',φ',h1,rfl,(hM'.sub h2).only (hz y) h3⟩
 |exit id=>exact hq
 |goto l=>exact hq
 |ret=>exact hq
 |panic ch=>exact hq
 |outgrown=>exact hq
theorem Models.freezeArgs(hM:Models C B S w0 n fr σ η φ a w)(hg:BO i σ=some (.slice E k ds)) {args:List Dat} {css:List (List Value)}(hr:A0 η (Ba σ) (B++Ah φ σ) w args css):
  A0 η (Ba (Dj (BF i (.list k ds)) i σ)) (B++Ah φ (Dj (BF i (.list k ds)) i σ)) w (EI i (.list k ds) args) css:=by
 have hm:=hM.mem
 have hi:=AW (B8 hg)
 have hsub:∀b∈B++Ah φ (Dj (BF i (.list k ds)) i σ),b∈B\/∃j∈Ba σ,j≠i/\b∈φ j:=by
  intro b hb
  rcases Af.1 hb with hb|hb
  ·exact .inl hb
  ·obtain⟨p,hp,hb⟩:=AB.1 hb
   obtain⟨q,hq,hne,rfl⟩:=Er hp
   exact .inr ⟨q.1,AW hq,hne,hb⟩
 have hl:Later (B++Ah φ σ) w (B++Ah φ (Dj (BF i (.list k ds)) i σ)) w:=⟨Az _,λ_ _ _=>rfl,λb hn _ hb=>by
  rcases hsub b hb with h|⟨j,hj,_,h⟩
  ·exact hn (Aq _ h)
  ·exact hn (An _ (Bb hj h))⟩
 have hr0:RepC (B++Ah φ (Dj (BF i (.list k ds)) i σ)) w (.list k ds) [η i]:=by
  obtain⟨css,hs,e2,hrr,hk⟩:=Bn hm hg
  have hlen:=Cc hrr
  have hr2:=Ai.later hl _ _ hrr
  simp only[RepC]
  rcases hs.shape with⟨he,hn⟩|⟨g,cap,he,hc⟩
  ·subst hn
   have:ds=[]:=Aw hlen.symm
   subst this
   exact⟨none,0,[],by rw[he];rfl,by simp,by unfold maxLen;omega,by simp[Ai],by simp,.inl rfl⟩
  ·have hgi:g∈φ i:=by rw[e2,he];simp[Value.ownBlock]
   refine⟨_,cap,css,by rw[he,hlen],by omega,?_,hr2,hk,.inr ⟨g,0,rfl,?_,hs.lt (by rw[he];rfl),FX hs he⟩⟩
   ·rcases hs.2 with⟨h1,_⟩|⟨_,_,_,h1,_,_,_,h2,_⟩
    ·rw[he]at h1;cases h1
    ·rw[he]at h1;cases h1;exact h2
   ·intro hb
    rcases hsub g hb with h|⟨j,hj,hne,h⟩
    ·exact Lk hm hi hgi h
    ·exact hm.disj j hj i hi hne g h hgi
 exact A0.kill rfl hl (λj hj hne=>⟨by rw[DW];exact Bg.2 ⟨hj,by simpa using hne⟩,rfl⟩) hr0 _ _ hr
theorem CG(i:Nat) {q:Bool} {f:FuncId} {args:List Dat} {K:KD}(hg:BO i σ=some (.slice E k ds))(h:BG C q f (EI i (.list k ds) args) K (FA i (.list k ds) fr) (Dj (BF i (.list k ds)) i σ)):BG C q f args K fr σ:=by
 unfold BG at h⊢
 rintro B S w0 η φ n a w vs hM ⟨css,hr,rfl⟩
 have:=hM.freezeArgs hg hr
 exact h B S w0 η φ n a w _ (hM.freeze hg) ⟨css,this,by rw[Ez rfl]⟩
mutual
def I5:Dat->List Nat->(List Nat->Prop)->Prop
 |.d _,J,K=>K J
 |.own i,J,K=>(match DO i J with|true=>K J|false=>K (i::J))
 |.at_ i _,J,K=>(match DO i J with|true=>K J|false=>K (i::J))
 |.el i _ _ _,J,K=>(match DO i J with|true=>K J|false=>K (i::J))
 |.agg ds,J,K=>IG ds J K
 |.tuple ds,J,K=>IG ds J K
 |.iface _ d,J,K=>I5 d J K
 |.func _ f c,J,K=>IG f J λJ=>IG c J K
def IG:List Dat->List Nat->(List Nat->Prop)->Prop
 |[],J,K=>K J
 |d::ds,J,K=>I5 d J λJ=>IG ds J K
end
mutual
theorem Qh:∀(d:Dat) {J:List Nat} {K:List Nat->Prop},I5 d J K->∃J,K J
 |.d _,J,K,h=>⟨_,h⟩
 |.own i,J,K,h=>by simp only[I5]at h;split at h<;>exact⟨_,h⟩
 |.at_ i _,J,K,h=>by simp only[I5]at h;split at h<;>exact⟨_,h⟩
 |.el i _ _ _,J,K,h=>by simp only[I5]at h;split at h<;>exact⟨_,h⟩
 |.agg ds,J,K,h=>Gf ds (by simpa only[I5]using h)
 |.tuple ds,J,K,h=>Gf ds (by simpa only[I5]using h)
 |.iface _ d,J,K,h=>Qh d (by simpa only[I5]using h)
 |
  .func _ f c,J,K,h=>by
  simp only[I5]at h
  obtain⟨_,h⟩:=Gf f h
  exact Gf c h
theorem Gf:∀(ds:List Dat) {J:List Nat} {K:List Nat->Prop},IG ds J K->∃J,K J
 |[],J,K,h=>⟨_,h⟩
 |
  d::ds,J,K,h=>by
  simp only[IG]at h
  obtain⟨_,h⟩:=Qh d h
  exact Gf ds h
end
def EJ(J:List Nat):Sg->Sg
 |[]=>[]
 |
  (i,o)::σ=>match DO i J with
  |true=>(i,o)::EJ J σ
  |false=>EJ J σ
theorem A6 {l:List Oper} {ks p:List Nat} {K:Fr->Sg->Prop} {B:Prop}(h1:EP C T n l ks K p fr σ)(h2:B):EP C T n l ks K p fr σ/\B:=⟨h1,h2⟩
theorem ify {p A B:Prop}(h:A)(hp:p:=by first|omega|rfl|assumption|exact⟨rfl,rfl⟩|exact⟨rfl,rfl,rfl⟩|exact⟨rfl,rfl,rfl,rfl⟩):(p->A)/\(¬p->B):=OR hp h
theorem ifn {p A B:Prop}(h:B)(hp:¬p:=by first|omega|assumption|exactλh=>h rfl|exactλh=>h (by assumption)|exactλh=>h ⟨rfl,rfl⟩|exactλh=>h ⟨rfl,rfl,rfl⟩|exactλh=>h ⟨rfl,rfl,rfl,rfl⟩):(p->A)/\(¬p->B):=SA hp h
theorem i6 {e:Int} {K:Int->Prop}(hK:K e)(h:-9223372036854775808<=e/\e<=9223372036854775807:=by omega):∃n,IntKind.i64.wrap e=n/\K n:=OS h hK
theorem ati {α:Type} {f:α->Da} {l:List α} {i:Nat} {n:Int} {x:α} {K:Nat->Da->Prop}(hK:K i (f x))(hn:n=i:=by rfl)(hx:l[i]? =some x:=by assumption):∃(j:Nat) (d:Da),n=j/\(l.map f)[j]? =some d/\K j d:=SQ hn hx hK
theorem mst {a b:Nat} {K:Prop}(hK:K)(h:a<=4294967296:=by((try simp only[Ao,Ac,Au,Bh,B5,List.length_drop,List.length_set,J5]);omega))(hb:Nat.ble b 32768=true:=by rfl)(h0:Nat.blt 0 b=true:=by rfl):a<=Ft b/\K:=Ih h hK hb h0
theorem rmd {b:Int} {K:Prop}(hK:K)(h:b≠0:=by first|decide|omega):b≠0/\K:=O8 h hK
theorem AX {p A B:Prop}(h:p->A)(h2:¬p->B):(p->A)/\(¬p->B):=⟨h,h2⟩
theorem odw {l:List Oper} {ks p:List Nat} {K:Fr->Sg->Prop} {B:Prop}(h2:B)(h1:EP C T n l ks K p fr σ:=by((conv=>whnf);(repeat' ((first|refine nx ?_|refine AX (λ_=>?_) (λ_=>?_))<;>conv=>whnf));(all_goals (repeat' (first|exact trivial|exact rfl|refine And.intro ?_ ?_))))):EP C T n l ks K p fr σ/\B:=⟨h1,h2⟩
end
theorem Bj {F fr:Fr} {Z σ:Sg}(h:QP F fr:=by(repeat' (first|exact trivial|exact rfl|refine And.intro ?_ ?_)))(h2:σ=Z:=by exact rfl):QP F fr/\σ=Z:=⟨h,h2⟩
def Ls(Q P:Prop):Prop:=Q->P
section
variable {Q:Prop}
theorem Ls.id:Ls Q Q:=λq=>q
theorem Ls.ify {p A B:Prop}(h:Ls Q A)(hp:p:=by first|omega|rfl|assumption|exact⟨rfl,rfl⟩|exact⟨rfl,rfl,rfl⟩|exact⟨rfl,rfl,rfl,rfl⟩):Ls Q ((p->A)/\(¬p->B)):=λq=>OR hp (h q)
theorem Ls.ifn {p A B:Prop}(h:Ls Q B)(hp:¬p:=by first|omega|assumption|exactλh=>h rfl|exactλh=>h (by assumption)|exactλh=>h ⟨rfl,rfl⟩|exactλh=>h ⟨rfl,rfl,rfl⟩|exactλh=>h ⟨rfl,rfl,rfl,rfl⟩):Ls Q ((p->A)/\(¬p->B)):=λq=>SA hp (h q)
theorem Ls.i6 {e:Int} {K:Int->Prop}(hK:Ls Q (K e))(h:-9223372036854775808<=e/\e<=9223372036854775807:=by omega):Ls Q (∃n,IntKind.i64.wrap e=n/\K n):=λq=>OS h (hK q)
theorem Ls.ati {α:Type} {f:α->Da} {l:List α} {i:Nat} {n:Int} {x:α} {K:Nat->Da->Prop}(hK:Ls Q (K i (f x)))(hn:n=i:=by rfl)(hx:l[i]? =some x:=by assumption):Ls Q (∃(j:Nat) (d:Da),n=j/\(l.map f)[j]? =some d/\K j d):=λq=>SQ hn hx (hK q)
theorem Ls.mst {a b:Nat} {K:Prop}(hK:Ls Q K)(h:a<=4294967296:=by((try simp only[Ao,Ac,Au,Bh,B5,List.length_drop,List.length_set,J5]);omega))(hb:Nat.ble b 32768=true:=by rfl)(h0:Nat.blt 0 b=true:=by rfl):Ls Q (a<=Ft b/\K):=λq=>Ih h (hK q) hb h0
theorem Ls.rmd {b:Int} {K:Prop}(hK:Ls Q K)(h:b≠0:=by first|decide|omega):Ls Q (b≠0/\K):=λq=>O8 h (hK q)
theorem nx {P:Prop}(h:Q)(w:Ls Q P:=by first|exact .ify .id|exact .ifn .id|exact .i6 .id|exact .ati .id|exact .mst .id|exact .rmd .id):P:=w h
theorem Ls.odw {C:Cx} {T:ED} {n:Nat} {fr:Fr} {σ:Sg} {l:List Oper} {ks p:List Nat} {K:Fr->Sg->Prop} {B:Prop}(h2:Ls Q B)(h1:EP C T n l ks K p fr σ:=by((conv=>whnf);(repeat' ((first|refine Go.Sx.nx ?_|refine AX (λ_=>?_) (λ_=>?_))<;>conv=>whnf));(all_goals (repeat' (first|exact trivial|exact rfl|refine And.intro ?_ ?_))))):Ls Q (EP C T n l ks K p fr σ/\B):=λq=>⟨h1,h2 q⟩
end
end Go.Sx
