/- Sxt. -/
import Derived.Test.YtjpmmkodoeipmaaGreatDoorrkaj
import Derived.Test.YtjpmmkodoeipmaaGreatDoorrkak
namespace Go.Sx
open Go Go.RowKit Go.Reg
section
variable {C:Cx} {T:Hh} {B S:List Nat} {w0 w:World} {n kd:Nat} {fr:Fr} {σ:Sg} {η:Nat->Value} {φ:Nat->List Nat} {a:Act} {v:Value}
theorem Vz {P:Program} {t:TypeId} {v u:Value} {w:World}(h:(Instr.loadAt t v).run P w=.ok u w):(do loadVar t (<-asAddr v):Sem Value).run P w=.ok u w:=by
 cases v<;>first|(simp[Instr.loadAt,Instr.sureAddr]at h;done)|skip
 rename_i a
 cases a with
 |none=>simp[Instr.loadAt,Instr.sureAddr]at h
 |some a=>simpa[Instr.loadAt,Instr.sureAddr,asAddr]using h
def ZE(tmps:Array Value):ResultVar->Sem Value
 |.tmp t=>pure (tmps.getD t Go.undef)
 |.cell a t=>do loadVar t (<-asAddr (tmps.getD a Go.undef))
theorem Le(fn:Func)(tmps:Array Value):results fn tmps=(do let vs<-fn.results.mapM (ZE tmps);pure (if h:vs.size=1 then vs[0]else .tuple vs)):=by
 unfold results
 congr 1
theorem Tw(hC:C.Ok T)(hM:Models C B S w0 n fr σ η φ a w):∀(rs:List ResultVar) {K:List Dat->Prop},Tx T rs fr σ K->∃ds vs css,K ds/\(rs.mapM (ZE a.tmps)).run C.P w=.ok vs w/\AE η (BA σ) (B++Ao φ σ) w ds css/\vs=List.zipWith Ch ds css
 |[],K,h=>⟨[],[],[],h,by simp,by simp[AE],by simp⟩
 |
  .tmp t::rs,K,h=>by
  simp only[Tx]at h
  obtain⟨ds,vs,css,h1,h2,h3,h4⟩:=Tw hC hM rs (RD.force h)
  obtain⟨cs,r1,r2⟩:=hM.fr t
  refine⟨_,a.tmps.getD t Go.undef::vs,cs::css,h1,?_,⟨cs,css,rfl,r1,h3⟩,by simp[h4,r2]⟩
  simp only[List.mapM_cons,ZE,AK,Bo,AF,h2]
 |
  .cell t ty::rs,K,h=>by
  simp only[Tx]at h
  rcases VZ hC hM.mem (vx:=a.tmps.getD t Go.undef) (hM.fr t) h with h|⟨d,v,g1,g2,cs,g3,g4⟩
  ·exact h.elim
  ·obtain⟨ds,vs,css,h1,h2,h3,h4⟩:=Tw hC hM rs g1
   refine⟨_,v::vs,cs::css,h1,?_,⟨cs,css,rfl,g3,h3⟩,by simp[h4,g4]⟩
   have g5:=Vz g2
   simp only[AK]at g5
   simp only[List.mapM_cons,ZE,AK,Bo,AF,g5,h2]
theorem Iw {ds:List Dat} {xs:List Da} {css:List (List Value)}(h:EX ds=some xs)(hr:AE η (BA σ) (B++Ao φ σ) w ds css):Aq (B++Ao φ σ) w xs css/\List.zipWith Ch ds css=List.zipWith Ea xs css:=by
 rw[E4 h]at hr⊢
 exact⟨Ek.1 hr,Ej _ _⟩
theorem ZI {ds:List Dat} {css:List (List Value)}(h:AE η (BA σ) (B++Ao φ σ) w ds css):RD B σ η φ w (nD ds) (.tuple (List.zipWith Ch ds css).toArray):=by
 unfold nD
 split
 ·rename_i xs hx
  obtain⟨h1,h2⟩:=Iw hx h
  exact⟨[_],by simp only[AH,RepC];exact⟨css,h1,by rw[h2]⟩,rfl⟩
 ·exact⟨[_],by simp only[AH];exact⟨css,h,rfl⟩,rfl⟩
def ACL(C:Cx)(B S:List Nat)(w0:World)(K:Dat->Sg->Prop)(e:Ending)(w':World):Prop:=
 ∃v d σ η φ,e=.returned v/\K d σ/\Mem C B S w0 σ η φ w'/\RD B σ η φ w' d v
theorem zX(hC:C.Ok T) {fn:Func} {K:Dat->Sg->Prop} {e:Exit}(h:QK C B S w0 n (J8 T fn.results.toList K) e a w):bodyPost C.P fn (ACL C B S w0 K) e a w:=by
 have key:∀{fr σ η φ},Models C B S w0 n fr σ η φ a w->Tx T fn.results.toList fr σ (λds=>match ds with
   |[d]=>K d σ
   |ds=>force (nD ds) λd=>K d σ)->a.defers=[]/\∃v,(results fn a.tmps).run C.P w=.ok v w/\ACL C B S w0 K (.returned v) w:=by
  intro fr σ η φ hM hr
  obtain⟨ds,vs,css,h1,h2,h3,h4⟩:=Tw hC hM _ hr
  refine⟨hM.defers,?_⟩
  have hlen:vs.length=ds.length:=by
   have:∀{ds:List Dat} {css:List (List Value)},AE η (BA σ) (B++Ao φ σ) w ds css->css.length=ds.length:=by
    intro ds
    induction ds with
    |nil=>intro css h;simp only[AE]at h;subst h;rfl
    |cons d ds ih=>intro css h;simp only[AE]at h;obtain⟨c1,c2,rfl,_,h⟩:=h;simp[ih h]
   rw[h4];simp[this h3]
  have hmap:(fn.results.mapM (ZE a.tmps)).run C.P w=.ok vs.toArray w:=by
   rw[fH,Sem.run_map,h2];rfl
  match ds,css,h1,h3,h4,hlen with
  |
   [d],css,h1,h3,h4,hlen=>
   simp only[AE]at h3
   obtain⟨c1,c2,rfl,r1,rfl⟩:=h3
   simp at h4
   subst h4
   refine⟨Ch d c1,?_,_,d,σ,η,φ,rfl,h1,hM.mem,c1,r1,rfl⟩
   rw[Le,AK,hmap]
   simp
  |
   [],css,h1,h3,h4,hlen=>
   have hv:vs=[]:=AJ hlen
   subst hv
   refine⟨.tuple #[],?_,_,_,σ,η,φ,rfl,RD.force h1,hM.mem,?_⟩
   ·rw[Le,AK,hmap]
    simp
   ·have:=ZI h3;simpa using this
  |
   d1::d2::ds,css,h1,h3,h4,hlen=>
   refine⟨.tuple vs.toArray,?_,_,_,σ,η,φ,rfl,RD.force h1,hM.mem,?_⟩
   ·rw[Le,AK,hmap]
    have:¬vs.toArray.size=1:=by simp;simp at hlen;omega
    simp only[AF,dif_neg this,Bo]
   ·have:=ZI h3;rw[h4];exact this
 cases e with
 |normal=>obtain⟨fr,σ,η,φ,hM,hr⟩:=h;exact key hM hr
 |ret=>obtain⟨fr,σ,η,φ,hM,hr⟩:=h;exact key hM hr
 |exit id=>obtain⟨fr,σ,η,φ,hM,hr⟩:=h;exact hr.elim
 |goto l=>obtain⟨fr,σ,η,φ,hM,hr⟩:=h;exact hr.elim
 |panic ch=>exact h.elim
 |outgrown=>exact h.elim
def params:List Dat->Nat->Fr
 |[],_=>[]
 |d::ds,i=>(i,d)::params ds (i+1)
theorem O4 {I O:List Nat}:∀{ds:List Dat} {css:List (List Value)} (i:Nat),AE η I O w ds css->∀(a:Act),(∀j u,(List.zipWith Ch ds css)[j]? =some u->a.tmps.getD (i+j) Go.undef=u)->∀t,∃cs,AH η I O w (get (params ds i) t) cs/\a.tmps.getD t Go.undef=Ch (get (params ds i) t) cs
 |[],css,i,h,a,ha,t=>⟨[a.tmps.getD t Go.undef],by simp[params,get,AH,RepC],rfl⟩
 |
  d::ds,css,i,h,a,ha,t=>by
  simp only[AE]at h
  obtain⟨c1,c2,rfl,h1,h2⟩:=h
  simp only[params,get]
  rcases BN i t with⟨hb,e⟩|⟨hb,e⟩
  ·rw[hb]
   exact⟨c1,h1,by have:=ha 0 _ (by simp;rfl);rw[<-e];simpa using this⟩
  ·rw[hb]
   exact O4 (i+1) h2 a (λj u hj=>by rw[show i+1+j=i+(j+1)by omega];exact ha (j+1) u (by simpa using hj)) t
theorem Hg(hC:C.Ok T) {G:List FuncId} {pl:List (Nat×Plan)} {f:FuncId} {fn:Func} {c:Code}(hf:C.P.funcs[f]? =some fn)(hb:fn.body=some c)(hn:fn.ntmps=n)(hk:CH C.P G pl c=true) {K:Dat->Sg->Prop}
  {ds:List Dat} {css:List (List Value)} (hr:AE η (BA σ) (B++Ao φ σ) w ds css) (hl:ds.length<=n) (hm:Mem C B S w0 σ η φ w)
  (h:En C T n pl c (J8 T fn.results.toList K) (params ds 0) σ):Calls C.P f (List.zipWith Ch ds css).toArray w (ACL C B S w0 K):=by
 refine calls_of_wp hf hb ?_
 have hlen:(List.zipWith Ch ds css).length=ds.length:=by
  have:∀{ds:List Dat} {css:List (List Value)},AE η (BA σ) (B++Ao φ σ) w ds css->css.length=ds.length:=by
   intro ds
   induction ds with
   |nil=>intro css h;simp only[AE]at h;subst h;rfl
   |cons d ds ih=>intro css h;simp only[AE]at h;obtain⟨c1,c2,rfl,_,h⟩:=h;simp[ih h]
  simp[this hr]
 have hM:Models C B S w0 n (params ds 0) σ η φ {tmps:=(List.zipWith Ch ds css).toArray++Array.replicate (fn.ntmps- (List.zipWith Ch ds css).toArray.size) undef,defers:=[]} w:=by
  refine⟨hm,O4 0 hr _ (λj u hj=>?_),rfl,?_⟩
  ·have hlt:=(Ae.1 hj).1
   simp only[DT,Array.getD_eq_getD_getElem?]
   rw[GC (by simpa using hlt)]
   simp[hj]
  ·simp only[Pr,BC,Array.size_replicate,hn];omega
 exact wp_mono (BY.1 (DE hC c _ _ _ hk h) B S w0 η φ _ w hM) (λe a w hq=>zX hC hq)
def Glob(C:Cx)(O:List Nat)(w:World):Prop:=∀g∈C.Γ,GRep O w g
def Pure(C:Cx)(f:FuncId)(xs:List Da)(Q:Da->Prop):Prop:=
 ∀(O:List Nat) (w:World) (vs:List Value),(∀b∈O,b<w.heap.size)->Glob C O w->Jw O w xs vs->
  (callFunc f vs.toArray).run C.P w=.ok (.enter f vs.toArray) w/\Calls C.P f vs.toArray w λe w'=>∃v y,e=.returned v/\Q y/\Rep O w' y v/\Tch [] w w'
mutual
def Da.plain:Da->Da
 |.prop p i=>.bool (@decide p i)
 |.agg ds=>.agg (JQ ds)
 |.tuple ds=>.tuple (JQ ds)
 |d=>d
def JQ:List Da->List Da
 |[]=>[]
 |d::ds=>d.plain::JQ ds
end
theorem QQ(d:Da)(cs:List Value):Ea d.plain cs=Ea d cs:=by cases d<;>rfl
mutual
theorem RepC.plain {O:List Nat} {w:World}:∀(d:Da) (cs:List Value),RepC O w d cs->RepC O w d.plain cs
 |.prop p i,cs,h=>by simpa only[Da.plain,RepC]using h
 |.agg ds,cs,h=>by simp only[Da.plain,RepC]at h⊢;exact RepCs.plain ds cs h
 |
  .tuple ds,cs,h=>by
  simp only[Da.plain,RepC]at h⊢
  obtain⟨css,h1,h2⟩:=h
  obtain⟨g1,g2⟩:=Aq.plain ds css h1
  exact⟨css,g1,by rw[h2,g2]⟩
 |.undef,cs,h=>h
 |.int _ _,cs,h=>h
 |.bool _,cs,h=>h
 |.str _,cs,h=>h
 |.nilp,cs,h=>h
 |.nils,cs,h=>h
 |.nilm,cs,h=>h
 |.nilf,cs,h=>h
 |.nili,cs,h=>h
 |.iface _ _,cs,h=>h
 |.ref _,cs,h=>h
 |.list _ _,cs,h=>h
 |.func _ _ _,cs,h=>h
 |.raw _,cs,h=>h
theorem RepCs.plain {O:List Nat} {w:World}:∀(ds:List Da) (cs:List Value),RepCs O w ds cs->RepCs O w (JQ ds) cs
 |[],cs,h=>h
 |
  d::ds,cs,h=>by
  simp only[RepCs,JQ]at h⊢
  obtain⟨c1,c2,rfl,h1,h2⟩:=h
  exact⟨c1,c2,rfl,RepC.plain d c1 h1,RepCs.plain ds c2 h2⟩
theorem Aq.plain {O:List Nat} {w:World}:∀(ds:List Da) (css:List (List Value)),Aq O w ds css->Aq O w (JQ ds) css/\List.zipWith Ea (JQ ds) css=List.zipWith Ea ds css
 |[],css,h=>⟨h,rfl⟩
 |
  d::ds,css,h=>by
  simp only[Aq,JQ]at h⊢
  obtain⟨c1,c2,rfl,h1,h2⟩:=h
  obtain⟨g1,g2⟩:=Aq.plain ds c2 h2
  exact⟨⟨c1,c2,rfl,RepC.plain d c1 h1,g1⟩,by simp only[Bh,QQ,g2]⟩
end
def EA(T:Hh)(σ:Sg):Nat->Dat->Option Da
 |0,_=>none
 |
  k+1,d=>match d with
  |.d x=>some x
  |
   .own i=>(match BI i σ with
   |some (.slice _ k ds)=>some (.list k ds)
   |
    some (.cells t ds)=>(match closeL (EA T σ k) ds with
    |
     some xs=>(match GQ t T with
     |
      some e=>(match e.agg with
      |true=>some (.ref (.agg xs))
      |
       false=>(match xs with
       |[x]=>some (.ref x)
       |_=>none))
     |none=>none)
    |none=>none)
   |_=>none)
  |
   .agg ds=>(match closeL (EA T σ k) ds with
   |some xs=>some (.agg xs)
   |none=>none)
  |
   .tuple ds=>(match closeL (EA T σ k) ds with
   |some xs=>some (.tuple xs)
   |none=>none)
  |
   .iface t d=>(match EA T σ k d with
   |some x=>some (.iface t x)
   |none=>none)
  |
   .func fn f c=>(match closeL (EA T σ k) f,closeL (EA T σ k) c with
   |some fs,some cs=>some (.func fn fs cs)
   |_,_=>none)
  |_=>none
 where
 closeL (f:Dat->Option Da):List Dat->Option (List Da)
  |[]=>some []
  |
   d::ds=>match f d,closeL f ds with
   |some x,some xs=>some (x::xs)
   |_,_=>none
theorem PU(hm:Mem C B S w0 σ η φ w) {i:Nat}(hi:i∈BA σ) {b:Nat}(hb:b∈φ i):b∉B:=λh=>by
 rcases hm.new i hi b hb with h2|h2
 ·exact h2.2 h
 ·have:=hm.out b h;omega
theorem Tb(_hm:Mem C B S w0 σ η φ w):Later (B++Ao φ σ) w B w:=⟨Ax _,λ_ _ _=>rfl,λ_b h _ hm=>h (Au _ hm)⟩
theorem MP(hm:Mem C B S w0 σ η φ w):∀(k:Nat) (d:Dat) {x:Da} {cs:List Value},EA T σ k d=some x->AH η (BA σ) (B++Ao φ σ) w d cs->RepC B w x cs/\Ch d cs=Ea x cs
 |0,d,x,cs,h,hr=>by simp[EA]at h
 |
  k+1,d,x,cs,h,hr=>by
  have listC:∀(ds:List Dat) {xs:List Da} {cs:List Value},EA.closeL (EA T σ k) ds=some xs->B6 η (BA σ) (B++Ao φ σ) w ds cs->RepCs B w xs cs:=by
   intro ds
   induction ds with
   |nil=>intro xs cs h hr;simp[EA.closeL]at h;subst h;simpa[B6,RepCs]using hr
   |
    cons d ds ih=>
    intro xs cs h hr
    simp only[EA.closeL]at h
    split at h
    ·rename_i x xs' h1 h2
     simp at h;subst h
     simp only[B6]at hr
     obtain⟨c1,c2,rfl,r1,r2⟩:=hr
     exact⟨c1,c2,rfl,(MP hm k d h1 r1).1,ih h2 r2⟩
    ·cases h
  have listCs:∀(ds:List Dat) {xs:List Da} {css:List (List Value)},EA.closeL (EA T σ k) ds=some xs->AE η (BA σ) (B++Ao φ σ) w ds css->Aq B w xs css/\List.zipWith Ch ds css=List.zipWith Ea xs css:=by
   intro ds
   induction ds with
   |nil=>intro xs cs h hr;simp[EA.closeL]at h;subst h;simp only[AE]at hr;subst hr;simp[Aq]
   |
    cons d ds ih=>
    intro xs cs h hr
    simp only[EA.closeL]at h
    split at h
    ·rename_i x xs' h1 h2
     simp at h;subst h
     simp only[AE]at hr
     obtain⟨c1,c2,rfl,r1,r2⟩:=hr
     obtain⟨g1,g2⟩:=MP hm k d h1 r1
     obtain⟨g3,g4⟩:=ih h2 r2
     exact⟨⟨c1,c2,rfl,g1,g3⟩,by simp[g2,g4]⟩
    ·cases h
  simp only[EA]at h
  split at h
  ·simp at h;subst h
   exact⟨RepC.later (Tb hm) _ _ (by simpa only[AH]using hr),rfl⟩
  ·rename_i i
   simp only[AH]at hr
   obtain⟨hi,rfl⟩:=hr
   split at h
   ·rename_i E k' ds hg
    simp at h;subst h
    obtain⟨css,hs,e2,hrr,hk⟩:=BV hm hg
    have hl:=De hrr
    have hrB:=Aq.later (Tb hm) _ _ hrr
    refine⟨?_,rfl⟩
    simp only[RepC]
    rcases hs.shape with⟨he,hn⟩|⟨g,cap,he,hc⟩
    ·subst hn
     have:ds=[]:=AJ hl.symm
     subst this
     exact⟨none,0,[],by rw[he];rfl,by simp,by unfold maxLen;omega,by simp[Aq],by simp,.inl rfl⟩
    ·refine⟨_,cap,css,by rw[he,hl],by omega,?_,hrB,hk,.inr ⟨g,0,rfl,?_,?_,Kl hs he⟩⟩
     ·rcases hs.2 with⟨h1,_⟩|⟨_,_,_,h1,_,_,_,h2,_⟩
      ·rw[he]at h1;cases h1
      ·rw[he]at h1;cases h1;exact h2
     ·exact PU hm hi (by rw[e2,he];simp[Value.ownBlock])
     ·exact hs.lt (by rw[he];rfl)
   ·rename_i t ds hg
    split at h
    ·rename_i xs hxs
     split at h
     ·rename_i e he
      obtain⟨b,cs,e1,e2,hb,hrr⟩:=DX hm hg
      have hxr:=listC ds hxs hrr
      have hbB:=PU hm hi (b:=b) (by rw[e2];simp)
      have hcell:Fv w b 0 cs:=λj u hj=>by have:=hb.cell hj;simpa using this
      split at h
      ·simp at h;subst h
       refine⟨?_,rfl⟩
       simp only[RepC]
       exact⟨b,0,cs,by rw[e1],hbB,hb.lt,hxr,hcell⟩
      ·split at h
       ·simp at h;subst h
        refine⟨?_,rfl⟩
        simp only[RepCs]at hxr
        obtain⟨c1,c2,rfl,r1,rfl⟩:=hxr
        simp only[RepC]
        exact⟨b,0,c1,by rw[e1],hbB,hb.lt,r1,by simpa using hcell⟩
       ·cases h
     ·cases h
    ·cases h
   ·cases h
  ·split at h
   ·rename_i xs hxs
    simp at h;subst h
    simp only[AH]at hr
    exact⟨by simp only[RepC];exact listC _ hxs hr,rfl⟩
   ·cases h
  ·split at h
   ·rename_i xs hxs
    simp at h;subst h
    simp only[AH]at hr
    obtain⟨css,r1,rfl⟩:=hr
    obtain⟨g1,g2⟩:=listCs _ hxs r1
    exact⟨by simp only[RepC];exact⟨css,g1,by rw[g2]⟩,rfl⟩
   ·cases h
  ·split at h
   ·rename_i y hy
    simp at h;subst h
    simp only[AH]at hr
    obtain⟨c,r1,rfl⟩:=hr
    obtain⟨g1,g2⟩:=MP hm k _ hy r1
    exact⟨by simp only[RepC];exact⟨c,g1,by rw[g2]⟩,rfl⟩
   ·cases h
  ·split at h
   ·rename_i fs cs' hf hc
    simp at h;subst h
    simp only[AH]at hr
    obtain⟨fs0,cs0,r1,r2,rfl⟩:=hr
    obtain⟨g1,g2⟩:=listCs _ hf r1
    obtain⟨g3,g4⟩:=listCs _ hc r2
    exact⟨by simp only[RepC];exact⟨fs0,cs0,g1,g3,by rw[g2,g4]⟩,rfl⟩
   ·cases h
  ·cases h
def oM(T:Hh)(Q:Da->Prop):Dat->Sg->Prop:=λd σ=>DB (EA T σ 9 d) False λy=>Q y.plain
theorem WJ(hO:∀b∈B,b<w.heap.size)(hg:Glob C B w)(η:Nat->Value)(φ:Nat->List Nat):Mem C B [] w [] η φ w:=
 ⟨Tch.refl _ _,by simp,by simp[BA],by simp[BA],by simp[BA],hO,by unfold Glob at hg;simpa[Ao]using hg⟩
theorem mQ(hC:C.Ok T) {G:List FuncId} {pl:List (Nat×Plan)} {f:FuncId} {fn:Func} {c:Code}(hf:C.P.funcs[f]? =some fn)(hb:fn.body=some c)(hn:fn.ntmps=n)(hrun:∀(vs:Array Value) (w:World),(callFunc f vs).run C.P w=.ok (.enter f vs) w)(hk:CH C.P G pl c=true) {xs:List Da} {Q:Da->Prop}(hl:xs.length<=n)
  (h:En C T n pl c (J8 T fn.results.toList (oM T Q)) (params (Ct xs) 0) []):Pure C f xs Q:=by
 intro O w vs hO hg hr
 obtain⟨css,h1,rfl⟩:=hr
 refine⟨hrun _ _,?_⟩
 have hr2:AE (λ_=>Go.undef) (BA []) (O++Ao (λ_=>[]) []) w (Ct xs) css:=Ek.2 (by simpa[Ao]using h1)
 have hlen:(Ct xs).length<=n:=by
  have:∀xs:List Da,(Ct xs).length=xs.length:=λxs=>by induction xs with|nil=>rfl|cons x xs ih=>simp[Ct,ih]
  rw[this];exact hl
 have:=Hg hC hf hb hn hk hr2 hlen (WJ hO hg _ _) h
 rw[Ej]at this
 refine this.mono ?_
 rintro e w' ⟨v,d,σ,η,φ,rfl,hK,hm,cs,g1,g2⟩
 unfold oM at hK
 rcases Bz hK with hK|⟨y,hy,hQ⟩
 ·exact hK.elim
 obtain⟨q1,q2⟩:=MP hm 9 d hy g1
 exact⟨v,y.plain,rfl,hQ,⟨cs,RepC.plain y cs q1,g2.trans (q2.trans (QQ y cs).symm)⟩,hm.tch⟩
theorem AS {q:Bool} {f:FuncId} {args:List Dat} {xs:List Da} {Q:Da->Prop} {K:KD}(ha:EX args=some xs)(hp:Pure C f xs Q)(hK:∀y,Q y->K (.d y) fr σ):Cj C q f args K fr σ:=by
 unfold Cj
 rintro B S w0 η φ n a w vs hM ⟨css,hr,rfl⟩
 obtain⟨h1,h2⟩:=Iw ha hr
 rw[h2]
 obtain⟨g1,g2⟩:=hp (B++Ao φ σ) w _ hM.mem.lt hM.mem.glob ⟨css,h1,rfl⟩
 refine⟨g1,g2.mono ?_⟩
 rintro e w' ⟨v,y,rfl,hQ,hv,ht⟩
 exact⟨v,.d y,fr,σ,η,φ,rfl,hK y hQ,⟨hM.mem.grow ht,hM.fr.later (Later.same ht _) (λi hi=>⟨hi,rfl⟩),hM.defers,hM.size⟩,hv,λ_=>ht.ext⟩
end
end Go.Sx
namespace Go.Sx
open Go Go.RowKit Go.Reg
theorem zG {p A B:Prop}(hp:p)(h:A):(p->A)/\(¬p->B):=⟨λ_=>h,λhn=>absurd hp hn⟩
theorem nS {p A B:Prop}(hp:¬p)(h:B):(p->A)/\(¬p->B):=⟨λh=>absurd h hp,λ_=>h⟩
theorem AF9 {p A B:Prop}(h:p->A)(h2:¬p->B):(p->A)/\(¬p->B):=⟨h,h2⟩
theorem QL {e:Int}(h:-9223372036854775808<=e/\e<=9223372036854775807):IntKind.i64.wrap e=e:=IntWalk.i64_in _ h
theorem HP {e:Int} {K:Int->Prop}(h:-9223372036854775808<=e/\e<=9223372036854775807)(hK:K e):∃n,IntKind.i64.wrap e=n/\K n:=⟨e,QL h,hK⟩
theorem ACZ {α:Type} {f:α->Da} {l:List α} {i:Nat} {n:Int} {x:α} {K:Nat->Da->Prop}(hn:n=i)(hx:l[i]? =some x)(hK:K i (f x)):∃(j:Nat) (d:Da),n=j/\(l.map f)[j]? =some d/\K j d:=⟨i,f x,hn,by simp[hx],hK⟩
theorem Hd {len i:Nat} {n:Int} {K:Nat->Prop}(hn:n=i)(hi:i<len)(hK:K i):∃j:Nat,n=j/\j<len/\K j:=⟨i,hn,hi,hK⟩
theorem Hc {ds:List Da} {i:Nat} {d:Da} {K:Da->Prop}(h:ds[i]? =some d)(hK:K d):∃d,ds[i]? =some d/\K d:=⟨d,h,hK⟩
theorem OK {k:IntKind} {a b:Int}(h:a=b):Dat.d (.int k a)=Dat.d (.int k b):=by rw[h]
theorem Bk {E k:Nat} {a b:List Da}(h:a=b):some (Own.slice E k a)=some (Own.slice E k b):=by rw[h]
theorem WE {a b:Nat}(h:a<=4294967296)(hb:Nat.ble b 32768=true)(h0:Nat.blt 0 b=true):a<=HN b:=by
 have h1:=QH hb
 have h2:0<b:=Bq (Nat.succ_pos 0) (QH h0)
 unfold HN
 rw[Nat.le_div_iff_mul_le h2]
 exact BH (DO h h1) (by decide)
theorem JE {a b:Nat} {K:Prop}(h:a<=4294967296)(hK:K)(hb:Nat.ble b 32768=true:=by rfl)(h0:Nat.blt 0 b=true:=by rfl):a<=HN b/\K:=⟨WE h hb h0,hK⟩
theorem yM {a:Nat} {K:Prop}(h:a<=8796093022208)(hK:K):a<=HN 16/\K:=⟨h,hK⟩
def FR(i:Nat):List Nat->Bool
 |[]=>false
 |
  j::l=>match Nat.beq j i with
  |true=>true
  |false=>FR i l
theorem Gv {i:Nat}:∀{l:List Nat},FR i l=true->i∈l
 |[],h=>by cases h
 |
  j::l,h=>by
  simp only[FR]at h
  rcases BN j i with⟨hb,e⟩|⟨hb,e⟩
  ·simp[e]
  ·rw[hb]at h;exact A9 _ (Gv h)
mutual
def ED(J:List Nat):Dat->Bool
 |.d _=>true
 |.own i=>FR i J
 |.at_ i _=>FR i J
 |.el i _ _ _=>FR i J
 |.agg ds=>Eu J ds
 |.tuple ds=>Eu J ds
 |.iface _ d=>ED J d
 |.func _ f c=>Eu J f&&Eu J c
def Eu(J:List Nat):List Dat->Bool
 |[]=>true
 |d::ds=>ED J d&&Eu J ds
end
section
variable {η:Nat->Value} {I J O O':List Nat} {w:World}
mutual
theorem AH.only(hl:Later O w O' w):∀(d:Dat) (cs:List Value),ED J d=true->AH η I O w d cs->AH η J O' w d cs
 |.d x,cs,_,r=>RepC.later hl x cs r
 |.own i,cs,h,r=>by simp only[AH]at r⊢;exact⟨Gv h,r.2⟩
 |.at_ i off,cs,h,r=>by simp only[AH]at r⊢;exact⟨Gv h,r.2⟩
 |.el i k n off,cs,h,r=>by simp only[AH]at r⊢;exact⟨Gv h,r.2⟩
 |.agg ds,cs,h,r=>by simp only[AH]at r⊢;exact B6.only hl ds cs (by simpa only[ED]using h) r
 |.tuple ds,cs,h,r=>by simp only[AH]at r⊢;obtain⟨css,h1,h2⟩:=r;exact⟨css,AE.only hl ds css (by simpa only[ED]using h) h1,h2⟩
 |.iface t d,cs,h,r=>by simp only[AH]at r⊢;obtain⟨c,h1,h2⟩:=r;exact⟨c,AH.only hl d c (by simpa only[ED]using h) h1,h2⟩
 |
  .func fn f c,cs,h,r=>by
  simp only[AH]at r⊢
  simp only[ED,Ap]at h
  obtain⟨fs,cs',h1,h2,h3⟩:=r
  exact⟨fs,cs',AE.only hl f fs h.1 h1,AE.only hl c cs' h.2 h2,h3⟩
theorem B6.only(hl:Later O w O' w):∀(ds:List Dat) (cs:List Value),Eu J ds=true->B6 η I O w ds cs->B6 η J O' w ds cs
 |[],cs,_,r=>r
 |
  d::ds,cs,h,r=>by
  simp only[B6]at r⊢
  simp only[Eu,Ap]at h
  obtain⟨c1,c2,h1,h2,h3⟩:=r
  exact⟨c1,c2,h1,AH.only hl d c1 h.1 h2,B6.only hl ds c2 h.2 h3⟩
theorem AE.only(hl:Later O w O' w):∀(ds:List Dat) (cs:List (List Value)),Eu J ds=true->AE η I O w ds cs->AE η J O' w ds cs
 |[],cs,_,r=>r
 |
  d::ds,cs,h,r=>by
  simp only[AE]at r⊢
  simp only[Eu,Ap]at h
  obtain⟨c1,c2,h1,h2,h3⟩:=r
  exact⟨c1,c2,h1,AH.only hl d c1 h.1 h2,AE.only hl ds c2 h.2 h3⟩
end
end
def SP(J:List Nat):Own->Bool
 |.cells _ ds=>Eu J ds
 |.ghost _ ds=>Eu J ds
 |.absd _ _ _ _ ds=>Eu J ds
 |_=>true
def Pk:Sg->Sg->Prop
 |[],_=>True
 |(i,o)::Z,σ=>BI i σ=some o/\Pk Z σ
def aC:List Nat->Bool
 |[]=>true
 |i::l=>!(FR i l)&&aC l
def SQ(J:List Nat):Fr->Bool
 |[]=>true
 |(_,d)::fr=>ED J d&&SQ J fr
def FQ(J:List Nat):Sg->Bool
 |[]=>true
 |(_,o)::Z=>SP J o&&FQ J Z
def yB(fr:Fr)(Z:Sg):Bool:=aC (BA Z)&&SQ (BA Z) fr&&FQ (BA Z) Z
section
variable {C:Cx} {B S:List Nat} {w0 w:World} {n:Nat} {fr:Fr} {σ Z:Sg} {η:Nat->Value} {φ:Nat->List Nat} {a:Act}
theorem Ku {i:Nat}:∀{l:List Nat},FR i l=false->i∉l
 |[],_=>by simp
 |
  j::l,h=>by
  simp only[FR]at h
  rcases BN j i with⟨hb,e⟩|⟨hb,e⟩
  ·rw[hb]at h;cases h
  ·rw[hb]at h;simp only[Ai,not_or];exact⟨λe'=>e e'.symm,Ku h⟩
theorem Mu:∀{l:List Nat},aC l=true->l.Nodup
 |[],_=>by simp
 |
  i::l,h=>by
  simp only[aC,Ap,Cm]at h
  exact Cs.2 ⟨Ku h.1,Mu h.2⟩
theorem Pk.mem:∀{Z:Sg},Pk Z σ->∀p∈Z,p∈σ
 |[],_,p,hp=>by cases hp
 |
  (i,o)::Z,h,p,hp=>by
  rcases Ai.1 hp with rfl|hp
  ·exact AQ h.1
  ·exact Pk.mem h.2 p hp
theorem Lw {J:List Nat}:∀{fr:Fr},SQ J fr=true->∀t,ED J (get fr t)=true
 |[],_,t=>rfl
 |
  (s,d)::fr,h,t=>by
  simp only[SQ,Ap]at h
  simp only[get]
  rcases BN s t with⟨hb,_⟩|⟨hb,_⟩<;>rw[hb]
  ·exact h.1
  ·exact Lw h.2 t
theorem GW {J:List Nat}:∀{Z:Sg},FQ J Z=true->∀p∈Z,SP J p.2=true
 |[],_,p,hp=>by cases hp
 |
  (i,o)::Z,h,p,hp=>by
  simp only[FQ,Ap]at h
  rcases Ai.1 hp with rfl|hp
  ·exact h.1
  ·exact GW h.2 p hp
theorem Own.holds.only {η:Nat->Value} {I J O O':List Nat} {w:World} {o:Own} {v:Value} {F:List Nat}(hl:Later O w O' w)(h:SP J o=true)(r:o.holds η I O w v F):o.holds η J O' w v F:=by
 cases o with
 |
  cells T ds=>
  obtain⟨b,cs,h1,h2,h3,h4⟩:=r
  exact⟨b,cs,h1,h2,h3,B6.only hl _ _ h h4⟩
 |
  slice E k ds=>
  obtain⟨css,h1,h2,h3,h4⟩:=r
  exact⟨css,h1,h2,Aq.later hl _ _ h3,h4⟩
 |abs R k lt one=>exact r
 |ghost vs ds=>obtain⟨h1,h2,css,h3,h4⟩:=r;exact⟨h1,h2,css,AE.only hl _ _ h h3,h4⟩
 |absd R k lt one ds=>obtain⟨css,h3,h4⟩:=r;exact⟨css,AE.only hl _ _ h h3,h4⟩
theorem Models.only(hM:Models C B S w0 n fr σ η φ a w)(hz:yB fr Z=true)(hs:Pk Z σ):Models C B S w0 n fr Z η φ a w:=by
 simp only[yB,Ap]at hz
 obtain⟨⟨h1,h2⟩,h3⟩:=hz
 have hmem:=hs.mem
 have hsub:∀i∈BA Z,i∈BA σ:=λi hi=>by
  obtain⟨p,hp,rfl⟩:=An.1 hi
  exact AV (hmem p hp)
 have hl:Later (B++Ao φ σ) w (B++Ao φ Z) w:=by
  refine⟨Ax _,λ_ _ _=>rfl,λb hn _ hm=>?_⟩
  rcases Ag.1 hm with hm|hm
  ·exact hn (Au _ hm)
  ·obtain⟨p,hp,hb⟩:=AL.1 hm
   exact hn (Av _ (B5 (AV (hmem p hp)) hb))
 refine⟨⟨hM.mem.tch,λp hp=>(hM.mem.own p (hmem p hp)).only hl (GW h3 p hp),Mu h1,λi hi j hj=>hM.mem.disj i (hsub i hi) j (hsub j hj),λi hi=>hM.mem.new i (hsub i hi),hM.mem.out,λg hg=>(hM.mem.glob g hg).later hl⟩,λt=>?_,hM.defers,hM.size⟩
 obtain⟨cs,r1,r2⟩:=hM.fr t
 exact⟨cs,AH.only hl _ _ (Lw h2 t) r1,r2⟩
theorem yW {ι:Type}(H:ι->Prop)(I:ι->Fr)(Z:ι->Sg)(μ:ι->Nat)(x0:ι) {b:Code} {K:KE}(hz:∀x,yB (I x) (Z x)=true)(h0:H x0)(hI:fE (I x0) fr)(hZ:Pk (Z x0) σ)
  (round:∀x,H x->FB C n b (λe fr σ=>match e with|.normal=>∃y,H y/\fE (I y) fr/\Pk (Z y) σ/\μ y<μ x|e=>K e fr σ) (I x) (Z x)):FB C n (.loop b) K fr σ:=by
 refine BY.2 λB S w0 η φ a w hM=>?_
 refine wp_loop_ghost (λm a w=>∃x η φ,H x/\μ x=m/\Models C B S w0 n (I x) (Z x) η φ a w) (μ x0) ⟨x0,η,φ,h0,rfl,(hM.sub hI).only (hz x0) hZ⟩ ?_
 rintro m a w ⟨x,η,φ,hx,rfl,hM⟩
 refine wp_mono (BY.1 (round x hx) B S w0 η φ a w hM) ?_
 intro e a' w' hq
 cases e with
 |
  normal=>
  obtain⟨fr',σ',η',φ',hM',y,h1,h2,h3,h4⟩:=hq
  exact⟨μ y,h4,y,η',φ',h1,rfl,(hM'.sub h2).only (hz y) h3⟩
 |exit id=>exact hq
 |goto l=>exact hq
 |ret=>exact hq
 |panic ch=>exact hq
 |outgrown=>exact hq
end
end Go.Sx
namespace Go.Sx
open Go Go.RowKit Go.Reg
structure Absn where
 R:World->Value->List Nat->Prop
 keep:∀(S:List Nat) w w' v F,R w v F->Tch S w w'->(∀x∈F,x∉S)->R w' v F
 lt:∀w v F,R w v F->∀x∈F,x<w.heap.size
 one:∀w v F,R w v F->v.oneCell'=true
def Absn.own(r:Absn):Own:=.abs r.R r.keep r.lt r.one
section
variable {C:Cx} {T:Hh} {B S:List Nat} {w0 w:World} {n kd:Nat} {fr:Fr} {σ:Sg} {η:Nat->Value} {φ:Nat->List Nat} {a:Act} {v:Value} {i:Nat} {r:Absn}
def Th(C:Cx)(f:FuncId)(r:Absn)(xs:List Da)(Q:Da->Absn->Prop):Prop:=
 ∀(O:List Nat) (w:World) (v:Value) (F:List Nat) (us:List Value),r.R w v F->(∀b∈F,b∈O)->(∀b∈O,b<w.heap.size)->Glob C O w->Jw O w xs us->
  (callFunc f (v::us).toArray).run C.P w=.ok (.enter f (v::us).toArray) w/\Calls C.P f (v::us).toArray w λe w'=>∃u y r' F',e=.returned u/\Q y r'/\r'.R w' v F'/\(∀b∈F',b∈F\/w.heap.size<=b)/\
   (∀O',(∀b∈O',b∈O\/b∈F')->Rep O' w' y u)/\Tch F w w'
def AD2(sh:Bool)(v u:Value):Value:=match sh with|true=>.tuple #[v,u]|false=>v
def AFQ(sh:Bool)(O:List Nat)(w:World)(Q:Absn->Da->Prop)(e:Ending)(w':World):Prop:=
 ∃v F r y u,e=.returned (AD2 sh v u)/\Q r y/\r.R w' v F/\(∀b∈F,w.heap.size<=b)/\(∀O',(∀b∈O',b∈O\/b∈F)->Rep O' w' y u)/\Tch [] w w'
theorem ABD(hM:Models C B S w0 n fr σ η φ a w)(hg:BI i σ=some r.own) {args:List Dat} {xs:List Da}(ha:EX args=some xs) {css:List (List Value)}(hr:AE η (BA σ) (B++Ao φ σ) w (.own i::args) css):
  r.R w (η i) (φ i)/\(∀b∈φ i,b∈B++Ao φ σ)/\∃us,List.zipWith Ch (.own i::args) css=η i::us/\Jw (B++Ao φ σ) w xs us:=by
 have hi:=AQ hg
 simp only[AE]at hr
 obtain⟨c1,c2,rfl,r1,r2⟩:=hr
 obtain⟨h1,h2⟩:=Iw ha r2
 simp only[AH]at r1
 obtain⟨_,rfl⟩:=r1
 exact⟨hM.mem.own _ hi,λb hb=>Av _ (B5 (AV hi) hb),_,rfl,c2,h1,h2⟩
theorem tQ {f:FuncId} {args:List Dat} {xs:List Da} {Q:Da->Absn->Prop} {K:KD}(hg:BI i σ=some r.own)(ha:EX args=some xs)(hp:Th C f r xs Q)(hK:∀y r',Q y r'->Ci (AX id i r'.own σ) λσ=>K (.d y) fr σ):Cj C false f (.own i::args) K fr σ:=by
 unfold Cj
 rintro B S w0 η φ n a w vs hM ⟨css,hr,rfl⟩
 obtain⟨h1,h2,us,e,h3⟩:=ABD hM hg ha hr
 rw[e]
 obtain⟨g1,g2⟩:=hp _ _ _ _ _ h1 h2 hM.mem.lt hM.mem.glob h3
 refine⟨g1,g2.mono ?_⟩
 rintro e w' ⟨v,y,r',F',rfl,hQ,hR,hF,hv,ht⟩
 have hi:=AV (AQ hg)
 have hl:=Later.turn B ht (λb hb=>hb) hi hF id r'.own
 have hm:=hM.mem.turnSame ht (λb hb=>hb) hi hF (o:=r'.own) hR
 have hk:=hK y r' hQ
 rw[Bw]at hk
 have hids:=AZ id i r'.own σ
 refine⟨v,.d y,fr,_,η,_,rfl,hk,⟨hm,hM.fr.later hl (λj hj=>⟨by rw[hids];exact hj,rfl⟩),hM.defers,hM.size⟩,?_,λh=>by cases h⟩
 exact hv _ (λb hb=>by
  rcases Ag.1 hb with hb|hb
  ·exact .inl (Au _ hb)
  ·rcases Gp F' b hb with hb|⟨j,hj,_,hb⟩
   ·exact .inr hb
   ·exact .inl (Av _ (B5 hj hb)))
end
end Go.Sx
namespace Go.Sx
open Go Go.RowKit Go.Reg
section
variable {α:Type} {C:Cx} {O:List Nat} {w:World} {v:Value}
structure Enc(α:Type)where
 enc:α->List Value
 d:α->Da
 k:Nat
 len:∀x,(enc x).length=k
 one:∀x,∀u∈enc x,u.oneCell'=true
 rep:∀(O:List Nat) (w:World) (x:α),RepC O w (d x) (enc x)
theorem Enc.reps(E:Enc α)(O:List Nat)(w:World):∀l:List α,Aq O w (l.map E.d) (l.map E.enc)
 |[]=>by simp[Aq]
 |x::l=>by simp only[Ar,Aq];exact⟨_,_,rfl,E.rep O w x,E.reps O w l⟩
theorem Enc.rows(E:Enc α)(l:List α):∀x∈l.map E.enc,ER E.k x:=λx hx=>by
 obtain⟨y,_,rfl⟩:=An.1 hx
 exact⟨E.len y,E.one y⟩
theorem Enc.rep_arg(E:Enc α)(hk:0<E.k) {l:List α}(h:EB E.k E.enc w v l)(hcap:∀a n c,v=.slice a n c->n<=c/\c<=maxLen):Rep [] w (.list E.k (l.map E.d)) v:=by
 obtain⟨a,c,rfl,hm,hc⟩:=h
 obtain⟨c1,c2⟩:=hcap _ _ _ rfl
 refine⟨[_],?_,rfl⟩
 simp only[RepC]
 refine⟨a,c,l.map E.enc,by simp,by simpa using c1,c2,E.reps [] w l,E.rows l,?_⟩
 cases l with
 |nil=>exact .inl rfl
 |
  cons x l=>
  right
  obtain⟨b,o,rfl,h0⟩:=hc 0 x rfl
  have hcell:Fv w b o ((x::l).map E.enc).flatten:=by
   intro j u hj
   have hlen:∀(m:List α),(m.map E.enc).flatten.length=m.length*E.k:=λm=>by
    induction m with
    |nil=>simp
    |cons y m ih=>simp only[Ar,CI,Ah,ih,E.len,Aw,Nat.succ_mul];omega
   have hjl:j<(x::l).length*E.k:=by rw[<-hlen];exact(Ae.1 hj).1
   have hi:j/E.k<(x::l).length:=(Nat.div_lt_iff_lt_mul hk).2 hjl
   have hy:=Ab hi
   obtain⟨b',o',he,h2⟩:=hc (j/E.k) _ hy
   cases he
   have:=h2 (j % E.k) u (by
    have h3:=Qp E.len (x::l) (j/E.k) ((x::l)[j/E.k]) (j % E.k) hy (Nat.mod_lt _ hk)
    rw[<-h3,List.flatMap_def,AAC,Nat.div_add_mod]
    exact hj)
   rwa [Hv,AAC,Nat.div_add_mod]at this
  refine⟨b,o,rfl,by simp,?_,hcell⟩
  have hx:∃u,(E.enc x)[0]? =some u:=⟨_,Ab (by rw[E.len];exact hk)⟩
  obtain⟨u,hu⟩:=hx
  have:=h0 0 u hu
  unfold World.cell? at this
  rcases BL b w.heap.size with hl|hl
  ·exact hl
  ·rw[Array.getElem?_eq_none (by omega)]at this;cases this
open Go.Deep Go.WideShapes in
theorem cap_of {H:Type} {P:Program} {e':TypeId×Value->H} {base b0:Nat} {spare:Nat->Bool} {held:Bool} {r:Reach} {t e:TypeId} {d:DataW H} {ps:List MemPlace}(ht:P.underlying t=some (.slice e))
  (hval:Value.okWide P w r b0 t v) (h:DataW.Trod e' P w base spare held t v d ps):∀a n c,v=.slice a n c->n<=c/\c<=maxLen:=by
 obtain⟨fuel,hf⟩:=h
 rintro a n c rfl
 rcases open_slice ht hf with⟨h1,_⟩|⟨a',len,cap,m,n',D,Pl,h1,hb,hl,hm,_⟩
 ·simp[Value.cells]at h1
  obtain⟨rfl,rfl,rfl⟩:=h1
  exact⟨Ax _,by unfold maxLen;omega⟩
 ·simp[Value.cells]at h1
  obtain⟨rfl,rfl,rfl⟩:=h1
  exact⟨hl,hm⟩
theorem reps_nil:Jw O w [] []:=⟨[],by simp[Aq],rfl⟩
theorem reps_cons {d:Da} {ds:List Da} {vs:List Value}(h1:Rep O w d v)(h2:Jw O w ds vs):Jw O w (d::ds) (v::vs):=by
 obtain⟨cs,r1,rfl⟩:=h1
 obtain⟨css,r2,rfl⟩:=h2
 exact⟨cs::css,⟨cs,css,rfl,r1,r2⟩,rfl⟩
theorem Cn {d:Da} {ds:List Da} {us:List Value}(h:Jw O w (d::ds) us):∃v vs,us=v::vs/\Rep O w d v/\Jw O w ds vs:=by
 obtain⟨css,r,rfl⟩:=h
 simp only[Aq]at r
 obtain⟨c1,c2,rfl,r1,r2⟩:=r
 exact⟨_,_,rfl,⟨c1,r1,rfl⟩,c2,r2,rfl⟩
theorem Ds {us:List Value}(h:Jw O w [] us):us=[]:=by
 obtain⟨css,r,rfl⟩:=h
 simp
theorem EZ {k:IntKind} {n:Int}(h:Rep O w (.int k n) v):v=.int k n:=by obtain⟨cs,r,rfl⟩:=h;simp only[RepC]at r;subst r;rfl
theorem PE {s:ByteArray}(h:Rep O w (.str s) v):v=.string s:=by obtain⟨cs,r,rfl⟩:=h;simp only[RepC]at r;subst r;rfl
theorem Pure.assume {f:FuncId} {xs:List Da} {Q:Da->Prop} {P:Prop}(hp:∀O w us,Jw O w xs us->P)(h:P->Pure C f xs Q):Pure C f xs Q:=λO w us hO hg hr=>h (hp O w us hr) O w us hO hg hr
theorem mO {k:Nat} {ds:List Da}(h:Rep O w (.list k ds) v):ds.length<=maxLen:=by
 obtain⟨cs,r,rfl⟩:=h
 simp only[RepC]at r
 obtain⟨a,c,css,_,h1,h2,_⟩:=r
 omega
theorem Pure.calls {f:FuncId} {xs:List Da} {Q:Da->Prop}(h:Pure C f xs Q)(hg:Glob C [] w) {us:List Value}(hr:Jw [] w xs us):Calls C.P f us.toArray w λe w'=>∃u y,e=.returned u/\Q y/\Rep [] w' y u/\Tch [] w w':=
 (h [] w us (by simp) hg hr).2
end
end Go.Sx
namespace Go.Sx
open Go Go.RowKit Go.Reg
inductive Frz:Fr->Sg->Fr->Sg->Prop
 |refl (fr:Fr) (σ:Sg):Frz fr σ fr σ
 |slice {fr fr':Fr} {σ σ':Sg} (i:Nat) {E k:Nat} {ds:List Da} (h:BI i σ=some (.slice E k ds)) (r:Frz (Fj i (.list k ds) fr) (Dc (BM i (.list k ds)) i σ) fr' σ'):Frz fr σ fr' σ'
section
variable {C:Cx} {T:Hh} {B S:List Nat} {w0 w:World} {n:Nat} {fr:Fr} {σ:Sg} {η:Nat->Value} {φ:Nat->List Nat} {a:Act} {i E k:Nat} {ds:List Da}
theorem Models.freeze(hM:Models C B S w0 n fr σ η φ a w)(hg:BI i σ=some (.slice E k ds)):Models C B S w0 n (Fj i (.list k ds) fr) (Dc (BM i (.list k ds)) i σ) η φ a w:=by
 have hm:=hM.mem
 have hi:=AV (AQ hg)
 have hsub:∀b∈B++Ao φ (Dc (BM i (.list k ds)) i σ),b∈B\/∃j∈BA σ,j≠i/\b∈φ j:=by
  intro b hb
  rcases Ag.1 hb with hb|hb
  ·exact .inl hb
  ·obtain⟨p,hp,hb⟩:=AL.1 hb
   obtain⟨q,hq,hne,rfl⟩:=Fh hp
   exact .inr ⟨q.1,AV hq,hne,hb⟩
 have hl:Later (B++Ao φ σ) w (B++Ao φ (Dc (BM i (.list k ds)) i σ)) w:=⟨Ax _,λ_ _ _=>rfl,λb hn _ hb=>by
  rcases hsub b hb with h|⟨j,hj,_,h⟩
  ·exact hn (Au _ h)
  ·exact hn (Av _ (B5 hj h))⟩
 have hr:RepC (B++Ao φ (Dc (BM i (.list k ds)) i σ)) w (.list k ds) [η i]:=by
  obtain⟨css,hs,e2,hrr,hk⟩:=BV hm hg
  have hlen:=De hrr
  have hr2:=Aq.later hl _ _ hrr
  simp only[RepC]
  rcases hs.shape with⟨he,hn⟩|⟨g,cap,he,hc⟩
  ·subst hn
   have:ds=[]:=AJ hlen.symm
   subst this
   exact⟨none,0,[],by rw[he];rfl,by simp,by unfold maxLen;omega,by simp[Aq],by simp,.inl rfl⟩
  ·have hgi:g∈φ i:=by rw[e2,he];simp[Value.ownBlock]
   refine⟨_,cap,css,by rw[he,hlen],by omega,?_,hr2,hk,.inr ⟨g,0,rfl,?_,hs.lt (by rw[he];rfl),Kl hs he⟩⟩
   ·rcases hs.2 with⟨h1,_⟩|⟨_,_,_,h1,_,_,_,h2,_⟩
    ·rw[he]at h1;cases h1
    ·rw[he]at h1;cases h1;exact h2
   ·intro hb
    rcases hsub g hb with h|⟨j,hj,hne,h⟩
    ·exact PU hm hi hgi h
    ·exact hm.disj j hj i hi hne g h hgi
 obtain⟨h1,h2⟩:=hm.del rfl hr
 exact⟨h1,hM.fr.kill rfl h2 (λj hj hne=>⟨by rw[DI];exact Az.2 ⟨hj,by simpa using hne⟩,rfl⟩) hr,hM.defers,hM.size⟩
theorem Frz.models {fr':Fr} {σ':Sg}(h:Frz fr σ fr' σ'):Models C B S w0 n fr σ η φ a w->Models C B S w0 n fr' σ' η φ a w:=by
 induction h with
 |refl=>exact id
 |slice i h r ih=>exactλhM=>ih (hM.freeze h)
mutual
def Da.flat:Da->Bool
 |.undef|.int _ _|.bool _|.prop _ _|.str _|.nilp|.nils|.nilm|.nilf|.nili=>true
 |.agg ds=>GL ds
 |.tuple ds=>GL ds
 |_=>false
def GL:List Da->Bool
 |[]=>true
 |d::ds=>d.flat&&GL ds
end
mutual
theorem RepC.flat {O O':List Nat} {w w':World}:∀(d:Da) (cs:List Value),d.flat=true->RepC O w d cs->RepC O' w' d cs
 |.agg ds,cs,h,r=>by simp only[RepC]at r⊢;exact RepCs.flat ds cs (by simpa only[Da.flat]using h) r
 |.tuple ds,cs,h,r=>by simp only[RepC]at r⊢;obtain⟨css,h1,h2⟩:=r;exact⟨css,Aq.flat ds css (by simpa only[Da.flat]using h) h1,h2⟩
 |.undef,cs,_,r=>r
 |.int _ _,cs,_,r=>r
 |.bool _,cs,_,r=>r
 |.prop _ _,cs,_,r=>r
 |.str _,cs,_,r=>r
 |.nilp,cs,_,r=>r
 |.nils,cs,_,r=>r
 |.nilm,cs,_,r=>r
 |.nilf,cs,_,r=>r
 |.nili,cs,_,r=>r
 |.iface _ _,cs,h,_=>by simp[Da.flat]at h
 |.ref _,cs,h,_=>by simp[Da.flat]at h
 |.list _ _,cs,h,_=>by simp[Da.flat]at h
 |.func _ _ _,cs,h,_=>by simp[Da.flat]at h
 |.raw _,cs,h,_=>by simp[Da.flat]at h
theorem RepCs.flat {O O':List Nat} {w w':World}:∀(ds:List Da) (cs:List Value),GL ds=true->RepCs O w ds cs->RepCs O' w' ds cs
 |[],cs,_,r=>r
 |
  d::ds,cs,h,r=>by
  simp only[RepCs]at r⊢
  simp only[GL,Ap]at h
  obtain⟨c1,c2,h1,h2,h3⟩:=r
  exact⟨c1,c2,h1,RepC.flat d c1 h.1 h2,RepCs.flat ds c2 h.2 h3⟩
theorem Aq.flat {O O':List Nat} {w w':World}:∀(ds:List Da) (css:List (List Value)),GL ds=true->Aq O w ds css->Aq O' w' ds css
 |[],cs,_,r=>r
 |
  d::ds,cs,h,r=>by
  simp only[Aq]at r⊢
  simp only[GL,Ap]at h
  obtain⟨c1,c2,h1,h2,h3⟩:=r
  exact⟨c1,c2,h1,RepC.flat d c1 h.1 h2,Aq.flat ds c2 h.2 h3⟩
end
theorem Ny(hm:Mem C B S w0 σ η φ w) {m:Nat}:∀(ds:List Dat) {xs:List Da} {css:List (List Value)},EA.closeL (EA T σ m) ds=some xs->AE η (BA σ) (B++Ao φ σ) w ds css->Aq B w xs css/\List.zipWith Ch ds css=List.zipWith Ea xs css
 |[],xs,css,h,hr=>by simp[EA.closeL]at h;subst h;simp only[AE]at hr;subst hr;simp[Aq]
 |
  d::ds,xs,css,h,hr=>by
  simp only[EA.closeL]at h
  split at h
  ·rename_i x xs' h1 h2
   simp at h;subst h
   simp only[AE]at hr
   obtain⟨c1,c2,rfl,r1,r2⟩:=hr
   obtain⟨g1,g2⟩:=MP hm m d h1 r1
   obtain⟨g3,g4⟩:=Ny hm ds h2 r2
   exact⟨⟨c1,c2,rfl,g1,g3⟩,by simp[g2,g4]⟩
  ·cases h
theorem SB {q:Bool} {f:FuncId} {args:List Dat} {xs:List Da} {Q:Da->Prop} {K:KD}(T:Hh)(ha:EA.closeL (EA T σ 9) args=some xs)(hp:Pure C f xs Q)(hfl:∀y,Q y->y.flat=true)(hK:∀y,Q y->K (.d y) fr σ):Cj C q f args K fr σ:=by
 unfold Cj
 rintro B S w0 η φ n a w vs hM ⟨css,hr,rfl⟩
 obtain⟨h1,h2⟩:=Ny hM.mem args ha hr
 rw[h2]
 have hgl:Glob C B w:=λg hg=>(hM.mem.glob g hg).later (Tb hM.mem)
 obtain⟨g1,g2⟩:=hp B w _ (λb hb=>hM.mem.lt b (Au _ hb)) hgl ⟨css,h1,rfl⟩
 refine⟨g1,g2.mono ?_⟩
 rintro e w' ⟨v,y,rfl,hQ,⟨cs,hv,e2⟩,ht⟩
 exact⟨v,.d y,fr,σ,η,φ,rfl,hK y hQ,⟨hM.mem.grow ht,hM.fr.later (Later.same ht _) (λi hi=>⟨hi,rfl⟩),hM.defers,hM.size⟩,⟨cs,RepC.flat y cs (hfl y hQ) hv,e2⟩,λ_=>ht.ext⟩
end
theorem wF {b:Int} {K:Prop}(h:b≠0)(hK:K):b≠0/\K:=⟨h,hK⟩
end Go.Sx
namespace Go.Sx
open Go Go.RowKit Go.Reg
section
variable {C:Cx} {T:Hh} {B S:List Nat} {w0 w:World} {n kd:Nat} {fr fr':Fr} {σ σ':Sg} {η:Nat->Value} {φ:Nat->List Nat} {a:Act} {i E k:Nat} {ds:List Da}
mutual
inductive LaxA:Da->Da->Prop
 |refl (x:Da):LaxA x x
 |nils (k:Nat):LaxA .nils (.list k [])
 |prop {p:Prop} {i:Decidable p} (b:Bool) (h:@decide p i=b):LaxA (.prop p i) (.bool b)
 |agg {xs ys:List Da} (h:LaxAs xs ys):LaxA (.agg xs) (.agg ys)
 |tuple {xs ys:List Da} (h:LaxAs xs ys):LaxA (.tuple xs) (.tuple ys)
inductive LaxAs:List Da->List Da->Prop
 |nil:LaxAs [] []
 |cons {x y:Da} {xs ys:List Da} (h:LaxA x y) (r:LaxAs xs ys):LaxAs (x::xs) (y::ys)
end
theorem LaxA.yes {p:Prop} {i:Decidable p}(h:p):LaxA (.prop p i) (.bool true):=.prop _ (@decide_eq_true p i h)
theorem LaxA.no {p:Prop} {i:Decidable p}(h:¬p):LaxA (.prop p i) (.bool false):=.prop _ (@decide_eq_false p i h)
theorem UG {x y:Da}(h:LaxA x y)(cs:List Value):Ea x cs=Ea y cs:=by cases h<;>rfl
mutual
theorem RepC.lax {O:List Nat}:∀{x y:Da} {cs:List Value},LaxA x y->RepC O w x cs->RepC O w y cs
 |_,_,cs,.refl _,r=>r
 |
  _,_,cs,.nils k,r=>by
  simp only[RepC]at r⊢
  exact⟨none,0,[],by rw[r];rfl,by simp,by unfold maxLen;omega,by simp[Aq],by simp,.inl trivial⟩
 |_,_,cs,.prop b h,r=>by subst h;simpa only[RepC]using r
 |_,_,cs,.agg h,r=>by simp only[RepC]at r⊢;exact RepCs.lax h r
 |
  _,_,cs,.tuple h,r=>by
  simp only[RepC]at r⊢
  obtain⟨css,h1,h2⟩:=r
  obtain⟨g1,g2⟩:=Aq.lax h h1
  exact⟨css,g1,by rw[h2,g2]⟩
theorem RepCs.lax {O:List Nat}:∀{xs ys:List Da} {cs:List Value},LaxAs xs ys->RepCs O w xs cs->RepCs O w ys cs
 |_,_,cs,.nil,r=>r
 |
  _,_,cs,.cons h hs,r=>by
  simp only[RepCs]at r⊢
  obtain⟨c1,c2,e,h1,h2⟩:=r
  exact⟨c1,c2,e,RepC.lax h h1,RepCs.lax hs h2⟩
theorem Aq.lax {O:List Nat}:∀{xs ys:List Da} {css:List (List Value)},LaxAs xs ys->Aq O w xs css->Aq O w ys css/\List.zipWith Ea xs css=List.zipWith Ea ys css
 |_,_,css,.nil,r=>⟨r,rfl⟩
 |
  _,_,css,.cons h hs,r=>by
  simp only[Aq]at r⊢
  obtain⟨c1,c2,rfl,h1,h2⟩:=r
  obtain⟨g1,g2⟩:=Aq.lax hs h2
  exact⟨⟨c1,c2,rfl,RepC.lax h h1,g1⟩,by rw[Bh,Bh,g2,UG h]⟩
end
inductive LaxD:List Dat->List Dat->Prop
 |nil:LaxD [] []
 |same (d:Dat) {ds es:List Dat} (r:LaxD ds es):LaxD (d::ds) (d::es)
 |lax {x y:Da} {ds es:List Dat} (h:LaxA x y) (r:LaxD ds es):LaxD (.d x::ds) (.d y::es)
theorem B6.lax {I O:List Nat} {ds es:List Dat}(h:LaxD ds es):∀{cs:List Value},B6 η I O w ds cs->B6 η I O w es cs:=by
 induction h with
 |nil=>intro cs r;exact r
 |same d h ih=>intro cs r;simp only[B6]at r⊢;obtain⟨c1,c2,e,h1,h2⟩:=r;exact⟨c1,c2,e,h1,ih h2⟩
 |lax hx h ih=>intro cs r;simp only[B6]at r⊢;obtain⟨c1,c2,e,h1,h2⟩:=r;exact⟨c1,c2,e,RepC.lax hx h1,ih h2⟩
theorem Models.laxF(hM:Models C B S w0 n fr σ η φ a w) {t:Nat} {x y:Da}(hg:get fr t=.d x)(hl:LaxA x y):Models C B S w0 n ((t,.d y)::fr) σ η φ a w:=by
 refine⟨hM.mem,λs=>?_,hM.defers,hM.size⟩
 simp only[get]
 rcases BN t s with⟨hb,e⟩|⟨hb,_⟩<;>rw[hb]
 ·subst e
  obtain⟨cs,r1,r2⟩:=hM.fr t
  rw[hg]at r1 r2
  exact⟨cs,RepC.lax hl r1,r2.trans (UG hl cs)⟩
 ·exact hM.fr s
theorem Models.laxO(hM:Models C B S w0 n fr σ η φ a w) {t:TypeId} {ds es:List Dat}(hg:BI i σ=some (.cells t ds))(hl:LaxD ds es):Models C B S w0 n fr (AX id i (.cells t es) σ) η φ a w:=by
 have hi:=AV (AQ hg)
 have he:CE φ i (φ i)=φ:=by funext j;by_cases e:j=i<;>simp[CE,e]
 have hll:=Later.turn (X:=[]) (w':=w) B (Tch.refl [] w) (by simp) hi (F:=φ i) (λb hb=>.inl hb) id (.cells t es)
 rw[he]at hll
 have:=hM.mem.turnSame (X:=[]) (w':=w) (Tch.refl [] w) (by simp) hi (F:=φ i) (λb hb=>.inl hb) (o:=.cells t es) (by
  rw[he]
  obtain⟨b,cs,h1,h2,h3,h4⟩:=hM.mem.own _ (AQ hg)
  exact⟨b,cs,h1,h2,h3,B6.lax hl (B6.later hll (λj hj=>⟨hj,rfl⟩) _ _ h4)⟩)
 rw[he]at this
 exact⟨this,hM.fr.later hll (λj hj=>⟨by rw[AZ];exact hj,rfl⟩),hM.defers,hM.size⟩
theorem Models.nilO(hM:Models C B S w0 n fr σ η φ a w)(E k:Nat)(hi:BI i σ=none):Models C B S w0 n fr ((i,.slice E k [])::σ) (CE η i (.slice none 0 0)) (CE φ i []) a w:=by
 have hi':=CQ hi
 obtain⟨hm,hl⟩:=hM.mem.add (Tch.refl [] w) hi' (v:=.slice none 0 0) (F:=[]) (o:=.slice E k []) (by simp) ⟨[],Sl.nil _ _ _ _,rfl,by simp[Aq],by simp⟩
 exact⟨hm,hM.fr.add hi' hl,hM.defers,hM.size⟩
theorem Models.ownF(hM:Models C B S w0 n fr σ η φ a w)(E k:Nat) {t:Nat}(hg:get fr t=.d .nils)(hi:BI i σ=none):Models C B S w0 n ((t,.own i)::fr) ((i,.slice E k [])::σ) (CE η i (.slice none 0 0)) (CE φ i []) a w:=by
 have h1:=hM.nilO E k hi
 refine⟨h1.mem,λs=>?_,h1.defers,h1.size⟩
 simp only[get]
 rcases BN t s with⟨hb,e⟩|⟨hb,_⟩<;>rw[hb]
 ·subst e
  obtain⟨cs,r1,r2⟩:=h1.fr t
  rw[hg]at r1 r2
  simp only[AH,RepC]at r1
  subst r1
  refine⟨[.slice none 0 0],?_,r2⟩
  simp only[AH]
  exact⟨by simp[BA],by rw[Ck]⟩
 ·exact h1.fr s
inductive OwnF(i:Nat):List Dat->List Dat->Prop
 |here (ds:List Dat):OwnF i (.d .nils::ds) (.own i::ds)
 |there (d:Dat) {ds es:List Dat} (r:OwnF i ds es):OwnF i (d::ds) (d::es)
theorem B6.ownF {I O:List Nat}(hi:i∈I)(he:η i=.slice none 0 0) {ds es:List Dat}(h:OwnF i ds es):∀{cs:List Value},B6 η I O w ds cs->B6 η I O w es cs:=by
 induction h with
 |
  here ds=>
  intro cs r
  simp only[B6,AH,RepC]at r⊢
  obtain⟨c1,c2,e,rfl,h2⟩:=r
  exact⟨_,c2,e,⟨hi,by rw[he]⟩,h2⟩
 |
  there d _ ih=>
  intro cs r
  simp only[B6]at r⊢
  obtain⟨c1,c2,e,h1,h2⟩:=r
  exact⟨c1,c2,e,h1,ih h2⟩
theorem Models.ownO(hM0:Models C B S w0 n fr σ η φ a w)(E k:Nat) {c:Nat} {t:TypeId} {ds es:List Dat}(hi:BI i σ=none)(hg:BI c ((i,.slice E k [])::σ)=some (.cells t ds))(hl:OwnF i ds es):
  Models C B S w0 n fr (AX id c (.cells t es) ((i,.slice E k [])::σ)) (CE η i (.slice none 0 0)) (CE φ i []) a w:=by
 have hM:=hM0.nilO E k hi
 generalize hη:CE η i (Value.slice none 0 0)=η1 at hM⊢
 generalize hφ:CE φ i ([]:List Nat)=φ1 at hM⊢
 have hηi:η1 i=.slice none 0 0:=by rw[<-hη,Ck]
 generalize hσ:(i,Own.slice E k [])::σ=σ1 at hM hg⊢
 have hii:i∈BA σ1:=by rw[<-hσ];simp[BA]
 have hc:=AV (AQ hg)
 have he:CE φ1 c (φ1 c)=φ1:=by funext j;by_cases e:j=c<;>simp[CE,e]
 have hll:=Later.turn (X:=[]) (w':=w) B (Tch.refl [] w) (by simp) hc (F:=φ1 c) (λb hb=>.inl hb) id (.cells t es)
 rw[he]at hll
 have:=hM.mem.turnSame (X:=[]) (w':=w) (Tch.refl [] w) (by simp) hc (F:=φ1 c) (λb hb=>.inl hb) (o:=.cells t es) (by
  rw[he]
  obtain⟨b,cs,h1,h2,h3,h4⟩:=hM.mem.own _ (AQ hg)
  exact⟨b,cs,h1,h2,h3,B6.ownF hii hηi hl (B6.later hll (λj hj=>⟨hj,rfl⟩) _ _ h4)⟩)
 rw[he]at this
 exact⟨this,hM.fr.later hll (λj hj=>⟨by rw[AZ];exact hj,rfl⟩),hM.defers,hM.size⟩
inductive Lo:Fr->Sg->Fr->Sg->Prop
 |refl (fr:Fr) (σ:Sg):Lo fr σ fr σ
 |frz {fr fr':Fr} {σ σ':Sg} (i:Nat) {E k:Nat} {ds:List Da} (h:BI i σ=some (.slice E k ds)) (r:Lo (Fj i (.list k ds) fr) (Dc (BM i (.list k ds)) i σ) fr' σ'):Lo fr σ fr' σ'
 |lax {fr fr':Fr} {σ σ':Sg} (t:Nat) {x y:Da} (h:get fr t=.d x) (hl:LaxA x y) (r:Lo ((t,.d y)::fr) σ fr' σ'):Lo fr σ fr' σ'
 |laxc {fr fr':Fr} {σ σ':Sg} (i:Nat) {t:TypeId} {ds es:List Dat} (h:BI i σ=some (.cells t ds)) (hl:LaxD ds es) (r:Lo fr (AX id i (.cells t es) σ) fr' σ'):Lo fr σ fr' σ'
 |same {fr fr':Fr} {σ σ':Sg} {fr1:Fr} (h:fE fr1 fr) (r:Lo fr1 σ fr' σ'):Lo fr σ fr' σ'
 |own {fr fr':Fr} {σ σ':Sg} (t i E k:Nat) (h:get fr t=.d .nils) (hi:BI i σ=none) (r:Lo ((t,.own i)::fr) ((i,.slice E k [])::σ) fr' σ'):Lo fr σ fr' σ'
 |ownc {fr fr':Fr} {σ σ':Sg} (c i E k:Nat) {t:TypeId} {ds es:List Dat} (hi:BI i σ=none) (h:BI c ((i,.slice E k [])::σ)=some (.cells t ds)) (hl:OwnF i ds es) (r:Lo fr (AX id c (.cells t es) ((i,.slice E k [])::σ)) fr' σ'):Lo fr σ fr' σ'
theorem Lo.models(h:Lo fr σ fr' σ'):∀{η:Nat->Value} {φ:Nat->List Nat},Models C B S w0 n fr σ η φ a w->∃η' φ',Models C B S w0 n fr' σ' η' φ' a w:=by
 induction h with
 |refl=>exactλhM=>⟨_,_,hM⟩
 |frz i h r ih=>exactλhM=>ih (hM.freeze h)
 |lax t h hl r ih=>exactλhM=>ih (hM.laxF h hl)
 |laxc i h hl r ih=>exactλhM=>ih (hM.laxO h hl)
 |same h r ih=>exactλhM=>ih (hM.sub h)
 |own t i E k h hi r ih=>exactλhM=>ih (hM.ownF E k h hi)
 |ownc c i E k hi h hl r ih=>exactλhM=>ih (hM.ownO E k hi h hl)
theorem AR {ι:Type}(H:ι->Prop)(I:ι->Fr)(Z:ι->Sg)(μ:ι->Nat)(x0:ι) {b:Code} {K:KE} {fr0:Fr} {σ0:Sg}(hz:∀x,yB (I x) (Z x)=true)(h0:H x0)(hf:Lo fr σ fr0 σ0)(hI:fE (I x0) fr0)(hZ:Pk (Z x0) σ0)
  (round:∀x,H x->FB C n b (λe fr σ=>match e with|.normal=>∃y fr' σ',H y/\Lo fr σ fr' σ'/\fE (I y) fr'/\Pk (Z y) σ'/\μ y<μ x|e=>K e fr σ) (I x) (Z x)):FB C n (.loop b) K fr σ:=by
 refine BY.2 λB S w0 η φ a w hM=>?_
 obtain⟨η,φ,hM⟩:=hf.models hM
 refine wp_loop_ghost (λm a w=>∃x η φ,H x/\μ x=m/\Models C B S w0 n (I x) (Z x) η φ a w) (μ x0) ⟨x0,η,φ,h0,rfl,(hM.sub hI).only (hz x0) hZ⟩ ?_
 rintro m a w ⟨x,η,φ,hx,rfl,hM⟩
 refine wp_mono (BY.1 (round x hx) B S w0 η φ a w hM) ?_
 intro e a' w' hq
 cases e with
 |
  normal=>
  obtain⟨fr',σ',η',φ',hM',y,f2,s2,h1,hf,h2,h3,h4⟩:=hq
  obtain⟨η',φ',hM'⟩:=hf.models hM'
  exact⟨μ y,h4,y,η',φ',h1,rfl,(hM'.sub h2).only (hz y) h3⟩
 |exit id=>exact hq
 |goto l=>exact hq
 |ret=>exact hq
 |panic ch=>exact hq
 |outgrown=>exact hq
theorem AE8 {o:Oper} {K:Fr->Sg->Prop}(hf:Lo fr σ fr' σ')(h:Bm C n kd o K fr' σ'):Bm C n kd o K fr σ:=by
 unfold Bm at h⊢
 intro B S w0 η φ a w hM
 obtain⟨η',φ',hM'⟩:=hf.models hM
 exact h B S w0 η' φ' a w hM'
theorem PS(hC:C.Ok T) {G:List FuncId} {o:Oper} {K:Fr->Sg->Prop}(hf:Lo fr σ fr' σ')(hks:DN C.P G o=kd\/kd=3)(h:Ty C T n kd o K fr' σ'):Bm C n kd o K fr σ:=
 AE8 hf (KW hC hks h)
theorem Models.freezeArgs(hM:Models C B S w0 n fr σ η φ a w)(hg:BI i σ=some (.slice E k ds)) {args:List Dat} {css:List (List Value)}(hr:AE η (BA σ) (B++Ao φ σ) w args css):
  AE η (BA (Dc (BM i (.list k ds)) i σ)) (B++Ao φ (Dc (BM i (.list k ds)) i σ)) w (GI i (.list k ds) args) css:=by
 have hm:=hM.mem
 have hi:=AV (AQ hg)
 have hsub:∀b∈B++Ao φ (Dc (BM i (.list k ds)) i σ),b∈B\/∃j∈BA σ,j≠i/\b∈φ j:=by
  intro b hb
  rcases Ag.1 hb with hb|hb
  ·exact .inl hb
  ·obtain⟨p,hp,hb⟩:=AL.1 hb
   obtain⟨q,hq,hne,rfl⟩:=Fh hp
   exact .inr ⟨q.1,AV hq,hne,hb⟩
 have hl:Later (B++Ao φ σ) w (B++Ao φ (Dc (BM i (.list k ds)) i σ)) w:=⟨Ax _,λ_ _ _=>rfl,λb hn _ hb=>by
  rcases hsub b hb with h|⟨j,hj,_,h⟩
  ·exact hn (Au _ h)
  ·exact hn (Av _ (B5 hj h))⟩
 have hr0:RepC (B++Ao φ (Dc (BM i (.list k ds)) i σ)) w (.list k ds) [η i]:=by
  obtain⟨css,hs,e2,hrr,hk⟩:=BV hm hg
  have hlen:=De hrr
  have hr2:=Aq.later hl _ _ hrr
  simp only[RepC]
  rcases hs.shape with⟨he,hn⟩|⟨g,cap,he,hc⟩
  ·subst hn
   have:ds=[]:=AJ hlen.symm
   subst this
   exact⟨none,0,[],by rw[he];rfl,by simp,by unfold maxLen;omega,by simp[Aq],by simp,.inl rfl⟩
  ·have hgi:g∈φ i:=by rw[e2,he];simp[Value.ownBlock]
   refine⟨_,cap,css,by rw[he,hlen],by omega,?_,hr2,hk,.inr ⟨g,0,rfl,?_,hs.lt (by rw[he];rfl),Kl hs he⟩⟩
   ·rcases hs.2 with⟨h1,_⟩|⟨_,_,_,h1,_,_,_,h2,_⟩
    ·rw[he]at h1;cases h1
    ·rw[he]at h1;cases h1;exact h2
   ·intro hb
    rcases hsub g hb with h|⟨j,hj,hne,h⟩
    ·exact PU hm hi hgi h
    ·exact hm.disj j hj i hi hne g h hgi
 exact AE.kill rfl hl (λj hj hne=>⟨by rw[DI];exact Az.2 ⟨hj,by simpa using hne⟩,rfl⟩) hr0 _ _ hr
theorem Dx(i:Nat) {q:Bool} {f:FuncId} {args:List Dat} {K:KD}(hg:BI i σ=some (.slice E k ds))(h:Cj C q f (GI i (.list k ds) args) K (Fj i (.list k ds) fr) (Dc (BM i (.list k ds)) i σ)):Cj C q f args K fr σ:=by
 unfold Cj at h⊢
 rintro B S w0 η φ n a w vs hM ⟨css,hr,rfl⟩
 have:=hM.freezeArgs hg hr
 exact h B S w0 η φ n a w _ (hM.freeze hg) ⟨css,this,by rw[FI rfl]⟩
def FN:Fr->List Nat
 |[]=>[]
 |(t,_)::fr=>t::FN fr
def Is:Fr->List Dat
 |[]=>[]
 |(_,d)::fr=>d::Is fr
def YL:List Nat->List Dat->Fr
 |t::ts,d::ds=>(t,d)::YL ts ds
 |_,_=>[]
mutual
def M0:Dat->List Nat->(List Nat->Prop)->Prop
 |.d _,J,K=>K J
 |.own i,J,K=>(match FR i J with|true=>K J|false=>K (i::J))
 |.at_ i _,J,K=>(match FR i J with|true=>K J|false=>K (i::J))
 |.el i _ _ _,J,K=>(match FR i J with|true=>K J|false=>K (i::J))
 |.agg ds,J,K=>Jk ds J K
 |.tuple ds,J,K=>Jk ds J K
 |.iface _ d,J,K=>M0 d J K
 |.func _ f c,J,K=>Jk f J λJ=>Jk c J K
def Jk:List Dat->List Nat->(List Nat->Prop)->Prop
 |[],J,K=>K J
 |d::ds,J,K=>M0 d J λJ=>Jk ds J K
end
mutual
theorem U9:∀(d:Dat) {J:List Nat} {K:List Nat->Prop},M0 d J K->∃J,K J
 |.d _,J,K,h=>⟨_,h⟩
 |.own i,J,K,h=>by simp only[M0]at h;split at h<;>exact⟨_,h⟩
 |.at_ i _,J,K,h=>by simp only[M0]at h;split at h<;>exact⟨_,h⟩
 |.el i _ _ _,J,K,h=>by simp only[M0]at h;split at h<;>exact⟨_,h⟩
 |.agg ds,J,K,h=>Gw ds (by simpa only[M0]using h)
 |.tuple ds,J,K,h=>Gw ds (by simpa only[M0]using h)
 |.iface _ d,J,K,h=>U9 d (by simpa only[M0]using h)
 |
  .func _ f c,J,K,h=>by
  simp only[M0]at h
  obtain⟨_,h⟩:=Gw f h
  exact Gw c h
theorem Gw:∀(ds:List Dat) {J:List Nat} {K:List Nat->Prop},Jk ds J K->∃J,K J
 |[],J,K,h=>⟨_,h⟩
 |
  d::ds,J,K,h=>by
  simp only[Jk]at h
  obtain⟨_,h⟩:=U9 d h
  exact Gw ds h
end
def yQ:Own->List Nat->(List Nat->Prop)->Prop
 |.cells _ ds,J,K=>Jk ds J K
 |.ghost _ ds,J,K=>Jk ds J K
 |.absd _ _ _ _ ds,J,K=>Jk ds J K
 |_,J,K=>K J
theorem rP(o:Own) {J:List Nat} {K:List Nat->Prop}(h:yQ o J K):∃J,K J:=by
 cases o with
 |cells t ds=>exact Gw ds h
 |ghost vs ds=>exact Gw ds h
 |absd R k lt one ds=>exact Gw ds h
 |slice=>exact⟨_,h⟩
 |abs=>exact⟨_,h⟩
def US:Sg->List Nat->(List Nat->Prop)->Prop
 |[],J,K=>K J
 |
  (i,o)::σ,J,K=>match FR i J with
  |true=>yQ o J λJ=>US σ J K
  |false=>US σ J K
theorem MC:∀(σ:Sg) {J:List Nat} {K:List Nat->Prop},US σ J K->∃J,K J
 |[],J,K,h=>⟨_,h⟩
 |
  (i,o)::σ,J,K,h=>by
  simp only[US]at h
  split at h
  ·obtain⟨_,h⟩:=rP o h
   exact MC σ h
  ·exact MC σ h
def G9(J:List Nat):Sg->Sg
 |[]=>[]
 |
  (i,o)::σ=>match FR i J with
  |true=>(i,o)::G9 J σ
  |false=>G9 J σ
def Yy:List Nat->(List Nat->Prop)->Prop
 |[],K=>K []
 |x::l,K=>Yy l λl=>K (x::l)
theorem Xb:∀(l:List Nat) (K:List Nat->Prop),Yy l K=K l
 |[],K=>rfl
 |x::l,K=>by simp only[Yy,Xb l]
def nQ(vs:List Value)(g:Nat)(ts J:List Nat)(K:KD):Dat->Sg->Prop:=λd σ=>DB (BI g σ) False λo=>match o with
 |.ghost us ds=>us=vs/\Ci σ λσ=>Gi (YL ts ds) λfr=>Yy J λJ=>M0 d J λJ=>Jk (Is fr) J λJ=>US σ J λJ=>US σ J λJ=>US σ J λJ=>Ci (G9 J (Dc id g σ)) λZ=>DC (yB fr Z&&ED (BA Z) d) False (K d fr Z)
 |_=>False
theorem Ry {J:List Nat}:∀{σ:Sg} {p:Nat×Own},p∈G9 J σ->p∈σ
 |[],p,h=>by simp[G9]at h
 |
  (i,o)::σ,p,h=>by
  simp only[G9]at h
  split at h
  ·rcases Ai.1 h with rfl|h
   ·simp
   ·exact A9 _ (Ry h)
  ·exact A9 _ (Ry h)
theorem Sa {o:Own}:∀{σ:Sg},(BA σ).Nodup->(i,o)∈σ->BI i σ=some o
 |[],_,h=>by cases h
 |
  (j,p)::σ,hn,h=>by
  have hn':j∉BA σ/\(BA σ).Nodup:=Cs.1 hn
  simp only[BI]
  rcases Ai.1 h with e|h
  ·cases e;simp
  ·rcases BN j i with⟨hb,e⟩|⟨hb,_⟩
   ·subst e;exact absurd (AV h) hn'.1
   ·rw[hb];exact Sa hn'.2 h
theorem ABj {Z:Sg}(h:∀p∈Z,BI p.1 σ=some p.2):Pk Z σ:=by
 induction Z with
 |nil=>trivial
 |cons p Z ih=>exact⟨h p (by simp),ih (λq hq=>h q (by simp[hq]))⟩
theorem Zs {g:Nat} {p:Nat×Own}(h:p∈Dc id g σ):p∈σ:=by
 obtain⟨q,hq,_,rfl⟩:=Fh h
 exact hq
theorem WK {p:Nat×Dat}:∀{l:Fr},p∈l->p.1∈FN l
 |[],h=>by cases h
 |
  (u,v)::l,h=>by
  simp only[FN,Ai]
  rcases Ai.1 h with rfl|h
  ·exact .inl rfl
  ·exact .inr (WK h)
theorem sM:∀{fr0:Fr},(∀t,∃cs,AH η (BA σ) (B++Ao φ σ) w (get fr0 t) cs/\a.tmps.getD t undef=Ch (get fr0 t) cs)->(FN fr0).Nodup->
  ∃css,AE η (BA σ) (B++Ao φ σ) w (Is fr0) css/\List.zipWith Ch (Is fr0) css=(FN fr0).map λt=>a.tmps.getD t undef:=by
 intro fr0 h hn
 have key:∀(l:Fr),(∀p∈l,get fr0 p.1=p.2)->∃css,AE η (BA σ) (B++Ao φ σ) w (Is l) css/\List.zipWith Ch (Is l) css=(FN l).map λt=>a.tmps.getD t undef:=by
  intro l
  induction l with
  |nil=>intro _;exact⟨[],by simp[Is,AE],rfl⟩
  |
   cons p l ih=>
   obtain⟨t,d⟩:=p
   intro hl
   obtain⟨css,h1,h2⟩:=ih (λq hq=>hl q (by simp[hq]))
   obtain⟨cs,r1,r2⟩:=h t
   have e:=hl (t,d) (by simp)
   simp only at e
   rw[e]at r1 r2
   exact⟨cs::css,by simp only[Is,AE];exact⟨cs,css,rfl,r1,h1⟩,by simp only[Is,FN,Bh,Ar,h2,r2]⟩
 refine key fr0 ?_
 clear key h
 intro p hp
 induction fr0 with
 |nil=>cases hp
 |
  cons q l ih=>
  obtain⟨s,e⟩:=q
  simp only[FN,Cs]at hn
  rcases Ai.1 hp with rfl|hp
  ·simp[get]
  ·have hne:s≠p.1:=λe'=>hn.1 (e'▸WK hp)
   simp only[get]
   rcases BN s p.1 with⟨_,e'⟩|⟨hb,_⟩
   ·exact absurd e' hne
   ·rw[hb];exact ih hn.2 hp
theorem bX {I O:List Nat}:∀(ts:List Nat) (ds:List Dat) {css:List (List Value)} (vs:List Value),AE η I O w ds css->List.zipWith Ch ds css=vs->(∀(j:Nat) (t:Nat) (u:Value),ts[j]? =some t->vs[j]? =some u->a.tmps.getD t undef=u)->∀t,∃cs,AH η I O w (get (YL ts ds) t) cs/\a.tmps.getD t undef=Ch (get (YL ts ds) t) cs
 |[],ds,css,vs,_,_,_,t=>⟨[a.tmps.getD t undef],by simp[YL,get,AH,RepC],rfl⟩
 |s::ts,[],css,vs,_,_,_,t=>⟨[a.tmps.getD t undef],by simp[YL,get,AH,RepC],rfl⟩
 |
  s::ts,d::ds,css,vs,h,e,hv,t=>by
  simp only[AE]at h
  obtain⟨c1,c2,rfl,h1,h2⟩:=h
  simp only[Bh]at e
  subst e
  simp only[YL,get]
  rcases BN s t with⟨hb,e'⟩|⟨hb,_⟩<;>rw[hb]
  ·subst e'
   exact⟨c1,h1,hv 0 s _ rfl rfl⟩
  ·exact bX ts ds _ h2 rfl (λj t u hj hu=>hv (j+1) t u (by simpa using hj) (by simpa using hu)) t
theorem MS(g:Nat)(F:Fr)(hC:C.Ok T) {G:List FuncId} {pl:List (Nat×Plan)} {f:FuncId} {fn:Func} {c:Code} {m:Nat} {args:List Dat} {K:KD}(hf:C.P.funcs[f]? =some fn)(hb:fn.body=some c)(hn:fn.ntmps=m)
  (hrun:∀(vs:Array Value) (w:World),(callFunc f vs).run C.P w=.ok (.enter f vs) w) (hk:CH C.P G pl c=true) (hl:args.length<=m) (hg:BI g σ=none) (hF:fE F fr) (hts:aC (FN F)=true)
  (h:∀vs,En C T m pl c (J8 T fn.results.toList (nQ vs g (FN F) (BA σ) K)) (params args 0) (Fm g (.ghost vs (Is F)) σ)):Cj C false f args K fr σ:=by
 unfold Cj
 rintro B S w0 η φ n a w vs hM ⟨css,hr,rfl⟩
 refine⟨hrun _ _,?_⟩
 have hM1:=hM.sub hF
 obtain⟨gss,g1,g2⟩:=sM hM1.fr (Mu hts)
 have hg':=CQ hg
 obtain⟨hm,hl2⟩:=hM1.mem.add (Tch.refl [] w) hg' (v:=.nilFunc) (F:=[]) (o:=.ghost ((FN F).map λt=>a.tmps.getD t undef) (Is F)) (by simp) (by
  refine⟨rfl,rfl,gss,AE.later (O:=B++Ao φ σ) (w:=w) ?_ (λj hj=>⟨A9 _ hj,BU η g Value.nilFunc (λ(e:j=g)=>hg' (e▸hj))⟩) _ _ g1,g2.symm⟩
  simpa using Later.same (Tch.refl [] w) _)
 have hr':=AE.later (η':=CE η g Value.nilFunc) (I':=BA ((g,Own.ghost ((FN F).map λt=>a.tmps.getD t undef) (Is F))::σ)) hl2 (λj hj=>⟨A9 _ hj,BU η g Value.nilFunc (λ(e:j=g)=>hg' (e▸hj))⟩) _ _ hr
 have hMm:Models C B S w0 n [] ((g,.ghost ((FN F).map λt=>a.tmps.getD t undef) (Is F))::σ) (CE η g .nilFunc) (CE φ g []) a w:=⟨hm,λt=>⟨[a.tmps.getD t undef],by simp[get,AH,RepC],rfl⟩,hM.defers,hM.size⟩
 have hMp:=hMm.perm (C7 g (.ghost ((FN F).map λt=>a.tmps.getD t undef) (Is F)) σ)
 have hsame:Later (B++Ao (CE φ g []) ((g,Own.ghost ((FN F).map λt=>a.tmps.getD t undef) (Is F))::σ)) w (B++Ao (CE φ g []) (Fm g (.ghost ((FN F).map λt=>a.tmps.getD t undef) (Is F)) σ)) w:=⟨Ax _,λ_ _ _=>rfl,λb hn _ hm=>by
  rcases Ag.1 hm with hm|hm
  ·exact hn (Au _ hm)
  ·obtain⟨p,hp,hb⟩:=AL.1 hm
   exact hn (Av _ (AL.2 ⟨p,(P4 _ _ _ _).1 hp,hb⟩))⟩
 have hr2:=AE.later (η':=CE η g Value.nilFunc) (I':=BA (Fm g (.ghost ((FN F).map λt=>a.tmps.getD t undef) (Is F)) σ)) hsame (λj hj=>⟨by
  obtain⟨p,hp,rfl⟩:=An.1 hj
  exact AV ((P4 _ _ _ _).2 hp),rfl⟩) _ _ hr'
 refine(Hg hC hf hb hn hk hr2 hl hMp.mem (h _)).mono ?_
 rintro e w' ⟨v,d,σ',η',φ',rfl,hK,hm',hv⟩
 unfold nQ at hK
 rcases Bz hK with hK|⟨o,ho,hK⟩
 ·exact hK.elim
 split at hK
 ·rename_i us es
  obtain⟨rfl,hK⟩:=hK
  rw[Bw,Ei,Xb]at hK
  obtain⟨_,hK⟩:=U9 _ hK
  obtain⟨_,hK⟩:=Gw _ hK
  obtain⟨_,hK⟩:=MC _ hK
  obtain⟨_,hK⟩:=MC _ hK
  obtain⟨_,hK⟩:=MC _ hK
  rw[Bw]at hK
  rcases B9 hK with hK|⟨hz,hK⟩
  ·exact hK.elim
  rw[Ap]at hz
  obtain⟨q1,q2,qss,q3,q4⟩:=hm'.own _ (AQ ho)
  have hM2:Models C B S w0 n (YL (FN F) es) σ' η' φ' a w':=⟨hm',bX _ _ _ q3 q4.symm (λj t u hj hu=>by
   rw[Ad,hj]at hu
   simpa using hu),hM.defers,hM.size⟩
  generalize hZ:G9 _ (Dc id g σ')=Z at hz hK
  have hsub:Pk Z σ':=ABj λp hp=>Sa hm'.nodup (Zs (Ry (hZ▸hp)))
  have hlZ:Later (B++Ao φ' σ') w' (B++Ao φ' Z) w':=⟨Ax _,λ_ _ _=>rfl,λb hn _ hb=>by
   rcases Ag.1 hb with hb|hb
   ·exact hn (Au _ hb)
   ·obtain⟨p,hp,hb⟩:=AL.1 hb
    exact hn (Av _ (B5 (AV (hsub.mem p hp)) hb))⟩
  obtain⟨cs,v1,v2⟩:=hv
  exact⟨v,d,_,Z,η',φ',rfl,hK,hM2.only hz.1 hsub,⟨cs,AH.only hlZ _ _ hz.2 v1,v2⟩,λh=>by cases h⟩
 ·exact hK.elim
theorem Aj {l:List Oper} {ks p:List Nat} {K:Fr->Sg->Prop} {B:Prop}(h1:I5 C T n l ks K p fr σ)(h2:B):I5 C T n l ks K p fr σ/\B:=⟨h1,h2⟩
theorem Zm(m:Nat) {x:Int} {len:Nat} {K:Nat->Prop}(h:x=m)(hl:m<=len)(hK:K m):∃m:Nat,x=m/\m<=len/\K m:=⟨m,h,hl,hK⟩
theorem Lb {vs:List Value} {K:Prop}(h:K):vs=vs/\K:=⟨rfl,h⟩
theorem ify {p A B:Prop}(h:A)(hp:p:=by first|omega|rfl|assumption|exact⟨rfl,rfl⟩|exact⟨rfl,rfl,rfl⟩|exact⟨rfl,rfl,rfl,rfl⟩):(p->A)/\(¬p->B):=zG hp h
theorem ifn {p A B:Prop}(h:B)(hp:¬p:=by first|omega|assumption|exactλh=>h rfl|exactλh=>h (by assumption)|exactλh=>h ⟨rfl,rfl⟩|exactλh=>h ⟨rfl,rfl,rfl⟩|exactλh=>h ⟨rfl,rfl,rfl,rfl⟩):(p->A)/\(¬p->B):=nS hp h
theorem i6 {e:Int} {K:Int->Prop}(hK:K e)(h:-9223372036854775808<=e/\e<=9223372036854775807:=by omega):∃n,IntKind.i64.wrap e=n/\K n:=HP h hK
theorem ati {α:Type} {f:α->Da} {l:List α} {i:Nat} {n:Int} {x:α} {K:Nat->Da->Prop}(hK:K i (f x))(hn:n=i:=by rfl)(hx:l[i]? =some x:=by assumption):∃(j:Nat) (d:Da),n=j/\(l.map f)[j]? =some d/\K j d:=ACZ hn hx hK
theorem mst {a b:Nat} {K:Prop}(hK:K)(h:a<=4294967296:=by((try simp only[Ah,Ac,Aw,Bt,AA,List.length_drop,Di,B8]);omega))(hb:Nat.ble b 32768=true:=by rfl)(h0:Nat.blt 0 b=true:=by rfl):a<=HN b/\K:=JE h hK hb h0
theorem rmd {b:Int} {K:Prop}(hK:K)(h:b≠0:=by first|decide|omega):b≠0/\K:=wF h hK
theorem AD {p A B:Prop}(h:p->A)(h2:¬p->B):(p->A)/\(¬p->B):=⟨h,h2⟩
theorem odw {l:List Oper} {ks p:List Nat} {K:Fr->Sg->Prop} {B:Prop}(h2:B)(h1:I5 C T n l ks K p fr σ:=by((conv=>whnf);(repeat' ((first|refine nx ?_|refine AD (λ_=>?_) (λ_=>?_))<;>conv=>whnf));(all_goals (repeat' (first|exact trivial|exact rfl|refine And.intro ?_ ?_))))):I5 C T n l ks K p fr σ/\B:=⟨h1,h2⟩
end
theorem AG {F fr:Fr} {Z σ:Sg}(h:fE F fr:=by(repeat' (first|exact trivial|exact rfl|refine And.intro ?_ ?_)))(h2:σ=Z:=by exact rfl):fE F fr/\σ=Z:=⟨h,h2⟩
def Ti(Q P:Prop):Prop:=Q->P
section
variable {Q:Prop}
theorem Ti.id:Ti Q Q:=λq=>q
theorem Ti.ify {p A B:Prop}(h:Ti Q A)(hp:p:=by first|omega|rfl|assumption|exact⟨rfl,rfl⟩|exact⟨rfl,rfl,rfl⟩|exact⟨rfl,rfl,rfl,rfl⟩):Ti Q ((p->A)/\(¬p->B)):=λq=>zG hp (h q)
theorem Ti.ifn {p A B:Prop}(h:Ti Q B)(hp:¬p:=by first|omega|assumption|exactλh=>h rfl|exactλh=>h (by assumption)|exactλh=>h ⟨rfl,rfl⟩|exactλh=>h ⟨rfl,rfl,rfl⟩|exactλh=>h ⟨rfl,rfl,rfl,rfl⟩):Ti Q ((p->A)/\(¬p->B)):=λq=>nS hp (h q)
theorem Ti.i6 {e:Int} {K:Int->Prop}(hK:Ti Q (K e))(h:-9223372036854775808<=e/\e<=9223372036854775807:=by omega):Ti Q (∃n,IntKind.i64.wrap e=n/\K n):=λq=>HP h (hK q)
theorem Ti.ati {α:Type} {f:α->Da} {l:List α} {i:Nat} {n:Int} {x:α} {K:Nat->Da->Prop}(hK:Ti Q (K i (f x)))(hn:n=i:=by rfl)(hx:l[i]? =some x:=by assumption):Ti Q (∃(j:Nat) (d:Da),n=j/\(l.map f)[j]? =some d/\K j d):=λq=>ACZ hn hx (hK q)
theorem Ti.mst {a b:Nat} {K:Prop}(hK:Ti Q K)(h:a<=4294967296:=by((try simp only[Ah,Ac,Aw,Bt,AA,List.length_drop,Di,B8]);omega))(hb:Nat.ble b 32768=true:=by rfl)(h0:Nat.blt 0 b=true:=by rfl):Ti Q (a<=HN b/\K):=λq=>JE h (hK q) hb h0
theorem Ti.rmd {b:Int} {K:Prop}(hK:Ti Q K)(h:b≠0:=by first|decide|omega):Ti Q (b≠0/\K):=λq=>wF h (hK q)
theorem nx {P:Prop}(h:Q)(w:Ti Q P:=by first|exact .ify .id|exact .ifn .id|exact .i6 .id|exact .ati .id|exact .mst .id|exact .rmd .id):P:=w h
theorem Ti.odw {C:Cx} {T:Hh} {n:Nat} {fr:Fr} {σ:Sg} {l:List Oper} {ks p:List Nat} {K:Fr->Sg->Prop} {B:Prop}(h2:Ti Q B)(h1:I5 C T n l ks K p fr σ:=by((conv=>whnf);(repeat' ((first|refine Go.Sx.nx ?_|refine AD (λ_=>?_) (λ_=>?_))<;>conv=>whnf));(all_goals (repeat' (first|exact trivial|exact rfl|refine And.intro ?_ ?_))))):Ti Q (I5 C T n l ks K p fr σ/\B):=λq=>⟨h1,h2 q⟩
end
end Go.Sx
